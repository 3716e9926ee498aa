/-
  Merged texts: lemmas and walks that the last text of this claim leans on.
-/
import Derived.Test.YtjigjjbhdgpfjaaDoorMgB725
import Derived.Test.YtjigjjbhdgpfjaaDoorMgB733
import Derived.Test.YtjigjjbhdgpfjaaDoorMgB715
import Derived.Test.YtjigjjbhdgpfjaaDoorMgB716
import Derived.Test.YtjigjjbhdgpfjaaDoorMgB726
import Derived.Test.YtjigjjbhdgpfjaaDoorMgB71
/-
  The walk through the law DecomposeExpanded.
-/
namespace Go.Proofs.YtjigjjbhdgpfjaaDoor
open Go.RowKit ND

theorem ints_cap {w : World} {B : Nat} {k : IntKind} {A : Option Addr} {c n : Nat} {xs : List Int} (hi : Ints w B k (.slice A n c) xs) : xs.length ≤ c := by
  obtain ⟨A', c', e, h1, _⟩ := hi
  cases e; exact h1
theorem equiv_short {T : Tab} (hck : T.check = 0) {a b : List Int} (ha : a.all scalarB = true) (hal : a.length ≤ 200) (hb : b.all scalarB = true) (hbl : b.length ≤ 200) : equivR T a b = (decide (nfdL T a = nfdL T b), 0) := by
  unfold equivR
  rw [nfd_short hck ha hal, nfd_short hck hb hbl]
  rfl
theorem equiv_eq {T : Tab} {t : Tv} {v u : Value} {xs us : List Int} {w : World} {b : Bool} (ht : TabR w w.heap.size t T) (hg : Glob w) (hv : Ints w w.heap.size .i64 v xs) (hu : Ints w w.heap.size .i64 u us) (hr : equivR T xs us = (b, 0)) :
    Calls Tryd.prog 27 #[t.val, v, u] w fun e w' => e = .returned (.tuple #[.bool b, .int .i64 0]) ∧ Below w.heap.size w w' := by
  have h := equiv7_any t T v xs u us w ht hg hv hu
  rw [hr] at h; exact h
/-- A code point of a sequence, replaced by its full decomposition. -/
theorem put_nfd {T : Tab} (hck : T.check = 0) {a : List Int} {k : Nat} {c : Int} (hc : a[k]? = some c) (hs : a.all scalarB = true) (hl : a.length ≤ 100) :
    equivR T a ((a.take k).drop 0 ++ oneL T c ++ (a.take a.length).drop (k + 1)) = (true, 0) ∧ 1 ≤ (oneL T c).length ∧ (oneL T c).length ≤ 18 := by
  obtain ⟨hk, hce⟩ := List.getElem?_eq_some_iff.1 hc
  have hcs : scalarB c = true := (List.all_eq_true.1 hs) c (List.mem_of_getElem? hc)
  have ho : oneL T c = expandL T c := by unfold oneL; rw [if_pos ⟨hcs, hck⟩]
  have hd := decOk_of hck
  obtain ⟨l1, l2⟩ := expandL_len hd c
  have ha : a = a.take k ++ c :: a.drop (k + 1) := by
    rw [← hce, ← List.drop_eq_getElem_cons hk, List.take_append_drop]
  rw [ho, List.drop_zero, List.take_length]
  have hf : nfdL T (a.take k ++ expandL T c ++ a.drop (k + 1)) = nfdL T a := by
    unfold nfdL
    rw [flatD_put hd, ← ha]
  refine ⟨?_, l1, l2⟩
  rw [equiv_short hck hs (by omega) ?_ ?_, hf, decide_eq_true rfl]
  · rw [List.all_eq_true] at *
    intro x hx
    rw [List.mem_append, List.mem_append] at hx
    rcases hx with (h | h) | h
    · exact hs x (List.mem_of_mem_take h)
    · exact expandL_scal hd hcs h
    · exact hs x (List.mem_of_mem_drop h)
  · rw [List.length_append, List.length_append, List.length_take, List.length_drop]
    omega

/-- What holds ahead of region 6. -/
structure ex6Ctx (w0 : World) (b : Nat) (t : Tv) (T : Tab) (ad : Addr) (ca : Nat) (as_ : List Int) (kx : Nat) (c : Int) : Prop where
  tb : Tbl w0 b t T
  g : Glob w0
  ha : ad.block < w0.heap.size
  ce : w0.cell? (ad.add kx) = some (.int .i64 c)
  k1 : kx < as_.length
def ex6Specs (t : Tv) (T : Tab) (ad : Addr) (ca : Nat) (as_ : List Int) (kx : Nat) (c : Int) : List SpecK := [.val t.val, .val (.slice (some ad) as_.length ca), .val (.int .i64 (kx : Int)), .val (.pointer (some (ad.add kx))), .val (.int .i64 c), .lst (· = oneL T c), .lst (· = oneL T c)]
def ex6Fixed (b : Nat) (ad : Addr) (ca : Nat) (as_ : List Int) (kx : Nat) : List (Tmp × Value) := [(7, .pointer (some ⟨b, 0, none⟩)), (8, .slice (some ad) as_.length ca), (9, .int .i64 (kx : Int))]
def ex6Ob (w0 : World) (b : Nat) (t : Tv) (T : Tab) (ad : Addr) (ca : Nat) (as_ : List Int) (kx : Nat) (c : Int) (Q : Exit → Act → World → Prop) (k : Nat) : Prop := ObR 24 Tryd.prog (opsAt Tryd.f8 6) 63 [] (ex6Fixed b ad ca as_ kx) w0 (ex6Specs t T ad ca as_ kx c) [] Q k
section
variable {w0 : World} {b : Nat} {t : Tv} {T : Tab} {ad : Addr} {ca : Nat} {as_ : List Int} {kx : Nat} {c : Int} {Q : Exit → Act → World → Prop}
theorem ex6_ob0 (H : ex6Ctx w0 b t T ad ca as_ kx c) : ex6Ob w0 b t T ad ca as_ kx c Q 0 := by
  intro o ho a w hb hf hd K hK
  rw [if_pos (wanted_none _ (get_op (·.guard) ho (by kernel_rfl)))]
  exact ob_value (load_tab (H.tb.later hb) (get_op (·.op) ho (by kernel_rfl)) (eval_tmp (hf.2.2 (7, _) (by simp [ex6Fixed])))) (hK _ _ (rk_of rfl rfl) (.inl (Below.refl _ _)))
theorem ex6_ob1 : ex6Ob w0 b t T ad ca as_ kx c Q 1 := by
  intro o ho a w hb hf hd K hK
  rw [if_pos (wanted_none _ (get_op (·.guard) ho (by kernel_rfl)))]
  exact ob_move (get_op (·.op) ho (by kernel_rfl)) (eval_tmp (hf.2.2 (8, _) (by simp [ex6Fixed]))) (hK _ _ (rk_of rfl rfl) (.inl (Below.refl _ _)))
theorem ex6_ob2 : ex6Ob w0 b t T ad ca as_ kx c Q 2 := by
  intro o ho a w hb hf hd K hK
  rw [if_pos (wanted_none _ (get_op (·.guard) ho (by kernel_rfl)))]
  exact ob_move (get_op (·.op) ho (by kernel_rfl)) (eval_tmp (hf.2.2 (9, _) (by simp [ex6Fixed]))) (hK _ _ (rk_of rfl rfl) (.inl (Below.refl _ _)))
theorem ex6_ob3 (H : ex6Ctx w0 b t T ad ca as_ kx c) : ex6Ob w0 b t T ad ca as_ kx c Q 3 := by
  intro o ho a w hb hf hd K hK
  rw [if_pos (wanted_none _ (get_op (·.guard) ho (by kernel_rfl)))]
  obtain ⟨v1, h1, e1⟩ := dep_k (F := 24) ho hd 1 27 (.val (.slice (some ad) as_.length ca)) (by kernel_rfl) (by kernel_rfl) rfl (by kernel_rfl)
  obtain rfl : _ = v1 := Eq.symm e1
  obtain ⟨v2, h2, e2⟩ := dep_k (F := 24) ho hd 2 28 (.val (.int .i64 (kx : Int))) (by kernel_rfl) (by kernel_rfl) rfl (by kernel_rfl)
  obtain rfl : _ = v2 := Eq.symm e2
  have q0 : (0 : Int) ≤ (kx : Int) := by omega
  have q1 : (kx : Int) < (as_.length : Int) := by have := H.k1; omega
  have hop : o.op = .indexAddr 22 (.tmp 27) (.tmp 28) := (get_op (·.op) ho (by kernel_rfl))
  have hr : (execOp a.eval o).run Tryd.prog w = .ok (.value (.pointer (some (ad.add kx)))) w := by
    unfold execOp
    rw [hop]
    go_simp
  exact ob_run5 hr (hK _ _ (rk_of rfl rfl) (.inl (Below.refl _ _)))
theorem ex6_ob4 (H : ex6Ctx w0 b t T ad ca as_ kx c) : ex6Ob w0 b t T ad ca as_ kx c Q 4 := by
  intro o ho a w hb hf hd K hK
  rw [if_pos (wanted_none _ (get_op (·.guard) ho (by kernel_rfl)))]
  obtain ⟨v3, h3, e3⟩ := dep_k (F := 24) ho hd 3 29 (.val (.pointer (some (ad.add kx)))) (by kernel_rfl) (by kernel_rfl) rfl (by kernel_rfl)
  obtain rfl : _ = v3 := Eq.symm e3
  have e1 := (hb.cell (p := ad.add kx) (by rw [block_of_add]; exact H.ha)).trans H.ce
  have hop : o.op = .load 3 (.tmp 29) := (get_op (·.op) ho (by kernel_rfl))
  have hr : (execOp a.eval o).run Tryd.prog w = .ok (.value (.int .i64 c)) w := by
    unfold execOp
    rw [hop]
    go_simp
  exact ob_run5 hr (hK _ _ (rk_of rfl rfl) (.inl (Below.refl _ _)))
theorem ex6_ob5 (H : ex6Ctx w0 b t T ad ca as_ kx c) : ex6Ob w0 b t T ad ca as_ kx c Q 5 := by
  intro o ho a w hb hf hd K hK
  rw [if_pos (wanted_none _ (get_op (·.guard) ho (by kernel_rfl)))]
  obtain ⟨v0, h0, e0⟩ := dep_k (F := 24) ho hd 0 26 (.val t.val) (by kernel_rfl) (by kernel_rfl) rfl (by kernel_rfl)
  obtain rfl : _ = v0 := Eq.symm e0
  obtain ⟨v4, h4, e4⟩ := dep_k (F := 24) ho hd 4 30 (.val (.int .i64 c)) (by kernel_rfl) (by kernel_rfl) rfl (by kernel_rfl)
  obtain rfl : _ = v4 := Eq.symm e4
  refine ob_enter (enter2 (tys := #[26, 3]) (x := .tmp 26) (y := .tmp 30) (get_op (·.op) ho (by kernel_rfl)) (eval_tmp h0) (eval_tmp h4) (fun args w => enters_of Tryd.func12 (by kernel_rfl) rfl args w)) (one7_any t T c w (H.tb.later hb).2 (H.g.later hb)) fun e w' ⟨v, he, h2, h1⟩ => ⟨v, he, ?_⟩
  exact hK _ _ (rk_of rfl ⟨_, Ints.of_own h2, rfl⟩) (.inl h1)
theorem ex6_ob6 : ex6Ob w0 b t T ad ca as_ kx c Q 6 := by
  intro o ho a w hb hf hd K hK
  rw [if_pos (wanted_none _ (get_op (·.guard) ho (by kernel_rfl)))]
  obtain ⟨v5, h5, e5⟩ := dep_k (F := 24) ho hd 5 31 (.lst (· = oneL T c)) (by kernel_rfl) (by kernel_rfl) rfl (by kernel_rfl)
  exact ob_assign (get_op (·.op) ho (by kernel_rfl)) (eval_tmp h5) (hK _ _ (rk_of rfl e5) (.inl (Below.refl _ _)))
theorem ex6_obs (H : ex6Ctx w0 b t T ad ca as_ kx c) (k : Nat) (hk : k < 7) : ex6Ob w0 b t T ad ca as_ kx c Q k := by
  match k, hk with
  | 0, _ => exact ex6_ob0 H
  | 1, _ => exact ex6_ob1
  | 2, _ => exact ex6_ob2
  | 3, _ => exact ex6_ob3 H
  | 4, _ => exact ex6_ob4 H
  | 5, _ => exact ex6_ob5 H
  | 6, _ => exact ex6_ob6
  | m + 7, h => exact absurd h (by omega)
theorem ex6_region {a : Act} (H : ex6Ctx w0 b t T ad ca as_ kx c) (hf : FS 63 [] (ex6Fixed b ad ca as_ kx) a)
    (hend : ∀ a w, Below w0.heap.size w0 w → FS 63 [] (ex6Fixed b ad ca as_ kx) a → (∀ (i : Nat) (o : Oper) (d : Tmp), (opsAt Tryd.f8 6)[i]? = some o → (∀ j, killK (ex6Specs t T ad ca as_ kx c) [] i j = false) → o.dst = some d → ∃ v, a.tmps[d]? = some v ∧ RK w0.heap.size (ex6Specs t T ad ca as_ kx c) i v w) → Q .normal a w) : (Code.region 6 (opsAt Tryd.f8 6) true).wp Tryd.prog Q a w0 := by
  refine wp_region_k 24 (n := 63) (ds := []) (fixed := ex6Fixed b ad ca as_ kx) (specs := ex6Specs t T ad ca as_ kx c) (apps := []) (by kernel_rfl) (by kernel_rfl) (by kernel_rfl) (by kernel_rfl) hf (fun i hi => ex6_obs H i ?_) hend
  have hn : (opsAt Tryd.f8 6).size = 7 := by kernel_rfl
  omega
theorem ex6_region2 {a : Act} (H : ex6Ctx w0 b t T ad ca as_ kx c) (hf : FS 63 [] (ex6Fixed b ad ca as_ kx) a)
    (hend : ∀ a' w, Below w0.heap.size w0 w → FS 63 [] (ex6Fixed b ad ca as_ kx) a' → (∀ i, i < 63 → freeOf (opsAt Tryd.f8 6) i = true → a'.tmps[i]? = a.tmps[i]?) → (∀ (i : Nat) (o : Oper) (d : Tmp), (opsAt Tryd.f8 6)[i]? = some o → (∀ j, killK (ex6Specs t T ad ca as_ kx c) [] i j = false) → o.dst = some d → ∃ v, a'.tmps[d]? = some v ∧ RK w0.heap.size (ex6Specs t T ad ca as_ kx c) i v w) → Q .normal a' w) : (Code.region 6 (opsAt Tryd.f8 6) true).wp Tryd.prog Q a w0 := by
  refine wp_region_k2 24 (n := 63) (ds := []) (fixed := ex6Fixed b ad ca as_ kx) (specs := ex6Specs t T ad ca as_ kx c) (apps := []) (by kernel_rfl) (by kernel_rfl) (by kernel_rfl) (by kernel_rfl) hf (fun i hi => ex6_obs H i ?_) hend
  have hn : (opsAt Tryd.f8 6).size = 7 := by kernel_rfl
  omega
end

/-- What holds ahead of region 7. -/
structure ex7Ctx (w0 : World) (ad : Addr) (ca : Nat) (as_ : List Int) (kx : Nat) (B : Option Addr) (cb : Nat) (ds : List Int) : Prop where
  la : Ints w0 w0.heap.size .i64 (.slice (some ad) as_.length ca) as_
  lb : Ints w0 w0.heap.size .i64 (.slice B ds.length cb) ds
  k1 : kx < as_.length
  na : as_.length ≤ 2000
  nb : ds.length ≤ 2000
def ex7Specs (ad : Addr) (ca : Nat) (as_ : List Int) (kx : Nat) (ds : List Int) : List SpecK := [.val (.slice (some ad) as_.length ca), .val (.int .i64 (kx : Int)), .low (· = (as_.take kx).drop 0), .own ((as_.take kx).drop 0), .low (· = ds), .own ((as_.take kx).drop 0 ++ ds), .val (.slice (some ad) as_.length ca), .val (.int .i64 (kx : Int)), .val (.int .i64 ((kx : Int) + 1)), .low (· = (as_.take as_.length).drop (kx + 1)), .own ((as_.take kx).drop 0 ++ ds ++ (as_.take as_.length).drop (kx + 1)), .own ((as_.take kx).drop 0 ++ ds ++ (as_.take as_.length).drop (kx + 1))]
def ex7Fixed (ad : Addr) (ca : Nat) (as_ : List Int) (kx : Nat) (B : Option Addr) (cb : Nat) (ds : List Int) : List (Tmp × Value) := [(8, .slice (some ad) as_.length ca), (9, .int .i64 (kx : Int)), (10, .slice B ds.length cb)]
def ex7Ob (w0 : World) (ad : Addr) (ca : Nat) (as_ : List Int) (kx : Nat) (B : Option Addr) (cb : Nat) (ds : List Int) (Q : Exit → Act → World → Prop) (k : Nat) : Prop := ObR 24 Tryd.prog (opsAt Tryd.f8 7) 63 [] (ex7Fixed ad ca as_ kx B cb ds) w0 (ex7Specs ad ca as_ kx ds) [5, 10] Q k
section
variable {w0 : World} {ad : Addr} {ca : Nat} {as_ : List Int} {kx : Nat} {B : Option Addr} {cb : Nat} {ds : List Int} {Q : Exit → Act → World → Prop}
theorem ex7_ob0 : ex7Ob w0 ad ca as_ kx B cb ds Q 0 := by
  intro o ho a w hb hf hd K hK
  rw [if_pos (wanted_none _ (get_op (·.guard) ho (by kernel_rfl)))]
  exact ob_move (get_op (·.op) ho (by kernel_rfl)) (eval_tmp (hf.2.2 (8, _) (by simp [ex7Fixed]))) (hK _ _ (rk_of rfl rfl) (.inl (Below.refl _ _)))
theorem ex7_ob1 : ex7Ob w0 ad ca as_ kx B cb ds Q 1 := by
  intro o ho a w hb hf hd K hK
  rw [if_pos (wanted_none _ (get_op (·.guard) ho (by kernel_rfl)))]
  exact ob_move (get_op (·.op) ho (by kernel_rfl)) (eval_tmp (hf.2.2 (9, _) (by simp [ex7Fixed]))) (hK _ _ (rk_of rfl rfl) (.inl (Below.refl _ _)))
theorem ex7_ob2 (H : ex7Ctx w0 ad ca as_ kx B cb ds) : ex7Ob w0 ad ca as_ kx B cb ds Q 2 := by
  intro o ho a w hb hf hd K hK
  rw [if_pos (wanted_none _ (get_op (·.guard) ho (by kernel_rfl)))]
  obtain ⟨v0, h0, e0⟩ := dep_k (F := 24) ho hd 0 32 (.val (.slice (some ad) as_.length ca)) (by kernel_rfl) (by kernel_rfl) rfl (by kernel_rfl)
  obtain rfl : _ = v0 := Eq.symm e0
  obtain ⟨v1, h1, e1⟩ := dep_k (F := 24) ho hd 1 33 (.val (.int .i64 (kx : Int))) (by kernel_rfl) (by kernel_rfl) rfl (by kernel_rfl)
  obtain rfl : _ = v1 := Eq.symm e1
  exact ob_slice_h (k := (kx : Int)) (get_op (·.op) ho (by kernel_rfl)) (eval_tmp h0) (eval_tmp h1) (by omega) (by have := ints_cap H.la; have := H.k1; omega) (hK _ _ (rk_of rfl ⟨_, ints_part (H.la.below hb) (l := 0) (h := kx) (by omega) (by have := H.k1; omega), rfl⟩) (.inl (Below.refl _ _)))
theorem ex7_ob3 (H : ex7Ctx w0 ad ca as_ kx B cb ds) : ex7Ob w0 ad ca as_ kx B cb ds Q 3 := by
  intro o ho a w hb hf hd K hK
  rw [if_pos (wanted_none _ (get_op (·.guard) ho (by kernel_rfl)))]
  obtain ⟨v2, h2, e2⟩ := dep_k (F := 24) ho hd 2 34 (.low (· = (as_.take kx).drop 0)) (by kernel_rfl) (by kernel_rfl) rfl (by kernel_rfl)
  obtain ⟨_, hi1, rfl⟩ := e2
  obtain ⟨i0, hi, hz, hz1, hz2⟩ := info_parts Tryd.infoInt'
  refine ob_app_ints (.const (.slice none 0 0)) (.tmp 34) (get_op (·.op) ho (by kernel_rfl)) Tryd.underlying22 hi hz hz1 hz2 _ w0.heap.size (.slice none 0 0) [] _ _ rfl (World.ownsRow_nil _ _ _ _) (eval_tmp h2) hi1 (by have := H.na; simp; omega) hb.size fun v' w' hv' hg => ?_
  exact hK _ _ (rk_of rfl (by simpa [SpecK.ok] using hv')) (.inl ((Below.refl _ _).grown hg (Nat.le_refl _) (fun k hk => by cases hk)))
theorem ex7_ob4 (H : ex7Ctx w0 ad ca as_ kx B cb ds) : ex7Ob w0 ad ca as_ kx B cb ds Q 4 := by
  intro o ho a w hb hf hd K hK
  rw [if_pos (wanted_none _ (get_op (·.guard) ho (by kernel_rfl)))]
  exact ob_move (get_op (·.op) ho (by kernel_rfl)) (eval_tmp (hf.2.2 (10, _) (by simp [ex7Fixed]))) (hK _ _ (rk_of rfl ⟨_, H.lb.below hb, rfl⟩) (.inl (Below.refl _ _)))
theorem ex7_ob5 (H : ex7Ctx w0 ad ca as_ kx B cb ds) : ex7Ob w0 ad ca as_ kx B cb ds Q 5 := by
  intro o ho a w hb hf hd K hK
  rw [if_pos (wanted_none _ (get_op (·.guard) ho (by kernel_rfl)))]
  obtain ⟨v4, h4, e4⟩ := dep_k (F := 24) ho hd 4 36 (.low (· = ds)) (by kernel_rfl) (by kernel_rfl) rfl (by kernel_rfl)
  obtain ⟨_, hi1, rfl⟩ := e4
  obtain ⟨i0, hi, hz, hz1, hz2⟩ := info_parts Tryd.infoInt'
  obtain ⟨v3, h3, e3⟩ := dep_k (F := 24) ho hd 3 35 (.own ((as_.take kx).drop 0)) (by kernel_rfl) (by kernel_rfl) rfl (by kernel_rfl)
  refine ob_app_ints (.tmp 35) (.tmp 36) (get_op (·.op) ho (by kernel_rfl)) Tryd.underlying22 hi hz hz1 hz2 _ w0.heap.size v3 _ _ _ (eval_tmp h3) e3 (eval_tmp h4) hi1 (by have := H.na; have := H.nb; simp; omega) hb.size fun v' w' hv' hg => ?_
  exact hK _ _ (rk_of rfl hv') (.inr ⟨rfl, (Below.refl _ _).grown hg hb.size (fun k hk => (e3.lt k hk).1)⟩)
theorem ex7_ob6 : ex7Ob w0 ad ca as_ kx B cb ds Q 6 := by
  intro o ho a w hb hf hd K hK
  rw [if_pos (wanted_none _ (get_op (·.guard) ho (by kernel_rfl)))]
  exact ob_move (get_op (·.op) ho (by kernel_rfl)) (eval_tmp (hf.2.2 (8, _) (by simp [ex7Fixed]))) (hK _ _ (rk_of rfl rfl) (.inl (Below.refl _ _)))
theorem ex7_ob7 : ex7Ob w0 ad ca as_ kx B cb ds Q 7 := by
  intro o ho a w hb hf hd K hK
  rw [if_pos (wanted_none _ (get_op (·.guard) ho (by kernel_rfl)))]
  exact ob_move (get_op (·.op) ho (by kernel_rfl)) (eval_tmp (hf.2.2 (9, _) (by simp [ex7Fixed]))) (hK _ _ (rk_of rfl rfl) (.inl (Below.refl _ _)))
theorem ex7_ob8 (H : ex7Ctx w0 ad ca as_ kx B cb ds) : ex7Ob w0 ad ca as_ kx B cb ds Q 8 := by
  intro o ho a w hb hf hd K hK
  rw [if_pos (wanted_none _ (get_op (·.guard) ho (by kernel_rfl)))]
  obtain ⟨v7, h7, e7⟩ := dep_k (F := 24) ho hd 7 39 (.val (.int .i64 (kx : Int))) (by kernel_rfl) (by kernel_rfl) rfl (by kernel_rfl)
  obtain rfl : _ = v7 := Eq.symm e7
  have q0 : (0 : Int) ≤ (kx : Int) := by omega
  have q1 : (kx : Int) < (as_.length : Int) := by have := H.k1; omega
  have q2 : (as_.length : Int) ≤ 2000 := by have := H.na; omega
  have hop : o.op = .binOp .add 3 (.tmp 39) (.const (.int .i64 1)) 3 := (get_op (·.op) ho (by kernel_rfl))
  have hr : (execOp a.eval o).run Tryd.prog w = .ok (.value (.int .i64 ((kx : Int) + 1))) w := by
    unfold execOp
    rw [hop]
    go_simp
    rw [IntKind.wrap_i64]; omega
  exact ob_run5 hr (hK _ _ (rk_of rfl rfl) (.inl (Below.refl _ _)))
theorem ex7_ob9 (H : ex7Ctx w0 ad ca as_ kx B cb ds) : ex7Ob w0 ad ca as_ kx B cb ds Q 9 := by
  intro o ho a w hb hf hd K hK
  rw [if_pos (wanted_none _ (get_op (·.guard) ho (by kernel_rfl)))]
  obtain ⟨v6, h6, e6⟩ := dep_k (F := 24) ho hd 6 38 (.val (.slice (some ad) as_.length ca)) (by kernel_rfl) (by kernel_rfl) rfl (by kernel_rfl)
  obtain rfl : _ = v6 := Eq.symm e6
  obtain ⟨v8, h8, e8⟩ := dep_k (F := 24) ho hd 8 40 (.val (.int .i64 ((kx : Int) + 1))) (by kernel_rfl) (by kernel_rfl) rfl (by kernel_rfl)
  obtain rfl : _ = v8 := Eq.symm e8
  exact ob_slice_l (k := (kx : Int) + 1) (get_op (·.op) ho (by kernel_rfl)) (eval_tmp h6) (eval_tmp h8) (by omega) (by have := H.k1; omega) (hK _ _ (rk_of rfl ⟨_, ints_part (H.la.below hb) (l := kx + 1) (h := as_.length) (by have := H.k1; omega) (Nat.le_refl _), rfl⟩) (.inl (Below.refl _ _)))
theorem ex7_ob10 (H : ex7Ctx w0 ad ca as_ kx B cb ds) : ex7Ob w0 ad ca as_ kx B cb ds Q 10 := by
  intro o ho a w hb hf hd K hK
  rw [if_pos (wanted_none _ (get_op (·.guard) ho (by kernel_rfl)))]
  obtain ⟨v9, h9, e9⟩ := dep_k (F := 24) ho hd 9 41 (.low (· = (as_.take as_.length).drop (kx + 1))) (by kernel_rfl) (by kernel_rfl) rfl (by kernel_rfl)
  obtain ⟨_, hi1, rfl⟩ := e9
  obtain ⟨i0, hi, hz, hz1, hz2⟩ := info_parts Tryd.infoInt'
  obtain ⟨v5, h5, e5⟩ := dep_k (F := 24) ho hd 5 37 (.own ((as_.take kx).drop 0 ++ ds)) (by kernel_rfl) (by kernel_rfl) rfl (by kernel_rfl)
  refine ob_app_ints (.tmp 37) (.tmp 41) (get_op (·.op) ho (by kernel_rfl)) Tryd.underlying22 hi hz hz1 hz2 _ w0.heap.size v5 _ _ _ (eval_tmp h5) e5 (eval_tmp h9) hi1 (by have := H.na; have := H.nb; simp; omega) hb.size fun v' w' hv' hg => ?_
  exact hK _ _ (rk_of rfl hv') (.inr ⟨rfl, (Below.refl _ _).grown hg hb.size (fun k hk => (e5.lt k hk).1)⟩)
theorem ex7_ob11 : ex7Ob w0 ad ca as_ kx B cb ds Q 11 := by
  intro o ho a w hb hf hd K hK
  rw [if_pos (wanted_none _ (get_op (·.guard) ho (by kernel_rfl)))]
  obtain ⟨v10, h10, e10⟩ := dep_k (F := 24) ho hd 10 42 (.own ((as_.take kx).drop 0 ++ ds ++ (as_.take as_.length).drop (kx + 1))) (by kernel_rfl) (by kernel_rfl) rfl (by kernel_rfl)
  exact ob_assign (get_op (·.op) ho (by kernel_rfl)) (eval_tmp h10) (hK _ _ (rk_of rfl e10) (.inl (Below.refl _ _)))
theorem ex7_obs (H : ex7Ctx w0 ad ca as_ kx B cb ds) (k : Nat) (hk : k < 12) : ex7Ob w0 ad ca as_ kx B cb ds Q k := by
  match k, hk with
  | 0, _ => exact ex7_ob0
  | 1, _ => exact ex7_ob1
  | 2, _ => exact ex7_ob2 H
  | 3, _ => exact ex7_ob3 H
  | 4, _ => exact ex7_ob4 H
  | 5, _ => exact ex7_ob5 H
  | 6, _ => exact ex7_ob6
  | 7, _ => exact ex7_ob7
  | 8, _ => exact ex7_ob8 H
  | 9, _ => exact ex7_ob9 H
  | 10, _ => exact ex7_ob10 H
  | 11, _ => exact ex7_ob11
  | m + 12, h => exact absurd h (by omega)
theorem ex7_region {a : Act} (H : ex7Ctx w0 ad ca as_ kx B cb ds) (hf : FS 63 [] (ex7Fixed ad ca as_ kx B cb ds) a)
    (hend : ∀ a w, Below w0.heap.size w0 w → FS 63 [] (ex7Fixed ad ca as_ kx B cb ds) a → (∀ (i : Nat) (o : Oper) (d : Tmp), (opsAt Tryd.f8 7)[i]? = some o → (∀ j, killK (ex7Specs ad ca as_ kx ds) [5, 10] i j = false) → o.dst = some d → ∃ v, a.tmps[d]? = some v ∧ RK w0.heap.size (ex7Specs ad ca as_ kx ds) i v w) → Q .normal a w) : (Code.region 7 (opsAt Tryd.f8 7) true).wp Tryd.prog Q a w0 := by
  refine wp_region_k 24 (n := 63) (ds := []) (fixed := ex7Fixed ad ca as_ kx B cb ds) (specs := ex7Specs ad ca as_ kx ds) (apps := [5, 10]) (by kernel_rfl) (by kernel_rfl) (by kernel_rfl) (by kernel_rfl) hf (fun i hi => ex7_obs H i ?_) hend
  have hn : (opsAt Tryd.f8 7).size = 12 := by kernel_rfl
  omega
theorem ex7_region2 {a : Act} (H : ex7Ctx w0 ad ca as_ kx B cb ds) (hf : FS 63 [] (ex7Fixed ad ca as_ kx B cb ds) a)
    (hend : ∀ a' w, Below w0.heap.size w0 w → FS 63 [] (ex7Fixed ad ca as_ kx B cb ds) a' → (∀ i, i < 63 → freeOf (opsAt Tryd.f8 7) i = true → a'.tmps[i]? = a.tmps[i]?) → (∀ (i : Nat) (o : Oper) (d : Tmp), (opsAt Tryd.f8 7)[i]? = some o → (∀ j, killK (ex7Specs ad ca as_ kx ds) [5, 10] i j = false) → o.dst = some d → ∃ v, a'.tmps[d]? = some v ∧ RK w0.heap.size (ex7Specs ad ca as_ kx ds) i v w) → Q .normal a' w) : (Code.region 7 (opsAt Tryd.f8 7) true).wp Tryd.prog Q a w0 := by
  refine wp_region_k2 24 (n := 63) (ds := []) (fixed := ex7Fixed ad ca as_ kx B cb ds) (specs := ex7Specs ad ca as_ kx ds) (apps := [5, 10]) (by kernel_rfl) (by kernel_rfl) (by kernel_rfl) (by kernel_rfl) hf (fun i hi => ex7_obs H i ?_) hend
  have hn : (opsAt Tryd.f8 7).size = 12 := by kernel_rfl
  omega
end

set_option maxRecDepth 100000 in
set_option maxHeartbeats 4000000 in
theorem DecomposeExpanded_go (W : World) (hg : Glob W) (v : Value) (xs : List Int) (hv : Ints W W.heap.size .i64 v xs) (vm : Value) (ms : List Int) (hvm : Ints W W.heap.size .i64 vm ms) (n : Int) :
    Calls Tryd.prog 8 #[v, vm, .int .i64 n] W fun e W' => e = .returned (.bool true) ∧ Below W.heap.size W W' := by
  have HG := Lib.hid hg
  have HM := Lib.hid hvm
  obtain ⟨Ax, cx, rfl, _⟩ := id hv
  obtain ⟨Am, cm, rfl, _⟩ := id hvm
  have HT := Lib.hid (keepTables_any W _ xs hv)
  clear hv hg hvm
  go_enter Tryd.func8, Tryd.ntmps8
  go_upto_region 2 with (go_at_call 10; refine HT.out.mono ?_; rintro e w1 ⟨t, T, rfl, ht1, hm1, hb1⟩; obtain ⟨A0, A1, A2, A3, A4, A5, A6, A7, A8, A9, A10, A11, k0, k1, k2, k3, k4, k5, k6, k7, k8, k9, k10, k11, rfl⟩ := ht1.shape; have HT1 := Lib.hid ht1; have HB1 := Lib.hid hb1; have HM1 := Lib.hid hm1; clear ht1 hb1 hm1)
  obtain ⟨t, ht, htb⟩ := Tbl.new HT1.out
  have HT2 := Lib.hid htb
  have HB2 := Lib.hid (HB1.out.alloc HB1.out.size (.cells #[.slice A0 T.category.length k0, .slice A1 T.cls.length k1, .slice A2 T.joining.length k2, .slice A3 T.bidi.length k3, .slice A4 T.script.length k4, .slice A5 T.status.length k5, .slice A6 T.ignorable.length k6, .slice A7 T.extensions.length k7, .slice A8 T.maps.length k8, .slice A9 T.decomps.length k9, .slice A10 T.excluded.length k10, .slice A11 T.prototypes.length k11] 26))
  clear htb HT1 HT
  generalize w1.alloc (.cells #[.slice A0 T.category.length k0, .slice A1 T.cls.length k1, .slice A2 T.joining.length k2, .slice A3 T.bidi.length k3, .slice A4 T.script.length k4, .slice A5 T.status.length k5, .slice A6 T.ignorable.length k6, .slice A7 T.extensions.length k7, .slice A8 T.maps.length k8, .slice A9 T.decomps.length k9, .slice A10 T.excluded.length k10, .slice A11 T.prototypes.length k11] 26) = w2 at *
  generalize w1.heap.size = tb at *
  clear ht
  have hck := HM1.out.check
  have HG2 := Lib.hid (HG.out.later HB2.out)
  have HM2 := Lib.hid (HM.out.later HB2.out)
  clear HG HM HM1
  go_upto_region 3 with (go_at_call 17; refine (points_any _ (.slice Am ms.length cm) ms HM2.out).mono ?_; rintro e w3 ⟨u3, as_, rfl, hi3, hal, has, b3⟩; obtain ⟨A3, c3, rfl, _⟩ := id hi3; have HA3 := Lib.hid hi3; have HSA := Lib.hid (List.all_eq_true.2 has); have B3 := Lib.hid b3; clear hi3 b3 HM2 has)
  have HT3 := Lib.hid (HT2.out.later B3.out)
  have HG3 := Lib.hid (HG2.out.later B3.out)
  have HB3 := Lib.hid (below_next HB2.out B3.out)
  clear HT2 HG2 HB2 B3
  by_cases h0 : as_.length = 0
  · have hq : ((as_.length : Int) == 0) = true := by rw [h0]; rfl
    go_wp2_with (go_at_call 16; refine (awake7 _ HG3.out).mono ?_; rintro e w4 ⟨rfl, b4⟩)
    go_ret
    exact ⟨rfl, below_next HB3.out b4⟩
  · have hq : ((as_.length : Int) == 0) = false := by simpa using (by omega : ¬ (as_.length : Int) = 0)
    obtain ⟨p0, p1⟩ := pick_in n (n := (as_.length : Int)) (by omega)
    obtain ⟨k, hk⟩ := Int.eq_ofNat_of_zero_le p0
    have HP := Lib.hid (fun W => pick_any n (as_.length : Int) W (by omega) (by omega))
    rw [hk] at HP p1
    have hk1 : k < as_.length := by omega
    clear p0 hk p1 h0
    obtain ⟨c, hc, _⟩ := get_of hk1
    obtain ⟨ad, rfl, ha, hce⟩ : ∃ ad, A3 = some ad ∧ ad.block < w3.heap.size ∧ w3.cell? (ad.add k) = some (.int .i64 c) := by
      obtain ⟨_, _, hve, _, _, _, hcell⟩ := HA3.out
      cases hve
      obtain ⟨ad, e, ha, hc⟩ := hcell k c hc
      exact ⟨ad, e, ha, hc⟩
    have HPN := Lib.hid (put_nfd hck hc HSA.out (by omega))
    clear hc
    go_upto_region 6 with (go_at_call 11; refine (HP.out _).mono ?_; rintro e w4 ⟨rfl, rfl⟩)
    rename_i K hK
    refine wp_region_as (ops := (opsAt Tryd.f8 6)) (by kernel_rfl) ?_
    refine ex6_region2 (b := tb) (t := t) (T := T) (ad := ad) (ca := c3) (as_ := as_) (kx := k) (c := c) ⟨HT3.out, HG3.out, ha, hce, hk1⟩ ⟨rfl, rfl, by intro p hp; simp [ex6Fixed] at hp; rcases hp with rfl | rfl | rfl <;> rfl⟩ ?_
    intro a w5 hb hf ho hr
    obtain ⟨v10, h10, ds, hi10, hz10⟩ := end_k hr 6 10 (.lst (· = oneL T c)) (by kernel_rfl) rfl (by kernel_rfl)
    obtain rfl : _ = ds := Eq.symm hz10
    generalize oneL T c = ds at *
    obtain ⟨A6, c6, rfl, _⟩ := id hi10
    have HD := Lib.hid hi10
    have HA5 := Lib.hid (HA3.out.later hb)
    have HT5 := Lib.hid (HT3.out.later hb)
    have HG5 := Lib.hid (HG3.out.later hb)
    have HB5 := Lib.hid (below_next HB3.out hb)
    have hs := hf.1
    have hd := hf.2.1
    refine hK a w5 ?_
    obtain ⟨fa, hfa, ha⟩ := act_fun hs hd
    have ea0 := (hfa 0 (by decide)).symm.trans (ho 0 (by decide) (by kernel_rfl))
    simp only [List.getElem?_toArray, List.getElem?_cons_zero, Option.some.injEq] at ea0
    have ea1 := (hfa 1 (by decide)).symm.trans (ho 1 (by decide) (by kernel_rfl))
    simp only [List.getElem?_toArray, List.getElem?_cons_zero, List.getElem?_cons_succ, Option.some.injEq] at ea1
    have ea2 := (hfa 2 (by decide)).symm.trans (ho 2 (by decide) (by kernel_rfl))
    simp only [List.getElem?_toArray, List.getElem?_cons_zero, List.getElem?_cons_succ, Option.some.injEq] at ea2
    have ea3 := (hfa 3 (by decide)).symm.trans (ho 3 (by decide) (by kernel_rfl))
    simp only [List.getElem?_toArray, List.getElem?_cons_zero, List.getElem?_cons_succ, Option.some.injEq] at ea3
    have ea4 := (hfa 4 (by decide)).symm.trans (ho 4 (by decide) (by kernel_rfl))
    simp only [List.getElem?_toArray, List.getElem?_cons_zero, List.getElem?_cons_succ, Option.some.injEq] at ea4
    have ea5 := (hfa 5 (by decide)).symm.trans (ho 5 (by decide) (by kernel_rfl))
    simp only [List.getElem?_toArray, List.getElem?_cons_zero, List.getElem?_cons_succ, Option.some.injEq] at ea5
    have ea6 := (hfa 6 (by decide)).symm.trans (ho 6 (by decide) (by kernel_rfl))
    simp only [List.getElem?_toArray, List.getElem?_cons_zero, List.getElem?_cons_succ, Option.some.injEq] at ea6
    have ea7 := (hfa 7 (by decide)).symm.trans (ho 7 (by decide) (by kernel_rfl))
    simp only [List.getElem?_toArray, List.getElem?_cons_zero, List.getElem?_cons_succ, Option.some.injEq] at ea7
    have ea8 := (hfa 8 (by decide)).symm.trans (ho 8 (by decide) (by kernel_rfl))
    simp only [List.getElem?_toArray, List.getElem?_cons_zero, List.getElem?_cons_succ, Option.some.injEq] at ea8
    have ea9 := (hfa 9 (by decide)).symm.trans (ho 9 (by decide) (by kernel_rfl))
    simp only [List.getElem?_toArray, List.getElem?_cons_zero, List.getElem?_cons_succ, Option.some.injEq] at ea9
    have ea11 := (hfa 11 (by decide)).symm.trans (ho 11 (by decide) (by kernel_rfl))
    simp only [List.getElem?_toArray, List.getElem?_cons_zero, List.getElem?_cons_succ, Option.some.injEq] at ea11
    have ea12 := (hfa 12 (by decide)).symm.trans (ho 12 (by decide) (by kernel_rfl))
    simp only [List.getElem?_toArray, List.getElem?_cons_zero, List.getElem?_cons_succ, Option.some.injEq] at ea12
    have ea13 := (hfa 13 (by decide)).symm.trans (ho 13 (by decide) (by kernel_rfl))
    simp only [List.getElem?_toArray, List.getElem?_cons_zero, List.getElem?_cons_succ, Option.some.injEq] at ea13
    have ea14 := (hfa 14 (by decide)).symm.trans (ho 14 (by decide) (by kernel_rfl))
    simp only [List.getElem?_toArray, List.getElem?_cons_zero, List.getElem?_cons_succ, Option.some.injEq] at ea14
    have ea15 := (hfa 15 (by decide)).symm.trans (ho 15 (by decide) (by kernel_rfl))
    simp only [List.getElem?_toArray, List.getElem?_cons_zero, List.getElem?_cons_succ, Option.some.injEq] at ea15
    have ea16 := (hfa 16 (by decide)).symm.trans (ho 16 (by decide) (by kernel_rfl))
    simp only [List.getElem?_toArray, List.getElem?_cons_zero, List.getElem?_cons_succ, Option.some.injEq] at ea16
    have ea17 := (hfa 17 (by decide)).symm.trans (ho 17 (by decide) (by kernel_rfl))
    simp only [List.getElem?_toArray, List.getElem?_cons_zero, List.getElem?_cons_succ, Option.some.injEq] at ea17
    have ea18 := (hfa 18 (by decide)).symm.trans (ho 18 (by decide) (by kernel_rfl))
    simp only [List.getElem?_toArray, List.getElem?_cons_zero, List.getElem?_cons_succ, Option.some.injEq] at ea18
    have ea19 := (hfa 19 (by decide)).symm.trans (ho 19 (by decide) (by kernel_rfl))
    simp only [List.getElem?_toArray, List.getElem?_cons_zero, List.getElem?_cons_succ, Option.some.injEq] at ea19
    have ea20 := (hfa 20 (by decide)).symm.trans (ho 20 (by decide) (by kernel_rfl))
    simp only [List.getElem?_toArray, List.getElem?_cons_zero, List.getElem?_cons_succ, Option.some.injEq] at ea20
    have ea21 := (hfa 21 (by decide)).symm.trans (ho 21 (by decide) (by kernel_rfl))
    simp only [List.getElem?_toArray, List.getElem?_cons_zero, List.getElem?_cons_succ, Option.some.injEq] at ea21
    have ea22 := (hfa 22 (by decide)).symm.trans (ho 22 (by decide) (by kernel_rfl))
    simp only [List.getElem?_toArray, List.getElem?_cons_zero, List.getElem?_cons_succ, Option.some.injEq] at ea22
    have ea23 := (hfa 23 (by decide)).symm.trans (ho 23 (by decide) (by kernel_rfl))
    simp only [List.getElem?_toArray, List.getElem?_cons_zero, List.getElem?_cons_succ, Option.some.injEq] at ea23
    have ea24 := (hfa 24 (by decide)).symm.trans (ho 24 (by decide) (by kernel_rfl))
    simp only [List.getElem?_toArray, List.getElem?_cons_zero, List.getElem?_cons_succ, Option.some.injEq] at ea24
    have ea25 := (hfa 25 (by decide)).symm.trans (ho 25 (by decide) (by kernel_rfl))
    simp only [List.getElem?_toArray, List.getElem?_cons_zero, List.getElem?_cons_succ, Option.some.injEq] at ea25
    have ea32 := (hfa 32 (by decide)).symm.trans (ho 32 (by decide) (by kernel_rfl))
    simp only [List.getElem?_toArray, List.getElem?_cons_zero, List.getElem?_cons_succ, Option.some.injEq] at ea32
    have ea33 := (hfa 33 (by decide)).symm.trans (ho 33 (by decide) (by kernel_rfl))
    simp only [List.getElem?_toArray, List.getElem?_cons_zero, List.getElem?_cons_succ, Option.some.injEq] at ea33
    have ea34 := (hfa 34 (by decide)).symm.trans (ho 34 (by decide) (by kernel_rfl))
    simp only [List.getElem?_toArray, List.getElem?_cons_zero, List.getElem?_cons_succ, Option.some.injEq] at ea34
    have ea35 := (hfa 35 (by decide)).symm.trans (ho 35 (by decide) (by kernel_rfl))
    simp only [List.getElem?_toArray, List.getElem?_cons_zero, List.getElem?_cons_succ, Option.some.injEq] at ea35
    have ea36 := (hfa 36 (by decide)).symm.trans (ho 36 (by decide) (by kernel_rfl))
    simp only [List.getElem?_toArray, List.getElem?_cons_zero, List.getElem?_cons_succ, Option.some.injEq] at ea36
    have ea37 := (hfa 37 (by decide)).symm.trans (ho 37 (by decide) (by kernel_rfl))
    simp only [List.getElem?_toArray, List.getElem?_cons_zero, List.getElem?_cons_succ, Option.some.injEq] at ea37
    have ea38 := (hfa 38 (by decide)).symm.trans (ho 38 (by decide) (by kernel_rfl))
    simp only [List.getElem?_toArray, List.getElem?_cons_zero, List.getElem?_cons_succ, Option.some.injEq] at ea38
    have ea39 := (hfa 39 (by decide)).symm.trans (ho 39 (by decide) (by kernel_rfl))
    simp only [List.getElem?_toArray, List.getElem?_cons_zero, List.getElem?_cons_succ, Option.some.injEq] at ea39
    have ea40 := (hfa 40 (by decide)).symm.trans (ho 40 (by decide) (by kernel_rfl))
    simp only [List.getElem?_toArray, List.getElem?_cons_zero, List.getElem?_cons_succ, Option.some.injEq] at ea40
    have ea41 := (hfa 41 (by decide)).symm.trans (ho 41 (by decide) (by kernel_rfl))
    simp only [List.getElem?_toArray, List.getElem?_cons_zero, List.getElem?_cons_succ, Option.some.injEq] at ea41
    have ea42 := (hfa 42 (by decide)).symm.trans (ho 42 (by decide) (by kernel_rfl))
    simp only [List.getElem?_toArray, List.getElem?_cons_zero, List.getElem?_cons_succ, Option.some.injEq] at ea42
    have ea43 := (hfa 43 (by decide)).symm.trans (ho 43 (by decide) (by kernel_rfl))
    simp only [List.getElem?_toArray, List.getElem?_cons_zero, List.getElem?_cons_succ, Option.some.injEq] at ea43
    have ea44 := (hfa 44 (by decide)).symm.trans (ho 44 (by decide) (by kernel_rfl))
    simp only [List.getElem?_toArray, List.getElem?_cons_zero, List.getElem?_cons_succ, Option.some.injEq] at ea44
    have ea45 := (hfa 45 (by decide)).symm.trans (ho 45 (by decide) (by kernel_rfl))
    simp only [List.getElem?_toArray, List.getElem?_cons_zero, List.getElem?_cons_succ, Option.some.injEq] at ea45
    have ea46 := (hfa 46 (by decide)).symm.trans (ho 46 (by decide) (by kernel_rfl))
    simp only [List.getElem?_toArray, List.getElem?_cons_zero, List.getElem?_cons_succ, Option.some.injEq] at ea46
    have ea47 := (hfa 47 (by decide)).symm.trans (ho 47 (by decide) (by kernel_rfl))
    simp only [List.getElem?_toArray, List.getElem?_cons_zero, List.getElem?_cons_succ, Option.some.injEq] at ea47
    have ea48 := (hfa 48 (by decide)).symm.trans (ho 48 (by decide) (by kernel_rfl))
    simp only [List.getElem?_toArray, List.getElem?_cons_zero, List.getElem?_cons_succ, Option.some.injEq] at ea48
    have ea49 := (hfa 49 (by decide)).symm.trans (ho 49 (by decide) (by kernel_rfl))
    simp only [List.getElem?_toArray, List.getElem?_cons_zero, List.getElem?_cons_succ, Option.some.injEq] at ea49
    have ea50 := (hfa 50 (by decide)).symm.trans (ho 50 (by decide) (by kernel_rfl))
    simp only [List.getElem?_toArray, List.getElem?_cons_zero, List.getElem?_cons_succ, Option.some.injEq] at ea50
    have ea51 := (hfa 51 (by decide)).symm.trans (ho 51 (by decide) (by kernel_rfl))
    simp only [List.getElem?_toArray, List.getElem?_cons_zero, List.getElem?_cons_succ, Option.some.injEq] at ea51
    have ea52 := (hfa 52 (by decide)).symm.trans (ho 52 (by decide) (by kernel_rfl))
    simp only [List.getElem?_toArray, List.getElem?_cons_zero, List.getElem?_cons_succ, Option.some.injEq] at ea52
    have ea53 := (hfa 53 (by decide)).symm.trans (ho 53 (by decide) (by kernel_rfl))
    simp only [List.getElem?_toArray, List.getElem?_cons_zero, List.getElem?_cons_succ, Option.some.injEq] at ea53
    have ea54 := (hfa 54 (by decide)).symm.trans (ho 54 (by decide) (by kernel_rfl))
    simp only [List.getElem?_toArray, List.getElem?_cons_zero, List.getElem?_cons_succ, Option.some.injEq] at ea54
    have ea55 := (hfa 55 (by decide)).symm.trans (ho 55 (by decide) (by kernel_rfl))
    simp only [List.getElem?_toArray, List.getElem?_cons_zero, List.getElem?_cons_succ, Option.some.injEq] at ea55
    have ea56 := (hfa 56 (by decide)).symm.trans (ho 56 (by decide) (by kernel_rfl))
    simp only [List.getElem?_toArray, List.getElem?_cons_zero, List.getElem?_cons_succ, Option.some.injEq] at ea56
    have ea57 := (hfa 57 (by decide)).symm.trans (ho 57 (by decide) (by kernel_rfl))
    simp only [List.getElem?_toArray, List.getElem?_cons_zero, List.getElem?_cons_succ, Option.some.injEq] at ea57
    have ea58 := (hfa 58 (by decide)).symm.trans (ho 58 (by decide) (by kernel_rfl))
    simp only [List.getElem?_toArray, List.getElem?_cons_zero, List.getElem?_cons_succ, Option.some.injEq] at ea58
    have ea59 := (hfa 59 (by decide)).symm.trans (ho 59 (by decide) (by kernel_rfl))
    simp only [List.getElem?_toArray, List.getElem?_cons_zero, List.getElem?_cons_succ, Option.some.injEq] at ea59
    have ea60 := (hfa 60 (by decide)).symm.trans (ho 60 (by decide) (by kernel_rfl))
    simp only [List.getElem?_toArray, List.getElem?_cons_zero, List.getElem?_cons_succ, Option.some.injEq] at ea60
    have ea61 := (hfa 61 (by decide)).symm.trans (ho 61 (by decide) (by kernel_rfl))
    simp only [List.getElem?_toArray, List.getElem?_cons_zero, List.getElem?_cons_succ, Option.some.injEq] at ea61
    have ea62 := (hfa 62 (by decide)).symm.trans (ho 62 (by decide) (by kernel_rfl))
    simp only [List.getElem?_toArray, List.getElem?_cons_zero, List.getElem?_cons_succ, Option.some.injEq] at ea62
    have ea10 : fa 10 = .slice A6 ds.length c6 := Option.some.inj ((hfa 10 (by decide)).symm.trans (h10))
    have ha2 : a = ⟨#[fa 0, fa 1, fa 2, fa 3, fa 4, fa 5, fa 6, fa 7, fa 8, fa 9, fa 10, fa 11, fa 12, fa 13, fa 14, fa 15, fa 16, fa 17, fa 18, fa 19, fa 20, fa 21, fa 22, fa 23, fa 24, fa 25, fa 26, fa 27, fa 28, fa 29, fa 30, fa 31, fa 32, fa 33, fa 34, fa 35, fa 36, fa 37, fa 38, fa 39, fa 40, fa 41, fa 42, fa 43, fa 44, fa 45, fa 46, fa 47, fa 48, fa 49, fa 50, fa 51, fa 52, fa 53, fa 54, fa 55, fa 56, fa 57, fa 58, fa 59, fa 60, fa 61, fa 62], []⟩ := ha.trans (by kernel_rfl)
    rw [ea0, ea1, ea2, ea3, ea4, ea5, ea6, ea7, ea8, ea9, ea10, ea11, ea12, ea13, ea14, ea15, ea16, ea17, ea18, ea19, ea20, ea21, ea22, ea23, ea24, ea25, ea32, ea33, ea34, ea35, ea36, ea37, ea38, ea39, ea40, ea41, ea42, ea43, ea44, ea45, ea46, ea47, ea48, ea49, ea50, ea51, ea52, ea53, ea54, ea55, ea56, ea57, ea58, ea59, ea60, ea61, ea62] at ha2
    clear ha hfa ho ea0 ea1 ea2 ea3 ea4 ea5 ea6 ea7 ea8 ea9 ea10 ea11 ea12 ea13 ea14 ea15 ea16 ea17 ea18 ea19 ea20 ea21 ea22 ea23 ea24 ea25 ea32 ea33 ea34 ea35 ea36 ea37 ea38 ea39 ea40 ea41 ea42 ea43 ea44 ea45 ea46 ea47 ea48 ea49 ea50 ea51 ea52 ea53 ea54 ea55 ea56 ea57 ea58 ea59 ea60 ea61 ea62
    subst ha2
    clear hf hr h10 hs hd hi10 hK hb HA3 HT3 HG3 HB3 hz10 ha hce HP
    have hdl := HPN.out.2.2
    have hd1 := HPN.out.2.1
    have HEQ := Lib.hid HPN.out.1
    clear HPN
    go_upto_region 7 with fail
    rename_i K hK
    refine wp_region_as (ops := (opsAt Tryd.f8 7)) (by kernel_rfl) ?_
    refine ex7_region2 (ad := ad) (ca := c3) (as_ := as_) (kx := k) (B := A6) (cb := c6) (ds := ds) ⟨HA5.out, HD.out, hk1, by omega, by omega⟩ ⟨rfl, rfl, by intro p hp; simp [ex7Fixed] at hp; rcases hp with rfl | rfl | rfl <;> rfl⟩ ?_
    intro a w6 hb hf ho hr
    obtain ⟨v11, h11, e11⟩ := end_k hr 11 11 (.own ((as_.take k).drop 0 ++ ds ++ (as_.take as_.length).drop (k + 1))) (by kernel_rfl) rfl (by kernel_rfl)
    have hi11 := Ints.of_own e11
    clear e11
    generalize (as_.take k).drop 0 ++ ds ++ (as_.take as_.length).drop (k + 1) = bq at *
    obtain ⟨A9, c9, rfl, _⟩ := id hi11
    have HQ := Lib.hid hi11
    have HA6 := Lib.hid (HA5.out.later hb)
    have HT6 := Lib.hid (HT5.out.later hb)
    have HG6 := Lib.hid (HG5.out.later hb)
    have HB6 := Lib.hid (below_next HB5.out hb)
    have hs := hf.1
    have hd := hf.2.1
    refine hK a w6 ?_
    obtain ⟨fa, hfa, ha⟩ := act_fun hs hd
    have ea0 := (hfa 0 (by decide)).symm.trans (ho 0 (by decide) (by kernel_rfl))
    simp only [List.getElem?_toArray, List.getElem?_cons_zero, Option.some.injEq] at ea0
    have ea1 := (hfa 1 (by decide)).symm.trans (ho 1 (by decide) (by kernel_rfl))
    simp only [List.getElem?_toArray, List.getElem?_cons_zero, List.getElem?_cons_succ, Option.some.injEq] at ea1
    have ea2 := (hfa 2 (by decide)).symm.trans (ho 2 (by decide) (by kernel_rfl))
    simp only [List.getElem?_toArray, List.getElem?_cons_zero, List.getElem?_cons_succ, Option.some.injEq] at ea2
    have ea3 := (hfa 3 (by decide)).symm.trans (ho 3 (by decide) (by kernel_rfl))
    simp only [List.getElem?_toArray, List.getElem?_cons_zero, List.getElem?_cons_succ, Option.some.injEq] at ea3
    have ea4 := (hfa 4 (by decide)).symm.trans (ho 4 (by decide) (by kernel_rfl))
    simp only [List.getElem?_toArray, List.getElem?_cons_zero, List.getElem?_cons_succ, Option.some.injEq] at ea4
    have ea5 := (hfa 5 (by decide)).symm.trans (ho 5 (by decide) (by kernel_rfl))
    simp only [List.getElem?_toArray, List.getElem?_cons_zero, List.getElem?_cons_succ, Option.some.injEq] at ea5
    have ea6 := (hfa 6 (by decide)).symm.trans (ho 6 (by decide) (by kernel_rfl))
    simp only [List.getElem?_toArray, List.getElem?_cons_zero, List.getElem?_cons_succ, Option.some.injEq] at ea6
    have ea7 := (hfa 7 (by decide)).symm.trans (ho 7 (by decide) (by kernel_rfl))
    simp only [List.getElem?_toArray, List.getElem?_cons_zero, List.getElem?_cons_succ, Option.some.injEq] at ea7
    have ea8 := (hfa 8 (by decide)).symm.trans (ho 8 (by decide) (by kernel_rfl))
    simp only [List.getElem?_toArray, List.getElem?_cons_zero, List.getElem?_cons_succ, Option.some.injEq] at ea8
    have ea9 := (hfa 9 (by decide)).symm.trans (ho 9 (by decide) (by kernel_rfl))
    simp only [List.getElem?_toArray, List.getElem?_cons_zero, List.getElem?_cons_succ, Option.some.injEq] at ea9
    have ea10 := (hfa 10 (by decide)).symm.trans (ho 10 (by decide) (by kernel_rfl))
    simp only [List.getElem?_toArray, List.getElem?_cons_zero, List.getElem?_cons_succ, Option.some.injEq] at ea10
    have ea12 := (hfa 12 (by decide)).symm.trans (ho 12 (by decide) (by kernel_rfl))
    simp only [List.getElem?_toArray, List.getElem?_cons_zero, List.getElem?_cons_succ, Option.some.injEq] at ea12
    have ea13 := (hfa 13 (by decide)).symm.trans (ho 13 (by decide) (by kernel_rfl))
    simp only [List.getElem?_toArray, List.getElem?_cons_zero, List.getElem?_cons_succ, Option.some.injEq] at ea13
    have ea14 := (hfa 14 (by decide)).symm.trans (ho 14 (by decide) (by kernel_rfl))
    simp only [List.getElem?_toArray, List.getElem?_cons_zero, List.getElem?_cons_succ, Option.some.injEq] at ea14
    have ea15 := (hfa 15 (by decide)).symm.trans (ho 15 (by decide) (by kernel_rfl))
    simp only [List.getElem?_toArray, List.getElem?_cons_zero, List.getElem?_cons_succ, Option.some.injEq] at ea15
    have ea16 := (hfa 16 (by decide)).symm.trans (ho 16 (by decide) (by kernel_rfl))
    simp only [List.getElem?_toArray, List.getElem?_cons_zero, List.getElem?_cons_succ, Option.some.injEq] at ea16
    have ea17 := (hfa 17 (by decide)).symm.trans (ho 17 (by decide) (by kernel_rfl))
    simp only [List.getElem?_toArray, List.getElem?_cons_zero, List.getElem?_cons_succ, Option.some.injEq] at ea17
    have ea18 := (hfa 18 (by decide)).symm.trans (ho 18 (by decide) (by kernel_rfl))
    simp only [List.getElem?_toArray, List.getElem?_cons_zero, List.getElem?_cons_succ, Option.some.injEq] at ea18
    have ea19 := (hfa 19 (by decide)).symm.trans (ho 19 (by decide) (by kernel_rfl))
    simp only [List.getElem?_toArray, List.getElem?_cons_zero, List.getElem?_cons_succ, Option.some.injEq] at ea19
    have ea20 := (hfa 20 (by decide)).symm.trans (ho 20 (by decide) (by kernel_rfl))
    simp only [List.getElem?_toArray, List.getElem?_cons_zero, List.getElem?_cons_succ, Option.some.injEq] at ea20
    have ea21 := (hfa 21 (by decide)).symm.trans (ho 21 (by decide) (by kernel_rfl))
    simp only [List.getElem?_toArray, List.getElem?_cons_zero, List.getElem?_cons_succ, Option.some.injEq] at ea21
    have ea22 := (hfa 22 (by decide)).symm.trans (ho 22 (by decide) (by kernel_rfl))
    simp only [List.getElem?_toArray, List.getElem?_cons_zero, List.getElem?_cons_succ, Option.some.injEq] at ea22
    have ea23 := (hfa 23 (by decide)).symm.trans (ho 23 (by decide) (by kernel_rfl))
    simp only [List.getElem?_toArray, List.getElem?_cons_zero, List.getElem?_cons_succ, Option.some.injEq] at ea23
    have ea24 := (hfa 24 (by decide)).symm.trans (ho 24 (by decide) (by kernel_rfl))
    simp only [List.getElem?_toArray, List.getElem?_cons_zero, List.getElem?_cons_succ, Option.some.injEq] at ea24
    have ea25 := (hfa 25 (by decide)).symm.trans (ho 25 (by decide) (by kernel_rfl))
    simp only [List.getElem?_toArray, List.getElem?_cons_zero, List.getElem?_cons_succ, Option.some.injEq] at ea25
    have ea26 := (hfa 26 (by decide)).symm.trans (ho 26 (by decide) (by kernel_rfl))
    simp only [List.getElem?_toArray, List.getElem?_cons_zero, List.getElem?_cons_succ, Option.some.injEq] at ea26
    have ea27 := (hfa 27 (by decide)).symm.trans (ho 27 (by decide) (by kernel_rfl))
    simp only [List.getElem?_toArray, List.getElem?_cons_zero, List.getElem?_cons_succ, Option.some.injEq] at ea27
    have ea28 := (hfa 28 (by decide)).symm.trans (ho 28 (by decide) (by kernel_rfl))
    simp only [List.getElem?_toArray, List.getElem?_cons_zero, List.getElem?_cons_succ, Option.some.injEq] at ea28
    have ea29 := (hfa 29 (by decide)).symm.trans (ho 29 (by decide) (by kernel_rfl))
    simp only [List.getElem?_toArray, List.getElem?_cons_zero, List.getElem?_cons_succ, Option.some.injEq] at ea29
    have ea30 := (hfa 30 (by decide)).symm.trans (ho 30 (by decide) (by kernel_rfl))
    simp only [List.getElem?_toArray, List.getElem?_cons_zero, List.getElem?_cons_succ, Option.some.injEq] at ea30
    have ea31 := (hfa 31 (by decide)).symm.trans (ho 31 (by decide) (by kernel_rfl))
    simp only [List.getElem?_toArray, List.getElem?_cons_zero, List.getElem?_cons_succ, Option.some.injEq] at ea31
    have ea43 := (hfa 43 (by decide)).symm.trans (ho 43 (by decide) (by kernel_rfl))
    simp only [List.getElem?_toArray, List.getElem?_cons_zero, List.getElem?_cons_succ, Option.some.injEq] at ea43
    have ea44 := (hfa 44 (by decide)).symm.trans (ho 44 (by decide) (by kernel_rfl))
    simp only [List.getElem?_toArray, List.getElem?_cons_zero, List.getElem?_cons_succ, Option.some.injEq] at ea44
    have ea45 := (hfa 45 (by decide)).symm.trans (ho 45 (by decide) (by kernel_rfl))
    simp only [List.getElem?_toArray, List.getElem?_cons_zero, List.getElem?_cons_succ, Option.some.injEq] at ea45
    have ea46 := (hfa 46 (by decide)).symm.trans (ho 46 (by decide) (by kernel_rfl))
    simp only [List.getElem?_toArray, List.getElem?_cons_zero, List.getElem?_cons_succ, Option.some.injEq] at ea46
    have ea47 := (hfa 47 (by decide)).symm.trans (ho 47 (by decide) (by kernel_rfl))
    simp only [List.getElem?_toArray, List.getElem?_cons_zero, List.getElem?_cons_succ, Option.some.injEq] at ea47
    have ea48 := (hfa 48 (by decide)).symm.trans (ho 48 (by decide) (by kernel_rfl))
    simp only [List.getElem?_toArray, List.getElem?_cons_zero, List.getElem?_cons_succ, Option.some.injEq] at ea48
    have ea49 := (hfa 49 (by decide)).symm.trans (ho 49 (by decide) (by kernel_rfl))
    simp only [List.getElem?_toArray, List.getElem?_cons_zero, List.getElem?_cons_succ, Option.some.injEq] at ea49
    have ea50 := (hfa 50 (by decide)).symm.trans (ho 50 (by decide) (by kernel_rfl))
    simp only [List.getElem?_toArray, List.getElem?_cons_zero, List.getElem?_cons_succ, Option.some.injEq] at ea50
    have ea51 := (hfa 51 (by decide)).symm.trans (ho 51 (by decide) (by kernel_rfl))
    simp only [List.getElem?_toArray, List.getElem?_cons_zero, List.getElem?_cons_succ, Option.some.injEq] at ea51
    have ea52 := (hfa 52 (by decide)).symm.trans (ho 52 (by decide) (by kernel_rfl))
    simp only [List.getElem?_toArray, List.getElem?_cons_zero, List.getElem?_cons_succ, Option.some.injEq] at ea52
    have ea53 := (hfa 53 (by decide)).symm.trans (ho 53 (by decide) (by kernel_rfl))
    simp only [List.getElem?_toArray, List.getElem?_cons_zero, List.getElem?_cons_succ, Option.some.injEq] at ea53
    have ea54 := (hfa 54 (by decide)).symm.trans (ho 54 (by decide) (by kernel_rfl))
    simp only [List.getElem?_toArray, List.getElem?_cons_zero, List.getElem?_cons_succ, Option.some.injEq] at ea54
    have ea55 := (hfa 55 (by decide)).symm.trans (ho 55 (by decide) (by kernel_rfl))
    simp only [List.getElem?_toArray, List.getElem?_cons_zero, List.getElem?_cons_succ, Option.some.injEq] at ea55
    have ea56 := (hfa 56 (by decide)).symm.trans (ho 56 (by decide) (by kernel_rfl))
    simp only [List.getElem?_toArray, List.getElem?_cons_zero, List.getElem?_cons_succ, Option.some.injEq] at ea56
    have ea57 := (hfa 57 (by decide)).symm.trans (ho 57 (by decide) (by kernel_rfl))
    simp only [List.getElem?_toArray, List.getElem?_cons_zero, List.getElem?_cons_succ, Option.some.injEq] at ea57
    have ea58 := (hfa 58 (by decide)).symm.trans (ho 58 (by decide) (by kernel_rfl))
    simp only [List.getElem?_toArray, List.getElem?_cons_zero, List.getElem?_cons_succ, Option.some.injEq] at ea58
    have ea59 := (hfa 59 (by decide)).symm.trans (ho 59 (by decide) (by kernel_rfl))
    simp only [List.getElem?_toArray, List.getElem?_cons_zero, List.getElem?_cons_succ, Option.some.injEq] at ea59
    have ea60 := (hfa 60 (by decide)).symm.trans (ho 60 (by decide) (by kernel_rfl))
    simp only [List.getElem?_toArray, List.getElem?_cons_zero, List.getElem?_cons_succ, Option.some.injEq] at ea60
    have ea61 := (hfa 61 (by decide)).symm.trans (ho 61 (by decide) (by kernel_rfl))
    simp only [List.getElem?_toArray, List.getElem?_cons_zero, List.getElem?_cons_succ, Option.some.injEq] at ea61
    have ea62 := (hfa 62 (by decide)).symm.trans (ho 62 (by decide) (by kernel_rfl))
    simp only [List.getElem?_toArray, List.getElem?_cons_zero, List.getElem?_cons_succ, Option.some.injEq] at ea62
    have ea11 : fa 11 = .slice A9 bq.length c9 := Option.some.inj ((hfa 11 (by decide)).symm.trans (h11))
    have ha2 : a = ⟨#[fa 0, fa 1, fa 2, fa 3, fa 4, fa 5, fa 6, fa 7, fa 8, fa 9, fa 10, fa 11, fa 12, fa 13, fa 14, fa 15, fa 16, fa 17, fa 18, fa 19, fa 20, fa 21, fa 22, fa 23, fa 24, fa 25, fa 26, fa 27, fa 28, fa 29, fa 30, fa 31, fa 32, fa 33, fa 34, fa 35, fa 36, fa 37, fa 38, fa 39, fa 40, fa 41, fa 42, fa 43, fa 44, fa 45, fa 46, fa 47, fa 48, fa 49, fa 50, fa 51, fa 52, fa 53, fa 54, fa 55, fa 56, fa 57, fa 58, fa 59, fa 60, fa 61, fa 62], []⟩ := ha.trans (by kernel_rfl)
    rw [ea0, ea1, ea2, ea3, ea4, ea5, ea6, ea7, ea8, ea9, ea10, ea11, ea12, ea13, ea14, ea15, ea16, ea17, ea18, ea19, ea20, ea21, ea22, ea23, ea24, ea25, ea26, ea27, ea28, ea29, ea30, ea31, ea43, ea44, ea45, ea46, ea47, ea48, ea49, ea50, ea51, ea52, ea53, ea54, ea55, ea56, ea57, ea58, ea59, ea60, ea61, ea62] at ha2
    clear ha hfa ho ea0 ea1 ea2 ea3 ea4 ea5 ea6 ea7 ea8 ea9 ea10 ea11 ea12 ea13 ea14 ea15 ea16 ea17 ea18 ea19 ea20 ea21 ea22 ea23 ea24 ea25 ea26 ea27 ea28 ea29 ea30 ea31 ea43 ea44 ea45 ea46 ea47 ea48 ea49 ea50 ea51 ea52 ea53 ea54 ea55 ea56 ea57 ea58 ea59 ea60 ea61 ea62
    subst ha2
    clear hf hr h11 hs hd hi11 hK hb HA5 HT5 HG5 HB5
    have H1 := Lib.hid (equiv_eq HT6.out.2 HG6.out HA6.out HQ.out HEQ.out)
    have hq1 : (0 : Int) < (ds.length : Int) := by omega
    obtain ⟨x0, x1, x2, x3, x4, x5, x6, x7, x8, x9, x10, x11⟩ := HT6.out.1.tab
    go_upto_region 9 with (go_at_call 27; refine H1.out.mono ?_; rintro e w7 ⟨rfl, b7⟩; have B7 := Lib.hid b7; clear b7 H1)
    clear x0 x1 x2 x3 x4 x5 x6 x7 x8 x9 x10 x11
    go_wp2_with (go_at_call 16; refine (awake7 _ (HG6.out.later B7.out)).mono ?_; rintro e w8 ⟨rfl, b8⟩)
    go_ret
    exact ⟨rfl, below_next HB6.out (below_next B7.out b8)⟩
theorem DecomposeExpanded_walk (W : World) (hg : Glob W) (v : Value) (xs : List Int) (hv : Ints W W.heap.size .i64 v xs) (_ : ∀ x ∈ xs, -9223372036854775808 ≤ x ∧ x ≤ 9223372036854775807) (_ : xs.length * 8 ≤ 140737488351232) (vm : Value) (ms : List Int) (hvm : Ints W W.heap.size .i64 vm ms) (_ : ∀ x ∈ ms, -9223372036854775808 ≤ x ∧ x ≤ 9223372036854775807) (_ : ms.length * 8 ≤ 140737488351232) (n : Int) (_ : -9223372036854775808 ≤ n ∧ n ≤ 9223372036854775807) :
    Calls Tryd.prog 8 #[v, vm, .int .i64 n] W fun e W' => e = .returned (.bool true) ∧ Below W.heap.size W W' := DecomposeExpanded_go W hg v xs hv vm ms hvm n
end Go.Proofs.YtjigjjbhdgpfjaaDoor
