/-
  Merged texts: lemmas and walks that the last text of this claim leans on.
-/
import Derived.Test.YtecpbicfiaifdaaGreatDoorMgB723
import Derived.Test.YtecpbicfiaifdaaGreatDoorMgB715
import Derived.Test.YtecpbicfiaifdaaGreatDoorMgB716
import Derived.Test.YtecpbicfiaifdaaGreatDoorMgB735
import Derived.Test.YtecpbicfiaifdaaGreatDoorMgB728
import Derived.Test.YtecpbicfiaifdaaGreatDoorMgB722
import Derived.Test.YtecpbicfiaifdaaGreatDoorMgB78
import Derived.Test.YtecpbicfiaifdaaGreatDoorMgB71
/-
  The walk through the law SkeletonPrototype.
-/
namespace Go.Proofs.YtecpbicfiaifdaaGreatDoor
open Go.RowKit ND

theorem ints_cap {w : World} {B : Nat} {k : IntKind} {A : Option Addr} {c n : Nat} {xs : List Int} (hi : Ints w B k (.slice A n c) xs) : xs.length ≤ c := by
  obtain ⟨A', c', e, h1, _⟩ := hi
  cases e; exact h1
/-- A code point of a normalization form D, replaced by its prototype. -/
theorem proto_put {T : Tab} (h : T.check = 0) {l d : List Int} (hd : nfdL T l = d) (hs : l.all scalarB = true) (hl : l.length ≤ 12) {k : Nat} {c : Int} (hc : d[k]? = some c) (h0 : T.classOf c = 0) (hp : findL T.prototypes c ≠ []) (hz : ∀ x ∈ findL T.prototypes c, T.classOf x = 0) :
    skelR T ((d.take k).drop 0 ++ findL T.prototypes c ++ (d.take d.length).drop (k + 1)) = (skelL T l, 0) := by
  obtain ⟨hk, hce⟩ := List.getElem?_eq_some_iff.1 hc
  have ha : d = d.take k ++ c :: d.drop (k + 1) := by
    rw [← hce, ← List.drop_eq_getElem_cons hk, List.take_append_drop]
  rw [List.drop_zero, List.take_length]
  obtain ⟨e1, e2, e3, e4⟩ := skelL_proto h (hd.trans ha) h0 hp hz
  have h1 := (flatD_len (decOk_of h) l).2
  have h2 := skelM_len (proOk_of h) (nfdL T l)
  have h3 : (nfdL T l).length = _ := nfdL_length l
  have h4 := proto_flen h c
  have hds : d.all scalarB = true := by rw [← hd]; exact nfdL_scal (decOk_of h) hs
  have hdl : d.length ≤ 216 := by rw [← hd]; omega
  have hlen : (d.take k ++ findL T.prototypes c ++ d.drop (k + 1)).length ≤ 500 := by
    rw [List.length_append, List.length_append, List.length_take, List.length_drop]; omega
  rw [skelR_ok h ?_ (by omega) (by rw [e3]; omega) (by rw [e2, e4]; omega), e1]
  rw [List.all_eq_true] at *
  intro x hx
  rw [List.mem_append, List.mem_append] at hx
  rcases hx with (hx | hx) | hx
  · exact hds x (List.mem_of_mem_take hx)
  · exact ((proOk_of h).el _ (findL_mem hp) x hx).2.2.2.2
  · exact hds x (List.mem_of_mem_drop hx)

/-- What holds ahead of region 2. -/
structure q20Ctx (w0 : World) (b : Nat) (t : Tv) (T : Tab) (va : Value) (ms : List Int) : Prop where
  tb : Tbl w0 b t T
  g : Glob w0
  v : Ints w0 w0.heap.size .i64 va ms
  ck : T.check = 0
def q20Specs (t : Tv) (T : Tab) (va : Value) : List SpecK := [.val t.val, .val va, .lst (fun l => l.length ≤ 10 ∧ l.all scalarB = true), .two 0 (fun ys => ∃ l : List Int, l.length ≤ 10 ∧ l.all scalarB = true ∧ ys = nfdL T l), .two 0 (fun ys => ∃ l : List Int, l.length ≤ 10 ∧ l.all scalarB = true ∧ ys = nfdL T l), .lst (fun ys => ∃ l : List Int, l.length ≤ 10 ∧ l.all scalarB = true ∧ ys = nfdL T l), .val (.int .i64 0), .lst (fun ys => ∃ l : List Int, l.length ≤ 10 ∧ l.all scalarB = true ∧ ys = nfdL T l), .val (.int .i64 0)]
def q20Fixed (b : Nat) (va : Value) : List (Tmp × Value) := [(1, va), (7, .pointer (some ⟨b, 0, none⟩))]
def q20Ob (w0 : World) (b : Nat) (t : Tv) (T : Tab) (va : Value) (Q : Exit → Act → World → Prop) (k : Nat) : Prop := ObR 24 Tryz.prog (opsAt Tryz.f4 2) 102 [] (q20Fixed b va) w0 (q20Specs t T va) [] Q k
section
variable {w0 : World} {b : Nat} {t : Tv} {T : Tab} {va : Value} {ms : List Int} {Q : Exit → Act → World → Prop}
theorem q20_ob0 (H : q20Ctx w0 b t T va ms) : q20Ob w0 b t T va Q 0 := by
  intro o ho a w hb hf hd K hK
  rw [if_pos (wanted_none _ (get_op (·.guard) ho (by kernel_rfl)))]
  exact ob_value (load_tab (H.tb.later hb) (get_op (·.op) ho (by kernel_rfl)) (eval_tmp (hf.2.2 (7, _) (by simp [q20Fixed])))) (hK _ _ (rk_of rfl rfl) (.inl (Below.refl _ _)))
theorem q20_ob1 : q20Ob w0 b t T va Q 1 := by
  intro o ho a w hb hf hd K hK
  rw [if_pos (wanted_none _ (get_op (·.guard) ho (by kernel_rfl)))]
  exact ob_move (get_op (·.op) ho (by kernel_rfl)) (eval_tmp (hf.2.2 (1, _) (by simp [q20Fixed]))) (hK _ _ (rk_of rfl rfl) (.inl (Below.refl _ _)))
theorem q20_ob2 (H : q20Ctx w0 b t T va ms) : q20Ob w0 b t T va Q 2 := by
  intro o ho a w hb hf hd K hK
  rw [if_pos (wanted_none _ (get_op (·.guard) ho (by kernel_rfl)))]
  obtain ⟨v1, h1, e1⟩ := dep_k (F := 24) ho hd 1 22 (.val va) (by kernel_rfl) (by kernel_rfl) rfl (by kernel_rfl)
  obtain rfl : _ = v1 := Eq.symm e1
  refine ob_enter (enter1 (tys := #[22]) (x := .tmp 22) (get_op (·.op) ho (by kernel_rfl)) (eval_tmp h1) (fun args w => enters_of Tryz.func13 (by kernel_rfl) rfl args w)) (points_any w _ _ (H.v.later hb)) fun e w' ⟨v, ys, he, h2, hl, hs, h1⟩ => ⟨v, he, ?_⟩
  exact hK _ _ (rk_of rfl ⟨ys, h2, hl, List.all_eq_true.2 hs⟩) (.inl h1)
theorem q20_ob3 (H : q20Ctx w0 b t T va ms) : q20Ob w0 b t T va Q 3 := by
  intro o ho a w hb hf hd K hK
  rw [if_pos (wanted_none _ (get_op (·.guard) ho (by kernel_rfl)))]
  obtain ⟨v0, h0, e0⟩ := dep_k (F := 24) ho hd 0 21 (.val t.val) (by kernel_rfl) (by kernel_rfl) rfl (by kernel_rfl)
  obtain rfl : _ = v0 := Eq.symm e0
  obtain ⟨v2, h2, e2⟩ := dep_k (F := 24) ho hd 2 23 (.lst (fun l => l.length ≤ 10 ∧ l.all scalarB = true)) (by kernel_rfl) (by kernel_rfl) rfl (by kernel_rfl)
  obtain ⟨ys2, hi2, hp2⟩ := e2
  refine ob_enter (enter2 (tys := #[26, 22]) (x := .tmp 21) (y := .tmp 23) (get_op (·.op) ho (by kernel_rfl)) (eval_tmp h0) (eval_tmp h2) (fun args w => enters_of Tryz.func14 (by kernel_rfl) rfl args w)) (refNfd_eq t T _ ys2 w _ (H.tb.later hb).2 hi2 (nfd_short H.ck hp2.2 (by have := hp2.1; omega))) fun e w' ⟨u, he, h2, h1⟩ => ⟨_, he, ?_⟩
  exact hK _ _ (rk_of rfl ⟨u, _, rfl, Ints.of_own h2, ys2, hp2.1, hp2.2, rfl⟩) (.inl h1)
theorem q20_ob4 : q20Ob w0 b t T va Q 4 := by
  intro o ho a w hb hf hd K hK
  rw [if_pos (wanted_none _ (get_op (·.guard) ho (by kernel_rfl)))]
  obtain ⟨v3, h3, e3⟩ := dep_k (F := 24) ho hd 3 24 (.two 0 (fun ys => ∃ l : List Int, l.length ≤ 10 ∧ l.all scalarB = true ∧ ys = nfdL T l)) (by kernel_rfl) (by kernel_rfl) rfl (by kernel_rfl)
  exact ob_move (get_op (·.op) ho (by kernel_rfl)) (eval_tmp h3) (hK _ _ (rk_of rfl e3) (.inl (Below.refl _ _)))
theorem q20_ob5 : q20Ob w0 b t T va Q 5 := by
  intro o ho a w hb hf hd K hK
  rw [if_pos (wanted_none _ (get_op (·.guard) ho (by kernel_rfl)))]
  obtain ⟨v4, h4, e4⟩ := dep_k (F := 24) ho hd 4 20 (.two 0 (fun ys => ∃ l : List Int, l.length ≤ 10 ∧ l.all scalarB = true ∧ ys = nfdL T l)) (by kernel_rfl) (by kernel_rfl) rfl (by kernel_rfl)
  obtain ⟨u, ys, rfl, hi1, hp⟩ := e4
  exact ob_extract (k := 0) (get_op (·.op) ho (by kernel_rfl)) (eval_tmp h4) rfl (hK _ _ (rk_of rfl ⟨ys, hi1, hp⟩) (.inl (Below.refl _ _)))
theorem q20_ob6 : q20Ob w0 b t T va Q 6 := by
  intro o ho a w hb hf hd K hK
  rw [if_pos (wanted_none _ (get_op (·.guard) ho (by kernel_rfl)))]
  obtain ⟨v4, h4, e4⟩ := dep_k (F := 24) ho hd 4 20 (.two 0 (fun ys => ∃ l : List Int, l.length ≤ 10 ∧ l.all scalarB = true ∧ ys = nfdL T l)) (by kernel_rfl) (by kernel_rfl) rfl (by kernel_rfl)
  obtain ⟨u, ys, rfl, hi1, hp⟩ := e4
  exact ob_extract (k := 1) (get_op (·.op) ho (by kernel_rfl)) (eval_tmp h4) rfl (hK _ _ (rk_of rfl rfl) (.inl (Below.refl _ _)))
theorem q20_ob7 : q20Ob w0 b t T va Q 7 := by
  intro o ho a w hb hf hd K hK
  rw [if_pos (wanted_none _ (get_op (·.guard) ho (by kernel_rfl)))]
  obtain ⟨v5, h5, e5⟩ := dep_k (F := 24) ho hd 5 25 (.lst (fun ys => ∃ l : List Int, l.length ≤ 10 ∧ l.all scalarB = true ∧ ys = nfdL T l)) (by kernel_rfl) (by kernel_rfl) rfl (by kernel_rfl)
  exact ob_assign (get_op (·.op) ho (by kernel_rfl)) (eval_tmp h5) (hK _ _ (rk_of rfl e5) (.inl (Below.refl _ _)))
theorem q20_ob8 : q20Ob w0 b t T va Q 8 := by
  intro o ho a w hb hf hd K hK
  rw [if_pos (wanted_none _ (get_op (·.guard) ho (by kernel_rfl)))]
  obtain ⟨v6, h6, e6⟩ := dep_k (F := 24) ho hd 6 26 (.val (.int .i64 0)) (by kernel_rfl) (by kernel_rfl) rfl (by kernel_rfl)
  obtain rfl : _ = v6 := Eq.symm e6
  exact ob_assign (get_op (·.op) ho (by kernel_rfl)) (eval_tmp h6) (hK _ _ (rk_of rfl rfl) (.inl (Below.refl _ _)))
theorem q20_obs (H : q20Ctx w0 b t T va ms) (k : Nat) (hk : k < 9) : q20Ob w0 b t T va Q k := by
  match k, hk with
  | 0, _ => exact q20_ob0 H
  | 1, _ => exact q20_ob1
  | 2, _ => exact q20_ob2 H
  | 3, _ => exact q20_ob3 H
  | 4, _ => exact q20_ob4
  | 5, _ => exact q20_ob5
  | 6, _ => exact q20_ob6
  | 7, _ => exact q20_ob7
  | 8, _ => exact q20_ob8
  | m + 9, h => exact absurd h (by omega)
theorem q20_region {a : Act} (H : q20Ctx w0 b t T va ms) (hf : FS 102 [] (q20Fixed b va) a)
    (hend : ∀ a w, Below w0.heap.size w0 w → FS 102 [] (q20Fixed b va) a → (∀ (i : Nat) (o : Oper) (d : Tmp), (opsAt Tryz.f4 2)[i]? = some o → (∀ j, killK (q20Specs t T va) [] i j = false) → o.dst = some d → ∃ v, a.tmps[d]? = some v ∧ RK w0.heap.size (q20Specs t T va) i v w) → Q .normal a w) : (Code.region 2 (opsAt Tryz.f4 2) true).wp Tryz.prog Q a w0 := by
  refine wp_region_k 24 (n := 102) (ds := []) (fixed := q20Fixed b va) (specs := q20Specs t T va) (apps := []) (by kernel_rfl) (by kernel_rfl) (by kernel_rfl) (by kernel_rfl) hf (fun i hi => q20_obs H i ?_) hend
  have hn : (opsAt Tryz.f4 2).size = 9 := by kernel_rfl
  omega
theorem q20_region2 {a : Act} (H : q20Ctx w0 b t T va ms) (hf : FS 102 [] (q20Fixed b va) a)
    (hend : ∀ a' w, Below w0.heap.size w0 w → FS 102 [] (q20Fixed b va) a' → (∀ i, i < 102 → freeOf (opsAt Tryz.f4 2) i = true → a'.tmps[i]? = a.tmps[i]?) → (∀ (i : Nat) (o : Oper) (d : Tmp), (opsAt Tryz.f4 2)[i]? = some o → (∀ j, killK (q20Specs t T va) [] i j = false) → o.dst = some d → ∃ v, a'.tmps[d]? = some v ∧ RK w0.heap.size (q20Specs t T va) i v w) → Q .normal a' w) : (Code.region 2 (opsAt Tryz.f4 2) true).wp Tryz.prog Q a w0 := by
  refine wp_region_k2 24 (n := 102) (ds := []) (fixed := q20Fixed b va) (specs := q20Specs t T va) (apps := []) (by kernel_rfl) (by kernel_rfl) (by kernel_rfl) (by kernel_rfl) hf (fun i hi => q20_obs H i ?_) hend
  have hn : (opsAt Tryz.f4 2).size = 9 := by kernel_rfl
  omega
end

/-- What holds ahead of region 6. -/
structure r20Ctx (w0 : World) (b : Nat) (t : Tv) (T : Tab) (ad : Addr) (ca : Nat) (as_ : List Int) (kx : Nat) (c : Int) : Prop where
  tb : Tbl w0 b t T
  ha : ad.block < w0.heap.size
  ce : w0.cell? (ad.add kx) = some (.int .i64 c)
  k1 : kx < as_.length
def r20Specs (t : Tv) (T : Tab) (ad : Addr) (ca : Nat) (as_ : List Int) (kx : Nat) (c : Int) : List SpecK := [.val t.val, .val (.slice (some ad) as_.length ca), .val (.int .i64 (kx : Int)), .val (.pointer (some (ad.add kx))), .val (.int .i64 c), .lst (· = findL T.prototypes c), .lst (· = findL T.prototypes c)]
def r20Fixed (b : Nat) (ad : Addr) (ca : Nat) (as_ : List Int) (kx : Nat) : List (Tmp × Value) := [(7, .pointer (some ⟨b, 0, none⟩)), (8, .slice (some ad) as_.length ca), (10, .int .i64 (kx : Int))]
def r20Ob (w0 : World) (b : Nat) (t : Tv) (T : Tab) (ad : Addr) (ca : Nat) (as_ : List Int) (kx : Nat) (c : Int) (Q : Exit → Act → World → Prop) (k : Nat) : Prop := ObR 24 Tryz.prog (opsAt Tryz.f4 6) 102 [] (r20Fixed b ad ca as_ kx) w0 (r20Specs t T ad ca as_ kx c) [] Q k
section
variable {w0 : World} {b : Nat} {t : Tv} {T : Tab} {ad : Addr} {ca : Nat} {as_ : List Int} {kx : Nat} {c : Int} {Q : Exit → Act → World → Prop}
theorem r20_ob0 (H : r20Ctx w0 b t T ad ca as_ kx c) : r20Ob w0 b t T ad ca as_ kx c Q 0 := by
  intro o ho a w hb hf hd K hK
  rw [if_pos (wanted_none _ (get_op (·.guard) ho (by kernel_rfl)))]
  exact ob_value (load_tab (H.tb.later hb) (get_op (·.op) ho (by kernel_rfl)) (eval_tmp (hf.2.2 (7, _) (by simp [r20Fixed])))) (hK _ _ (rk_of rfl rfl) (.inl (Below.refl _ _)))
theorem r20_ob1 : r20Ob w0 b t T ad ca as_ kx c Q 1 := by
  intro o ho a w hb hf hd K hK
  rw [if_pos (wanted_none _ (get_op (·.guard) ho (by kernel_rfl)))]
  exact ob_move (get_op (·.op) ho (by kernel_rfl)) (eval_tmp (hf.2.2 (8, _) (by simp [r20Fixed]))) (hK _ _ (rk_of rfl rfl) (.inl (Below.refl _ _)))
theorem r20_ob2 : r20Ob w0 b t T ad ca as_ kx c Q 2 := by
  intro o ho a w hb hf hd K hK
  rw [if_pos (wanted_none _ (get_op (·.guard) ho (by kernel_rfl)))]
  exact ob_move (get_op (·.op) ho (by kernel_rfl)) (eval_tmp (hf.2.2 (10, _) (by simp [r20Fixed]))) (hK _ _ (rk_of rfl rfl) (.inl (Below.refl _ _)))
theorem r20_ob3 (H : r20Ctx w0 b t T ad ca as_ kx c) : r20Ob w0 b t T ad ca as_ kx c Q 3 := by
  intro o ho a w hb hf hd K hK
  rw [if_pos (wanted_none _ (get_op (·.guard) ho (by kernel_rfl)))]
  obtain ⟨v1, h1, e1⟩ := dep_k (F := 24) ho hd 1 36 (.val (.slice (some ad) as_.length ca)) (by kernel_rfl) (by kernel_rfl) rfl (by kernel_rfl)
  obtain rfl : _ = v1 := Eq.symm e1
  obtain ⟨v2, h2, e2⟩ := dep_k (F := 24) ho hd 2 37 (.val (.int .i64 (kx : Int))) (by kernel_rfl) (by kernel_rfl) rfl (by kernel_rfl)
  obtain rfl : _ = v2 := Eq.symm e2
  have q0 : (0 : Int) ≤ (kx : Int) := by omega
  have q1 : (kx : Int) < (as_.length : Int) := by have := H.k1; omega
  have hop : o.op = .indexAddr 22 (.tmp 36) (.tmp 37) := (get_op (·.op) ho (by kernel_rfl))
  have hr : (execOp a.eval o).run Tryz.prog w = .ok (.value (.pointer (some (ad.add kx)))) w := by
    unfold execOp
    rw [hop]
    go_simp
  exact ob_run5 hr (hK _ _ (rk_of rfl rfl) (.inl (Below.refl _ _)))
theorem r20_ob4 (H : r20Ctx w0 b t T ad ca as_ kx c) : r20Ob w0 b t T ad ca as_ kx c Q 4 := by
  intro o ho a w hb hf hd K hK
  rw [if_pos (wanted_none _ (get_op (·.guard) ho (by kernel_rfl)))]
  obtain ⟨v3, h3, e3⟩ := dep_k (F := 24) ho hd 3 38 (.val (.pointer (some (ad.add kx)))) (by kernel_rfl) (by kernel_rfl) rfl (by kernel_rfl)
  obtain rfl : _ = v3 := Eq.symm e3
  have e1 := (hb.cell (p := ad.add kx) (by rw [block_of_add]; exact H.ha)).trans H.ce
  have hop : o.op = .load 3 (.tmp 38) := (get_op (·.op) ho (by kernel_rfl))
  have hr : (execOp a.eval o).run Tryz.prog w = .ok (.value (.int .i64 c)) w := by
    unfold execOp
    rw [hop]
    go_simp
  exact ob_run5 hr (hK _ _ (rk_of rfl rfl) (.inl (Below.refl _ _)))
theorem r20_ob5 (H : r20Ctx w0 b t T ad ca as_ kx c) : r20Ob w0 b t T ad ca as_ kx c Q 5 := by
  intro o ho a w hb hf hd K hK
  rw [if_pos (wanted_none _ (get_op (·.guard) ho (by kernel_rfl)))]
  obtain ⟨v0, h0, e0⟩ := dep_k (F := 24) ho hd 0 35 (.val t.val) (by kernel_rfl) (by kernel_rfl) rfl (by kernel_rfl)
  obtain rfl : _ = v0 := Eq.symm e0
  obtain ⟨v4, h4, e4⟩ := dep_k (F := 24) ho hd 4 39 (.val (.int .i64 c)) (by kernel_rfl) (by kernel_rfl) rfl (by kernel_rfl)
  obtain rfl : _ = v4 := Eq.symm e4
  refine ob_enter (enter2 (tys := #[26, 3]) (x := .tmp 35) (y := .tmp 39) (get_op (·.op) ho (by kernel_rfl)) (eval_tmp h0) (eval_tmp h4) (fun args w => enters_of Tryz.func20 (by kernel_rfl) rfl args w)) (refPrototype_any t T c w (H.tb.later hb).2) fun e w' ⟨v, he, h2, h1⟩ => ⟨v, he, ?_⟩
  exact hK _ _ (rk_of rfl ⟨_, h2, rfl⟩) (.inl h1)
theorem r20_ob6 : r20Ob w0 b t T ad ca as_ kx c Q 6 := by
  intro o ho a w hb hf hd K hK
  rw [if_pos (wanted_none _ (get_op (·.guard) ho (by kernel_rfl)))]
  obtain ⟨v5, h5, e5⟩ := dep_k (F := 24) ho hd 5 40 (.lst (· = findL T.prototypes c)) (by kernel_rfl) (by kernel_rfl) rfl (by kernel_rfl)
  exact ob_assign (get_op (·.op) ho (by kernel_rfl)) (eval_tmp h5) (hK _ _ (rk_of rfl e5) (.inl (Below.refl _ _)))
theorem r20_obs (H : r20Ctx w0 b t T ad ca as_ kx c) (k : Nat) (hk : k < 7) : r20Ob w0 b t T ad ca as_ kx c Q k := by
  match k, hk with
  | 0, _ => exact r20_ob0 H
  | 1, _ => exact r20_ob1
  | 2, _ => exact r20_ob2
  | 3, _ => exact r20_ob3 H
  | 4, _ => exact r20_ob4 H
  | 5, _ => exact r20_ob5 H
  | 6, _ => exact r20_ob6
  | m + 7, h => exact absurd h (by omega)
theorem r20_region {a : Act} (H : r20Ctx w0 b t T ad ca as_ kx c) (hf : FS 102 [] (r20Fixed b ad ca as_ kx) a)
    (hend : ∀ a w, Below w0.heap.size w0 w → FS 102 [] (r20Fixed b ad ca as_ kx) a → (∀ (i : Nat) (o : Oper) (d : Tmp), (opsAt Tryz.f4 6)[i]? = some o → (∀ j, killK (r20Specs t T ad ca as_ kx c) [] i j = false) → o.dst = some d → ∃ v, a.tmps[d]? = some v ∧ RK w0.heap.size (r20Specs t T ad ca as_ kx c) i v w) → Q .normal a w) : (Code.region 6 (opsAt Tryz.f4 6) true).wp Tryz.prog Q a w0 := by
  refine wp_region_k 24 (n := 102) (ds := []) (fixed := r20Fixed b ad ca as_ kx) (specs := r20Specs t T ad ca as_ kx c) (apps := []) (by kernel_rfl) (by kernel_rfl) (by kernel_rfl) (by kernel_rfl) hf (fun i hi => r20_obs H i ?_) hend
  have hn : (opsAt Tryz.f4 6).size = 7 := by kernel_rfl
  omega
theorem r20_region2 {a : Act} (H : r20Ctx w0 b t T ad ca as_ kx c) (hf : FS 102 [] (r20Fixed b ad ca as_ kx) a)
    (hend : ∀ a' w, Below w0.heap.size w0 w → FS 102 [] (r20Fixed b ad ca as_ kx) a' → (∀ i, i < 102 → freeOf (opsAt Tryz.f4 6) i = true → a'.tmps[i]? = a.tmps[i]?) → (∀ (i : Nat) (o : Oper) (d : Tmp), (opsAt Tryz.f4 6)[i]? = some o → (∀ j, killK (r20Specs t T ad ca as_ kx c) [] i j = false) → o.dst = some d → ∃ v, a'.tmps[d]? = some v ∧ RK w0.heap.size (r20Specs t T ad ca as_ kx c) i v w) → Q .normal a' w) : (Code.region 6 (opsAt Tryz.f4 6) true).wp Tryz.prog Q a w0 := by
  refine wp_region_k2 24 (n := 102) (ds := []) (fixed := r20Fixed b ad ca as_ kx) (specs := r20Specs t T ad ca as_ kx c) (apps := []) (by kernel_rfl) (by kernel_rfl) (by kernel_rfl) (by kernel_rfl) hf (fun i hi => r20_obs H i ?_) hend
  have hn : (opsAt Tryz.f4 6).size = 7 := by kernel_rfl
  omega
end

/-- What holds ahead of region 16. -/
structure u20Ctx (w0 : World) (b : Nat) (t : Tv) (T : Tab) (ad : Addr) (ca : Nat) (as_ : List Int) (kx : Nat) (B : Option Addr) (cb : Nat) (ds : List Int) (sl : List Int) : Prop where
  tb : Tbl w0 b t T
  g : Glob w0
  la : Ints w0 w0.heap.size .i64 (.slice (some ad) as_.length ca) as_
  lb : Ints w0 w0.heap.size .i64 (.slice B ds.length cb) ds
  k1 : kx < as_.length
  na : as_.length ≤ 2000
  nb : ds.length ≤ 2000
  hz : skelR T ((as_.take kx).drop 0 ++ ds ++ (as_.take as_.length).drop (kx + 1)) = (sl, 0)
def u20Specs (t : Tv) (ad : Addr) (ca : Nat) (as_ : List Int) (kx : Nat) (ds : List Int) (sl : List Int) : List SpecK := [.val t.val, .val (.slice (some ad) as_.length ca), .val (.int .i64 (kx : Int)), .low (· = (as_.take kx).drop 0), .own ((as_.take kx).drop 0), .low (· = ds), .own ((as_.take kx).drop 0 ++ ds), .val (.slice (some ad) as_.length ca), .val (.int .i64 (kx : Int)), .val (.int .i64 ((kx : Int) + 1)), .low (· = (as_.take as_.length).drop (kx + 1)), .own ((as_.take kx).drop 0 ++ ds ++ (as_.take as_.length).drop (kx + 1)), .two 0 (· = sl), .two 0 (· = sl), .lst (· = sl), .val (.int .i64 0), .lst (· = sl), .val (.int .i64 0)]
def u20Fixed (b : Nat) (ad : Addr) (ca : Nat) (as_ : List Int) (kx : Nat) (B : Option Addr) (cb : Nat) (ds : List Int) : List (Tmp × Value) := [(7, .pointer (some ⟨b, 0, none⟩)), (8, .slice (some ad) as_.length ca), (10, .int .i64 (kx : Int)), (11, .slice B ds.length cb)]
def u20Ob (w0 : World) (b : Nat) (t : Tv) (ad : Addr) (ca : Nat) (as_ : List Int) (kx : Nat) (B : Option Addr) (cb : Nat) (ds : List Int) (sl : List Int) (Q : Exit → Act → World → Prop) (k : Nat) : Prop := ObR 24 Tryz.prog (opsAt Tryz.f4 16) 102 [] (u20Fixed b ad ca as_ kx B cb ds) w0 (u20Specs t ad ca as_ kx ds sl) [6, 11] Q k
section
variable {w0 : World} {b : Nat} {t : Tv} {T : Tab} {ad : Addr} {ca : Nat} {as_ : List Int} {kx : Nat} {B : Option Addr} {cb : Nat} {ds : List Int} {sl : List Int} {Q : Exit → Act → World → Prop}
theorem u20_ob0 (H : u20Ctx w0 b t T ad ca as_ kx B cb ds sl) : u20Ob w0 b t ad ca as_ kx B cb ds sl Q 0 := by
  intro o ho a w hb hf hd K hK
  rw [if_pos (wanted_none _ (get_op (·.guard) ho (by kernel_rfl)))]
  exact ob_value (load_tab (H.tb.later hb) (get_op (·.op) ho (by kernel_rfl)) (eval_tmp (hf.2.2 (7, _) (by simp [u20Fixed])))) (hK _ _ (rk_of rfl rfl) (.inl (Below.refl _ _)))
theorem u20_ob1 : u20Ob w0 b t ad ca as_ kx B cb ds sl Q 1 := by
  intro o ho a w hb hf hd K hK
  rw [if_pos (wanted_none _ (get_op (·.guard) ho (by kernel_rfl)))]
  exact ob_move (get_op (·.op) ho (by kernel_rfl)) (eval_tmp (hf.2.2 (8, _) (by simp [u20Fixed]))) (hK _ _ (rk_of rfl rfl) (.inl (Below.refl _ _)))
theorem u20_ob2 : u20Ob w0 b t ad ca as_ kx B cb ds sl Q 2 := by
  intro o ho a w hb hf hd K hK
  rw [if_pos (wanted_none _ (get_op (·.guard) ho (by kernel_rfl)))]
  exact ob_move (get_op (·.op) ho (by kernel_rfl)) (eval_tmp (hf.2.2 (10, _) (by simp [u20Fixed]))) (hK _ _ (rk_of rfl rfl) (.inl (Below.refl _ _)))
theorem u20_ob3 (H : u20Ctx w0 b t T ad ca as_ kx B cb ds sl) : u20Ob w0 b t ad ca as_ kx B cb ds sl Q 3 := by
  intro o ho a w hb hf hd K hK
  rw [if_pos (wanted_none _ (get_op (·.guard) ho (by kernel_rfl)))]
  obtain ⟨v1, h1, e1⟩ := dep_k (F := 24) ho hd 1 74 (.val (.slice (some ad) as_.length ca)) (by kernel_rfl) (by kernel_rfl) rfl (by kernel_rfl)
  obtain rfl : _ = v1 := Eq.symm e1
  obtain ⟨v2, h2, e2⟩ := dep_k (F := 24) ho hd 2 75 (.val (.int .i64 (kx : Int))) (by kernel_rfl) (by kernel_rfl) rfl (by kernel_rfl)
  obtain rfl : _ = v2 := Eq.symm e2
  exact ob_slice_h (k := (kx : Int)) (get_op (·.op) ho (by kernel_rfl)) (eval_tmp h1) (eval_tmp h2) (by omega) (by have := ints_cap H.la; have := H.k1; omega) (hK _ _ (rk_of rfl ⟨_, ints_part (H.la.below hb) (l := 0) (h := kx) (by omega) (by have := H.k1; omega), rfl⟩) (.inl (Below.refl _ _)))
theorem u20_ob4 (H : u20Ctx w0 b t T ad ca as_ kx B cb ds sl) : u20Ob w0 b t ad ca as_ kx B cb ds sl Q 4 := by
  intro o ho a w hb hf hd K hK
  rw [if_pos (wanted_none _ (get_op (·.guard) ho (by kernel_rfl)))]
  obtain ⟨v3, h3, e3⟩ := dep_k (F := 24) ho hd 3 76 (.low (· = (as_.take kx).drop 0)) (by kernel_rfl) (by kernel_rfl) rfl (by kernel_rfl)
  obtain ⟨_, hi1, rfl⟩ := e3
  obtain ⟨i0, hi, hz, hz1, hz2⟩ := info_parts Tryz.infoInt'
  refine ob_app_ints (.const (.slice none 0 0)) (.tmp 76) (get_op (·.op) ho (by kernel_rfl)) Tryz.underlying22 hi hz hz1 hz2 _ w0.heap.size (.slice none 0 0) [] _ _ rfl (World.ownsRow_nil _ _ _ _) (eval_tmp h3) hi1 (by have := H.na; simp; omega) hb.size fun v' w' hv' hg => ?_
  exact hK _ _ (rk_of rfl (by simpa [SpecK.ok] using hv')) (.inl ((Below.refl _ _).grown hg (Nat.le_refl _) (fun k hk => by cases hk)))
theorem u20_ob5 (H : u20Ctx w0 b t T ad ca as_ kx B cb ds sl) : u20Ob w0 b t ad ca as_ kx B cb ds sl Q 5 := by
  intro o ho a w hb hf hd K hK
  rw [if_pos (wanted_none _ (get_op (·.guard) ho (by kernel_rfl)))]
  exact ob_move (get_op (·.op) ho (by kernel_rfl)) (eval_tmp (hf.2.2 (11, _) (by simp [u20Fixed]))) (hK _ _ (rk_of rfl ⟨_, H.lb.below hb, rfl⟩) (.inl (Below.refl _ _)))
theorem u20_ob6 (H : u20Ctx w0 b t T ad ca as_ kx B cb ds sl) : u20Ob w0 b t ad ca as_ kx B cb ds sl Q 6 := by
  intro o ho a w hb hf hd K hK
  rw [if_pos (wanted_none _ (get_op (·.guard) ho (by kernel_rfl)))]
  obtain ⟨v5, h5, e5⟩ := dep_k (F := 24) ho hd 5 78 (.low (· = ds)) (by kernel_rfl) (by kernel_rfl) rfl (by kernel_rfl)
  obtain ⟨_, hi1, rfl⟩ := e5
  obtain ⟨i0, hi, hz, hz1, hz2⟩ := info_parts Tryz.infoInt'
  obtain ⟨v4, h4, e4⟩ := dep_k (F := 24) ho hd 4 77 (.own ((as_.take kx).drop 0)) (by kernel_rfl) (by kernel_rfl) rfl (by kernel_rfl)
  refine ob_app_ints (.tmp 77) (.tmp 78) (get_op (·.op) ho (by kernel_rfl)) Tryz.underlying22 hi hz hz1 hz2 _ w0.heap.size v4 _ _ _ (eval_tmp h4) e4 (eval_tmp h5) hi1 (by have := H.na; have := H.nb; simp; omega) hb.size fun v' w' hv' hg => ?_
  exact hK _ _ (rk_of rfl hv') (.inr ⟨rfl, (Below.refl _ _).grown hg hb.size (fun k hk => (e4.lt k hk).1)⟩)
theorem u20_ob7 : u20Ob w0 b t ad ca as_ kx B cb ds sl Q 7 := by
  intro o ho a w hb hf hd K hK
  rw [if_pos (wanted_none _ (get_op (·.guard) ho (by kernel_rfl)))]
  exact ob_move (get_op (·.op) ho (by kernel_rfl)) (eval_tmp (hf.2.2 (8, _) (by simp [u20Fixed]))) (hK _ _ (rk_of rfl rfl) (.inl (Below.refl _ _)))
theorem u20_ob8 : u20Ob w0 b t ad ca as_ kx B cb ds sl Q 8 := by
  intro o ho a w hb hf hd K hK
  rw [if_pos (wanted_none _ (get_op (·.guard) ho (by kernel_rfl)))]
  exact ob_move (get_op (·.op) ho (by kernel_rfl)) (eval_tmp (hf.2.2 (10, _) (by simp [u20Fixed]))) (hK _ _ (rk_of rfl rfl) (.inl (Below.refl _ _)))
theorem u20_ob9 (H : u20Ctx w0 b t T ad ca as_ kx B cb ds sl) : u20Ob w0 b t ad ca as_ kx B cb ds sl Q 9 := by
  intro o ho a w hb hf hd K hK
  rw [if_pos (wanted_none _ (get_op (·.guard) ho (by kernel_rfl)))]
  obtain ⟨v8, h8, e8⟩ := dep_k (F := 24) ho hd 8 81 (.val (.int .i64 (kx : Int))) (by kernel_rfl) (by kernel_rfl) rfl (by kernel_rfl)
  obtain rfl : _ = v8 := Eq.symm e8
  have q0 : (0 : Int) ≤ (kx : Int) := by omega
  have q1 : (kx : Int) < (as_.length : Int) := by have := H.k1; omega
  have q2 : (as_.length : Int) ≤ 2000 := by have := H.na; omega
  have hop : o.op = .binOp .add 3 (.tmp 81) (.const (.int .i64 1)) 3 := (get_op (·.op) ho (by kernel_rfl))
  have hr : (execOp a.eval o).run Tryz.prog w = .ok (.value (.int .i64 ((kx : Int) + 1))) w := by
    unfold execOp
    rw [hop]
    go_simp
    rw [IntKind.wrap_i64]; omega
  exact ob_run5 hr (hK _ _ (rk_of rfl rfl) (.inl (Below.refl _ _)))
theorem u20_ob10 (H : u20Ctx w0 b t T ad ca as_ kx B cb ds sl) : u20Ob w0 b t ad ca as_ kx B cb ds sl Q 10 := by
  intro o ho a w hb hf hd K hK
  rw [if_pos (wanted_none _ (get_op (·.guard) ho (by kernel_rfl)))]
  obtain ⟨v7, h7, e7⟩ := dep_k (F := 24) ho hd 7 80 (.val (.slice (some ad) as_.length ca)) (by kernel_rfl) (by kernel_rfl) rfl (by kernel_rfl)
  obtain rfl : _ = v7 := Eq.symm e7
  obtain ⟨v9, h9, e9⟩ := dep_k (F := 24) ho hd 9 82 (.val (.int .i64 ((kx : Int) + 1))) (by kernel_rfl) (by kernel_rfl) rfl (by kernel_rfl)
  obtain rfl : _ = v9 := Eq.symm e9
  exact ob_slice_l (k := (kx : Int) + 1) (get_op (·.op) ho (by kernel_rfl)) (eval_tmp h7) (eval_tmp h9) (by omega) (by have := H.k1; omega) (hK _ _ (rk_of rfl ⟨_, ints_part (H.la.below hb) (l := kx + 1) (h := as_.length) (by have := H.k1; omega) (Nat.le_refl _), rfl⟩) (.inl (Below.refl _ _)))
theorem u20_ob11 (H : u20Ctx w0 b t T ad ca as_ kx B cb ds sl) : u20Ob w0 b t ad ca as_ kx B cb ds sl Q 11 := by
  intro o ho a w hb hf hd K hK
  rw [if_pos (wanted_none _ (get_op (·.guard) ho (by kernel_rfl)))]
  obtain ⟨v10, h10, e10⟩ := dep_k (F := 24) ho hd 10 83 (.low (· = (as_.take as_.length).drop (kx + 1))) (by kernel_rfl) (by kernel_rfl) rfl (by kernel_rfl)
  obtain ⟨_, hi1, rfl⟩ := e10
  obtain ⟨i0, hi, hz, hz1, hz2⟩ := info_parts Tryz.infoInt'
  obtain ⟨v6, h6, e6⟩ := dep_k (F := 24) ho hd 6 79 (.own ((as_.take kx).drop 0 ++ ds)) (by kernel_rfl) (by kernel_rfl) rfl (by kernel_rfl)
  refine ob_app_ints (.tmp 79) (.tmp 83) (get_op (·.op) ho (by kernel_rfl)) Tryz.underlying22 hi hz hz1 hz2 _ w0.heap.size v6 _ _ _ (eval_tmp h6) e6 (eval_tmp h10) hi1 (by have := H.na; have := H.nb; simp; omega) hb.size fun v' w' hv' hg => ?_
  exact hK _ _ (rk_of rfl hv') (.inr ⟨rfl, (Below.refl _ _).grown hg hb.size (fun k hk => (e6.lt k hk).1)⟩)
theorem u20_ob12 (H : u20Ctx w0 b t T ad ca as_ kx B cb ds sl) : u20Ob w0 b t ad ca as_ kx B cb ds sl Q 12 := by
  intro o ho a w hb hf hd K hK
  rw [if_pos (wanted_none _ (get_op (·.guard) ho (by kernel_rfl)))]
  obtain ⟨v0, h0, e0⟩ := dep_k (F := 24) ho hd 0 73 (.val t.val) (by kernel_rfl) (by kernel_rfl) rfl (by kernel_rfl)
  obtain rfl : _ = v0 := Eq.symm e0
  obtain ⟨v11, h11, e11⟩ := dep_k (F := 24) ho hd 11 84 (.own ((as_.take kx).drop 0 ++ ds ++ (as_.take as_.length).drop (kx + 1))) (by kernel_rfl) (by kernel_rfl) rfl (by kernel_rfl)
  refine ob_enter (enter2 (tys := #[26, 22]) (x := .tmp 73) (y := .tmp 84) (get_op (·.op) ho (by kernel_rfl)) (eval_tmp h0) (eval_tmp h11) (fun args w => enters_of Tryz.func16 (by kernel_rfl) rfl args w)) (skOf_eq t T _ ((as_.take kx).drop 0 ++ ds ++ (as_.take as_.length).drop (kx + 1)) w (sl, 0) (H.tb.later hb).2 (H.g.later hb) (Ints.of_own e11) H.hz) fun e w' ⟨u, he, h2, h1⟩ => ⟨_, he, ?_⟩
  exact hK _ _ (rk_of rfl ⟨u, _, rfl, Ints.of_own h2, rfl⟩) (.inl h1)
theorem u20_ob13 : u20Ob w0 b t ad ca as_ kx B cb ds sl Q 13 := by
  intro o ho a w hb hf hd K hK
  rw [if_pos (wanted_none _ (get_op (·.guard) ho (by kernel_rfl)))]
  obtain ⟨v12, h12, e12⟩ := dep_k (F := 24) ho hd 12 85 (.two 0 (· = sl)) (by kernel_rfl) (by kernel_rfl) rfl (by kernel_rfl)
  exact ob_move (get_op (·.op) ho (by kernel_rfl)) (eval_tmp h12) (hK _ _ (rk_of rfl e12) (.inl (Below.refl _ _)))
theorem u20_ob14 : u20Ob w0 b t ad ca as_ kx B cb ds sl Q 14 := by
  intro o ho a w hb hf hd K hK
  rw [if_pos (wanted_none _ (get_op (·.guard) ho (by kernel_rfl)))]
  obtain ⟨v13, h13, e13⟩ := dep_k (F := 24) ho hd 13 72 (.two 0 (· = sl)) (by kernel_rfl) (by kernel_rfl) rfl (by kernel_rfl)
  obtain ⟨u, ys, rfl, hi1, hp⟩ := e13
  exact ob_extract (k := 0) (get_op (·.op) ho (by kernel_rfl)) (eval_tmp h13) rfl (hK _ _ (rk_of rfl ⟨ys, hi1, hp⟩) (.inl (Below.refl _ _)))
theorem u20_ob15 : u20Ob w0 b t ad ca as_ kx B cb ds sl Q 15 := by
  intro o ho a w hb hf hd K hK
  rw [if_pos (wanted_none _ (get_op (·.guard) ho (by kernel_rfl)))]
  obtain ⟨v13, h13, e13⟩ := dep_k (F := 24) ho hd 13 72 (.two 0 (· = sl)) (by kernel_rfl) (by kernel_rfl) rfl (by kernel_rfl)
  obtain ⟨u, ys, rfl, hi1, hp⟩ := e13
  exact ob_extract (k := 1) (get_op (·.op) ho (by kernel_rfl)) (eval_tmp h13) rfl (hK _ _ (rk_of rfl rfl) (.inl (Below.refl _ _)))
theorem u20_ob16 : u20Ob w0 b t ad ca as_ kx B cb ds sl Q 16 := by
  intro o ho a w hb hf hd K hK
  rw [if_pos (wanted_none _ (get_op (·.guard) ho (by kernel_rfl)))]
  obtain ⟨v14, h14, e14⟩ := dep_k (F := 24) ho hd 14 86 (.lst (· = sl)) (by kernel_rfl) (by kernel_rfl) rfl (by kernel_rfl)
  exact ob_assign (get_op (·.op) ho (by kernel_rfl)) (eval_tmp h14) (hK _ _ (rk_of rfl e14) (.inl (Below.refl _ _)))
theorem u20_ob17 : u20Ob w0 b t ad ca as_ kx B cb ds sl Q 17 := by
  intro o ho a w hb hf hd K hK
  rw [if_pos (wanted_none _ (get_op (·.guard) ho (by kernel_rfl)))]
  obtain ⟨v15, h15, e15⟩ := dep_k (F := 24) ho hd 15 87 (.val (.int .i64 0)) (by kernel_rfl) (by kernel_rfl) rfl (by kernel_rfl)
  obtain rfl : _ = v15 := Eq.symm e15
  exact ob_assign (get_op (·.op) ho (by kernel_rfl)) (eval_tmp h15) (hK _ _ (rk_of rfl rfl) (.inl (Below.refl _ _)))
theorem u20_obs (H : u20Ctx w0 b t T ad ca as_ kx B cb ds sl) (k : Nat) (hk : k < 18) : u20Ob w0 b t ad ca as_ kx B cb ds sl Q k := by
  match k, hk with
  | 0, _ => exact u20_ob0 H
  | 1, _ => exact u20_ob1
  | 2, _ => exact u20_ob2
  | 3, _ => exact u20_ob3 H
  | 4, _ => exact u20_ob4 H
  | 5, _ => exact u20_ob5 H
  | 6, _ => exact u20_ob6 H
  | 7, _ => exact u20_ob7
  | 8, _ => exact u20_ob8
  | 9, _ => exact u20_ob9 H
  | 10, _ => exact u20_ob10 H
  | 11, _ => exact u20_ob11 H
  | 12, _ => exact u20_ob12 H
  | 13, _ => exact u20_ob13
  | 14, _ => exact u20_ob14
  | 15, _ => exact u20_ob15
  | 16, _ => exact u20_ob16
  | 17, _ => exact u20_ob17
  | m + 18, h => exact absurd h (by omega)
theorem u20_region {a : Act} (H : u20Ctx w0 b t T ad ca as_ kx B cb ds sl) (hf : FS 102 [] (u20Fixed b ad ca as_ kx B cb ds) a)
    (hend : ∀ a w, Below w0.heap.size w0 w → FS 102 [] (u20Fixed b ad ca as_ kx B cb ds) a → (∀ (i : Nat) (o : Oper) (d : Tmp), (opsAt Tryz.f4 16)[i]? = some o → (∀ j, killK (u20Specs t ad ca as_ kx ds sl) [6, 11] i j = false) → o.dst = some d → ∃ v, a.tmps[d]? = some v ∧ RK w0.heap.size (u20Specs t ad ca as_ kx ds sl) i v w) → Q .normal a w) : (Code.region 16 (opsAt Tryz.f4 16) true).wp Tryz.prog Q a w0 := by
  refine wp_region_k 24 (n := 102) (ds := []) (fixed := u20Fixed b ad ca as_ kx B cb ds) (specs := u20Specs t ad ca as_ kx ds sl) (apps := [6, 11]) (by kernel_rfl) (by kernel_rfl) (by kernel_rfl) (by kernel_rfl) hf (fun i hi => u20_obs H i ?_) hend
  have hn : (opsAt Tryz.f4 16).size = 18 := by kernel_rfl
  omega
theorem u20_region2 {a : Act} (H : u20Ctx w0 b t T ad ca as_ kx B cb ds sl) (hf : FS 102 [] (u20Fixed b ad ca as_ kx B cb ds) a)
    (hend : ∀ a' w, Below w0.heap.size w0 w → FS 102 [] (u20Fixed b ad ca as_ kx B cb ds) a' → (∀ i, i < 102 → freeOf (opsAt Tryz.f4 16) i = true → a'.tmps[i]? = a.tmps[i]?) → (∀ (i : Nat) (o : Oper) (d : Tmp), (opsAt Tryz.f4 16)[i]? = some o → (∀ j, killK (u20Specs t ad ca as_ kx ds sl) [6, 11] i j = false) → o.dst = some d → ∃ v, a'.tmps[d]? = some v ∧ RK w0.heap.size (u20Specs t ad ca as_ kx ds sl) i v w) → Q .normal a' w) : (Code.region 16 (opsAt Tryz.f4 16) true).wp Tryz.prog Q a w0 := by
  refine wp_region_k2 24 (n := 102) (ds := []) (fixed := u20Fixed b ad ca as_ kx B cb ds) (specs := u20Specs t ad ca as_ kx ds sl) (apps := [6, 11]) (by kernel_rfl) (by kernel_rfl) (by kernel_rfl) (by kernel_rfl) hf (fun i hi => u20_obs H i ?_) hend
  have hn : (opsAt Tryz.f4 16).size = 18 := by kernel_rfl
  omega
end

set_option maxRecDepth 100000 in
set_option maxHeartbeats 4000000 in
theorem SkeletonPrototype_go (W : World) (hg : Glob W) (v : Value) (xs : List Int) (hv : Ints W W.heap.size .i64 v xs) (vm : Value) (ms : List Int) (hvm : Ints W W.heap.size .i64 vm ms) (n : Int) :
    Calls Tryz.prog 4 #[v, vm, .int .i64 n] W fun e W' => e = .returned (.bool true) ∧ Below W.heap.size W W' := by
  have HG := Lib.hid hg
  have HM := Lib.hid hvm
  obtain ⟨Ax, cx, rfl, _⟩ := id hv
  obtain ⟨Am, cm, rfl, _⟩ := id hvm
  have HT := Lib.hid (keepTables_any W _ xs hv)
  clear hv hg hvm
  go_enter Tryz.func4, Tryz.ntmps4
  go_upto_region 2 with (go_at_call 12; refine HT.out.mono ?_; rintro e w1 ⟨t, T, rfl, ht1, hm1, hb1⟩; obtain ⟨A0, A1, A2, A3, A4, A5, A6, A7, A8, A9, A10, A11, k0, k1, k2, k3, k4, k5, k6, k7, k8, k9, k10, k11, rfl⟩ := ht1.shape; have HT1 := Lib.hid ht1; have HB1 := Lib.hid hb1; have HM1 := Lib.hid hm1; clear ht1 hb1 hm1)
  obtain ⟨t, ht, htb⟩ := Tbl.new HT1.out
  have HT2 := Lib.hid htb
  have HB2 := Lib.hid (HB1.out.alloc HB1.out.size (.cells #[.slice A0 T.category.length k0, .slice A1 T.cls.length k1, .slice A2 T.joining.length k2, .slice A3 T.bidi.length k3, .slice A4 T.script.length k4, .slice A5 T.status.length k5, .slice A6 T.ignorable.length k6, .slice A7 T.extensions.length k7, .slice A8 T.maps.length k8, .slice A9 T.decomps.length k9, .slice A10 T.excluded.length k10, .slice A11 T.prototypes.length k11] 26))
  clear htb HT1 HT
  generalize w1.alloc (.cells #[.slice A0 T.category.length k0, .slice A1 T.cls.length k1, .slice A2 T.joining.length k2, .slice A3 T.bidi.length k3, .slice A4 T.script.length k4, .slice A5 T.status.length k5, .slice A6 T.ignorable.length k6, .slice A7 T.extensions.length k7, .slice A8 T.maps.length k8, .slice A9 T.decomps.length k9, .slice A10 T.excluded.length k10, .slice A11 T.prototypes.length k11] 26) = w2 at *
  generalize w1.heap.size = tb at *
  clear ht
  have hck := HM1.out.check
  have HG2 := Lib.hid (HG.out.later HB2.out)
  have HM2 := Lib.hid (HM.out.later HB2.out)
  clear HG HM HM1
  rename_i K hK
  refine wp_region_as (ops := (opsAt Tryz.f4 2)) (by kernel_rfl) ?_
  refine q20_region2 (b := tb) (t := t) (T := T) (va := .slice Am ms.length cm) (ms := ms) ⟨HT2.out, HG2.out, HM2.out, hck⟩ ⟨rfl, rfl, by intro p hp; simp [q20Fixed] at hp; rcases hp with rfl | rfl <;> rfl⟩ ?_
  intro a w7 hb hf ho hr
  obtain ⟨v8, h8, dl, hi8, l0, hl0, hs0, hal⟩ := end_k hr 7 8 (.lst (fun ys => ∃ l : List Int, l.length ≤ 10 ∧ l.all scalarB = true ∧ ys = nfdL T l)) (by kernel_rfl) rfl (by kernel_rfl)
  obtain ⟨v9, h9, e9⟩ := end_k hr 8 9 (.val (.int .i64 0)) (by kernel_rfl) rfl (by kernel_rfl)
  obtain rfl : _ = v9 := Eq.symm e9
  obtain ⟨A8, c8, rfl, _⟩ := id hi8
  have HD7 := Lib.hid hi8
  have HB7 := Lib.hid (below_next HB2.out hb)
  have HT7 := Lib.hid (HT2.out.later hb)
  have HG7 := Lib.hid (HG2.out.later hb)
  have HAL := Lib.hid hal.symm
  have HS0 := Lib.hid hs0
  have hdl : dl.length ≤ 216 := by
    have h1 := (flatD_len (decOk_of hck) l0).2
    have h3 : (nfdL T l0).length = _ := nfdL_length l0
    rw [← hal] at h3; omega
  have hs := hf.1
  have hd := hf.2.1
  refine hK a w7 ?_
  obtain ⟨fa, hfa, ha⟩ := act_fun hs hd
  have ea0 := (hfa 0 (by decide)).symm.trans (ho 0 (by decide) (by kernel_rfl))
  simp only [List.getElem?_toArray, List.getElem?_cons_zero, Option.some.injEq] at ea0
  have ea1 := (hfa 1 (by decide)).symm.trans (ho 1 (by decide) (by kernel_rfl))
  simp only [List.getElem?_toArray, List.getElem?_cons_zero, List.getElem?_cons_succ, Option.some.injEq] at ea1
  have ea2 := (hfa 2 (by decide)).symm.trans (ho 2 (by decide) (by kernel_rfl))
  simp only [List.getElem?_toArray, List.getElem?_cons_zero, List.getElem?_cons_succ, Option.some.injEq] at ea2
  have ea3 := (hfa 3 (by decide)).symm.trans (ho 3 (by decide) (by kernel_rfl))
  simp only [List.getElem?_toArray, List.getElem?_cons_zero, List.getElem?_cons_succ, Option.some.injEq] at ea3
  have ea4 := (hfa 4 (by decide)).symm.trans (ho 4 (by decide) (by kernel_rfl))
  simp only [List.getElem?_toArray, List.getElem?_cons_zero, List.getElem?_cons_succ, Option.some.injEq] at ea4
  have ea5 := (hfa 5 (by decide)).symm.trans (ho 5 (by decide) (by kernel_rfl))
  simp only [List.getElem?_toArray, List.getElem?_cons_zero, List.getElem?_cons_succ, Option.some.injEq] at ea5
  have ea6 := (hfa 6 (by decide)).symm.trans (ho 6 (by decide) (by kernel_rfl))
  simp only [List.getElem?_toArray, List.getElem?_cons_zero, List.getElem?_cons_succ, Option.some.injEq] at ea6
  have ea7 := (hfa 7 (by decide)).symm.trans (ho 7 (by decide) (by kernel_rfl))
  simp only [List.getElem?_toArray, List.getElem?_cons_zero, List.getElem?_cons_succ, Option.some.injEq] at ea7
  have ea10 := (hfa 10 (by decide)).symm.trans (ho 10 (by decide) (by kernel_rfl))
  simp only [List.getElem?_toArray, List.getElem?_cons_zero, List.getElem?_cons_succ, Option.some.injEq] at ea10
  have ea11 := (hfa 11 (by decide)).symm.trans (ho 11 (by decide) (by kernel_rfl))
  simp only [List.getElem?_toArray, List.getElem?_cons_zero, List.getElem?_cons_succ, Option.some.injEq] at ea11
  have ea12 := (hfa 12 (by decide)).symm.trans (ho 12 (by decide) (by kernel_rfl))
  simp only [List.getElem?_toArray, List.getElem?_cons_zero, List.getElem?_cons_succ, Option.some.injEq] at ea12
  have ea13 := (hfa 13 (by decide)).symm.trans (ho 13 (by decide) (by kernel_rfl))
  simp only [List.getElem?_toArray, List.getElem?_cons_zero, List.getElem?_cons_succ, Option.some.injEq] at ea13
  have ea14 := (hfa 14 (by decide)).symm.trans (ho 14 (by decide) (by kernel_rfl))
  simp only [List.getElem?_toArray, List.getElem?_cons_zero, List.getElem?_cons_succ, Option.some.injEq] at ea14
  have ea15 := (hfa 15 (by decide)).symm.trans (ho 15 (by decide) (by kernel_rfl))
  simp only [List.getElem?_toArray, List.getElem?_cons_zero, List.getElem?_cons_succ, Option.some.injEq] at ea15
  have ea16 := (hfa 16 (by decide)).symm.trans (ho 16 (by decide) (by kernel_rfl))
  simp only [List.getElem?_toArray, List.getElem?_cons_zero, List.getElem?_cons_succ, Option.some.injEq] at ea16
  have ea17 := (hfa 17 (by decide)).symm.trans (ho 17 (by decide) (by kernel_rfl))
  simp only [List.getElem?_toArray, List.getElem?_cons_zero, List.getElem?_cons_succ, Option.some.injEq] at ea17
  have ea18 := (hfa 18 (by decide)).symm.trans (ho 18 (by decide) (by kernel_rfl))
  simp only [List.getElem?_toArray, List.getElem?_cons_zero, List.getElem?_cons_succ, Option.some.injEq] at ea18
  have ea19 := (hfa 19 (by decide)).symm.trans (ho 19 (by decide) (by kernel_rfl))
  simp only [List.getElem?_toArray, List.getElem?_cons_zero, List.getElem?_cons_succ, Option.some.injEq] at ea19
  have ea27 := (hfa 27 (by decide)).symm.trans (ho 27 (by decide) (by kernel_rfl))
  simp only [List.getElem?_toArray, List.getElem?_cons_zero, List.getElem?_cons_succ, Option.some.injEq] at ea27
  have ea28 := (hfa 28 (by decide)).symm.trans (ho 28 (by decide) (by kernel_rfl))
  simp only [List.getElem?_toArray, List.getElem?_cons_zero, List.getElem?_cons_succ, Option.some.injEq] at ea28
  have ea29 := (hfa 29 (by decide)).symm.trans (ho 29 (by decide) (by kernel_rfl))
  simp only [List.getElem?_toArray, List.getElem?_cons_zero, List.getElem?_cons_succ, Option.some.injEq] at ea29
  have ea30 := (hfa 30 (by decide)).symm.trans (ho 30 (by decide) (by kernel_rfl))
  simp only [List.getElem?_toArray, List.getElem?_cons_zero, List.getElem?_cons_succ, Option.some.injEq] at ea30
  have ea31 := (hfa 31 (by decide)).symm.trans (ho 31 (by decide) (by kernel_rfl))
  simp only [List.getElem?_toArray, List.getElem?_cons_zero, List.getElem?_cons_succ, Option.some.injEq] at ea31
  have ea32 := (hfa 32 (by decide)).symm.trans (ho 32 (by decide) (by kernel_rfl))
  simp only [List.getElem?_toArray, List.getElem?_cons_zero, List.getElem?_cons_succ, Option.some.injEq] at ea32
  have ea33 := (hfa 33 (by decide)).symm.trans (ho 33 (by decide) (by kernel_rfl))
  simp only [List.getElem?_toArray, List.getElem?_cons_zero, List.getElem?_cons_succ, Option.some.injEq] at ea33
  have ea34 := (hfa 34 (by decide)).symm.trans (ho 34 (by decide) (by kernel_rfl))
  simp only [List.getElem?_toArray, List.getElem?_cons_zero, List.getElem?_cons_succ, Option.some.injEq] at ea34
  have ea35 := (hfa 35 (by decide)).symm.trans (ho 35 (by decide) (by kernel_rfl))
  simp only [List.getElem?_toArray, List.getElem?_cons_zero, List.getElem?_cons_succ, Option.some.injEq] at ea35
  have ea36 := (hfa 36 (by decide)).symm.trans (ho 36 (by decide) (by kernel_rfl))
  simp only [List.getElem?_toArray, List.getElem?_cons_zero, List.getElem?_cons_succ, Option.some.injEq] at ea36
  have ea37 := (hfa 37 (by decide)).symm.trans (ho 37 (by decide) (by kernel_rfl))
  simp only [List.getElem?_toArray, List.getElem?_cons_zero, List.getElem?_cons_succ, Option.some.injEq] at ea37
  have ea38 := (hfa 38 (by decide)).symm.trans (ho 38 (by decide) (by kernel_rfl))
  simp only [List.getElem?_toArray, List.getElem?_cons_zero, List.getElem?_cons_succ, Option.some.injEq] at ea38
  have ea39 := (hfa 39 (by decide)).symm.trans (ho 39 (by decide) (by kernel_rfl))
  simp only [List.getElem?_toArray, List.getElem?_cons_zero, List.getElem?_cons_succ, Option.some.injEq] at ea39
  have ea40 := (hfa 40 (by decide)).symm.trans (ho 40 (by decide) (by kernel_rfl))
  simp only [List.getElem?_toArray, List.getElem?_cons_zero, List.getElem?_cons_succ, Option.some.injEq] at ea40
  have ea41 := (hfa 41 (by decide)).symm.trans (ho 41 (by decide) (by kernel_rfl))
  simp only [List.getElem?_toArray, List.getElem?_cons_zero, List.getElem?_cons_succ, Option.some.injEq] at ea41
  have ea42 := (hfa 42 (by decide)).symm.trans (ho 42 (by decide) (by kernel_rfl))
  simp only [List.getElem?_toArray, List.getElem?_cons_zero, List.getElem?_cons_succ, Option.some.injEq] at ea42
  have ea43 := (hfa 43 (by decide)).symm.trans (ho 43 (by decide) (by kernel_rfl))
  simp only [List.getElem?_toArray, List.getElem?_cons_zero, List.getElem?_cons_succ, Option.some.injEq] at ea43
  have ea44 := (hfa 44 (by decide)).symm.trans (ho 44 (by decide) (by kernel_rfl))
  simp only [List.getElem?_toArray, List.getElem?_cons_zero, List.getElem?_cons_succ, Option.some.injEq] at ea44
  have ea45 := (hfa 45 (by decide)).symm.trans (ho 45 (by decide) (by kernel_rfl))
  simp only [List.getElem?_toArray, List.getElem?_cons_zero, List.getElem?_cons_succ, Option.some.injEq] at ea45
  have ea46 := (hfa 46 (by decide)).symm.trans (ho 46 (by decide) (by kernel_rfl))
  simp only [List.getElem?_toArray, List.getElem?_cons_zero, List.getElem?_cons_succ, Option.some.injEq] at ea46
  have ea47 := (hfa 47 (by decide)).symm.trans (ho 47 (by decide) (by kernel_rfl))
  simp only [List.getElem?_toArray, List.getElem?_cons_zero, List.getElem?_cons_succ, Option.some.injEq] at ea47
  have ea48 := (hfa 48 (by decide)).symm.trans (ho 48 (by decide) (by kernel_rfl))
  simp only [List.getElem?_toArray, List.getElem?_cons_zero, List.getElem?_cons_succ, Option.some.injEq] at ea48
  have ea49 := (hfa 49 (by decide)).symm.trans (ho 49 (by decide) (by kernel_rfl))
  simp only [List.getElem?_toArray, List.getElem?_cons_zero, List.getElem?_cons_succ, Option.some.injEq] at ea49
  have ea50 := (hfa 50 (by decide)).symm.trans (ho 50 (by decide) (by kernel_rfl))
  simp only [List.getElem?_toArray, List.getElem?_cons_zero, List.getElem?_cons_succ, Option.some.injEq] at ea50
  have ea51 := (hfa 51 (by decide)).symm.trans (ho 51 (by decide) (by kernel_rfl))
  simp only [List.getElem?_toArray, List.getElem?_cons_zero, List.getElem?_cons_succ, Option.some.injEq] at ea51
  have ea52 := (hfa 52 (by decide)).symm.trans (ho 52 (by decide) (by kernel_rfl))
  simp only [List.getElem?_toArray, List.getElem?_cons_zero, List.getElem?_cons_succ, Option.some.injEq] at ea52
  have ea53 := (hfa 53 (by decide)).symm.trans (ho 53 (by decide) (by kernel_rfl))
  simp only [List.getElem?_toArray, List.getElem?_cons_zero, List.getElem?_cons_succ, Option.some.injEq] at ea53
  have ea54 := (hfa 54 (by decide)).symm.trans (ho 54 (by decide) (by kernel_rfl))
  simp only [List.getElem?_toArray, List.getElem?_cons_zero, List.getElem?_cons_succ, Option.some.injEq] at ea54
  have ea55 := (hfa 55 (by decide)).symm.trans (ho 55 (by decide) (by kernel_rfl))
  simp only [List.getElem?_toArray, List.getElem?_cons_zero, List.getElem?_cons_succ, Option.some.injEq] at ea55
  have ea56 := (hfa 56 (by decide)).symm.trans (ho 56 (by decide) (by kernel_rfl))
  simp only [List.getElem?_toArray, List.getElem?_cons_zero, List.getElem?_cons_succ, Option.some.injEq] at ea56
  have ea57 := (hfa 57 (by decide)).symm.trans (ho 57 (by decide) (by kernel_rfl))
  simp only [List.getElem?_toArray, List.getElem?_cons_zero, List.getElem?_cons_succ, Option.some.injEq] at ea57
  have ea58 := (hfa 58 (by decide)).symm.trans (ho 58 (by decide) (by kernel_rfl))
  simp only [List.getElem?_toArray, List.getElem?_cons_zero, List.getElem?_cons_succ, Option.some.injEq] at ea58
  have ea59 := (hfa 59 (by decide)).symm.trans (ho 59 (by decide) (by kernel_rfl))
  simp only [List.getElem?_toArray, List.getElem?_cons_zero, List.getElem?_cons_succ, Option.some.injEq] at ea59
  have ea60 := (hfa 60 (by decide)).symm.trans (ho 60 (by decide) (by kernel_rfl))
  simp only [List.getElem?_toArray, List.getElem?_cons_zero, List.getElem?_cons_succ, Option.some.injEq] at ea60
  have ea61 := (hfa 61 (by decide)).symm.trans (ho 61 (by decide) (by kernel_rfl))
  simp only [List.getElem?_toArray, List.getElem?_cons_zero, List.getElem?_cons_succ, Option.some.injEq] at ea61
  have ea62 := (hfa 62 (by decide)).symm.trans (ho 62 (by decide) (by kernel_rfl))
  simp only [List.getElem?_toArray, List.getElem?_cons_zero, List.getElem?_cons_succ, Option.some.injEq] at ea62
  have ea63 := (hfa 63 (by decide)).symm.trans (ho 63 (by decide) (by kernel_rfl))
  simp only [List.getElem?_toArray, List.getElem?_cons_zero, List.getElem?_cons_succ, Option.some.injEq] at ea63
  have ea64 := (hfa 64 (by decide)).symm.trans (ho 64 (by decide) (by kernel_rfl))
  simp only [List.getElem?_toArray, List.getElem?_cons_zero, List.getElem?_cons_succ, Option.some.injEq] at ea64
  have ea65 := (hfa 65 (by decide)).symm.trans (ho 65 (by decide) (by kernel_rfl))
  simp only [List.getElem?_toArray, List.getElem?_cons_zero, List.getElem?_cons_succ, Option.some.injEq] at ea65
  have ea66 := (hfa 66 (by decide)).symm.trans (ho 66 (by decide) (by kernel_rfl))
  simp only [List.getElem?_toArray, List.getElem?_cons_zero, List.getElem?_cons_succ, Option.some.injEq] at ea66
  have ea67 := (hfa 67 (by decide)).symm.trans (ho 67 (by decide) (by kernel_rfl))
  simp only [List.getElem?_toArray, List.getElem?_cons_zero, List.getElem?_cons_succ, Option.some.injEq] at ea67
  have ea68 := (hfa 68 (by decide)).symm.trans (ho 68 (by decide) (by kernel_rfl))
  simp only [List.getElem?_toArray, List.getElem?_cons_zero, List.getElem?_cons_succ, Option.some.injEq] at ea68
  have ea69 := (hfa 69 (by decide)).symm.trans (ho 69 (by decide) (by kernel_rfl))
  simp only [List.getElem?_toArray, List.getElem?_cons_zero, List.getElem?_cons_succ, Option.some.injEq] at ea69
  have ea70 := (hfa 70 (by decide)).symm.trans (ho 70 (by decide) (by kernel_rfl))
  simp only [List.getElem?_toArray, List.getElem?_cons_zero, List.getElem?_cons_succ, Option.some.injEq] at ea70
  have ea71 := (hfa 71 (by decide)).symm.trans (ho 71 (by decide) (by kernel_rfl))
  simp only [List.getElem?_toArray, List.getElem?_cons_zero, List.getElem?_cons_succ, Option.some.injEq] at ea71
  have ea72 := (hfa 72 (by decide)).symm.trans (ho 72 (by decide) (by kernel_rfl))
  simp only [List.getElem?_toArray, List.getElem?_cons_zero, List.getElem?_cons_succ, Option.some.injEq] at ea72
  have ea73 := (hfa 73 (by decide)).symm.trans (ho 73 (by decide) (by kernel_rfl))
  simp only [List.getElem?_toArray, List.getElem?_cons_zero, List.getElem?_cons_succ, Option.some.injEq] at ea73
  have ea74 := (hfa 74 (by decide)).symm.trans (ho 74 (by decide) (by kernel_rfl))
  simp only [List.getElem?_toArray, List.getElem?_cons_zero, List.getElem?_cons_succ, Option.some.injEq] at ea74
  have ea75 := (hfa 75 (by decide)).symm.trans (ho 75 (by decide) (by kernel_rfl))
  simp only [List.getElem?_toArray, List.getElem?_cons_zero, List.getElem?_cons_succ, Option.some.injEq] at ea75
  have ea76 := (hfa 76 (by decide)).symm.trans (ho 76 (by decide) (by kernel_rfl))
  simp only [List.getElem?_toArray, List.getElem?_cons_zero, List.getElem?_cons_succ, Option.some.injEq] at ea76
  have ea77 := (hfa 77 (by decide)).symm.trans (ho 77 (by decide) (by kernel_rfl))
  simp only [List.getElem?_toArray, List.getElem?_cons_zero, List.getElem?_cons_succ, Option.some.injEq] at ea77
  have ea78 := (hfa 78 (by decide)).symm.trans (ho 78 (by decide) (by kernel_rfl))
  simp only [List.getElem?_toArray, List.getElem?_cons_zero, List.getElem?_cons_succ, Option.some.injEq] at ea78
  have ea79 := (hfa 79 (by decide)).symm.trans (ho 79 (by decide) (by kernel_rfl))
  simp only [List.getElem?_toArray, List.getElem?_cons_zero, List.getElem?_cons_succ, Option.some.injEq] at ea79
  have ea80 := (hfa 80 (by decide)).symm.trans (ho 80 (by decide) (by kernel_rfl))
  simp only [List.getElem?_toArray, List.getElem?_cons_zero, List.getElem?_cons_succ, Option.some.injEq] at ea80
  have ea81 := (hfa 81 (by decide)).symm.trans (ho 81 (by decide) (by kernel_rfl))
  simp only [List.getElem?_toArray, List.getElem?_cons_zero, List.getElem?_cons_succ, Option.some.injEq] at ea81
  have ea82 := (hfa 82 (by decide)).symm.trans (ho 82 (by decide) (by kernel_rfl))
  simp only [List.getElem?_toArray, List.getElem?_cons_zero, List.getElem?_cons_succ, Option.some.injEq] at ea82
  have ea83 := (hfa 83 (by decide)).symm.trans (ho 83 (by decide) (by kernel_rfl))
  simp only [List.getElem?_toArray, List.getElem?_cons_zero, List.getElem?_cons_succ, Option.some.injEq] at ea83
  have ea84 := (hfa 84 (by decide)).symm.trans (ho 84 (by decide) (by kernel_rfl))
  simp only [List.getElem?_toArray, List.getElem?_cons_zero, List.getElem?_cons_succ, Option.some.injEq] at ea84
  have ea85 := (hfa 85 (by decide)).symm.trans (ho 85 (by decide) (by kernel_rfl))
  simp only [List.getElem?_toArray, List.getElem?_cons_zero, List.getElem?_cons_succ, Option.some.injEq] at ea85
  have ea86 := (hfa 86 (by decide)).symm.trans (ho 86 (by decide) (by kernel_rfl))
  simp only [List.getElem?_toArray, List.getElem?_cons_zero, List.getElem?_cons_succ, Option.some.injEq] at ea86
  have ea87 := (hfa 87 (by decide)).symm.trans (ho 87 (by decide) (by kernel_rfl))
  simp only [List.getElem?_toArray, List.getElem?_cons_zero, List.getElem?_cons_succ, Option.some.injEq] at ea87
  have ea88 := (hfa 88 (by decide)).symm.trans (ho 88 (by decide) (by kernel_rfl))
  simp only [List.getElem?_toArray, List.getElem?_cons_zero, List.getElem?_cons_succ, Option.some.injEq] at ea88
  have ea89 := (hfa 89 (by decide)).symm.trans (ho 89 (by decide) (by kernel_rfl))
  simp only [List.getElem?_toArray, List.getElem?_cons_zero, List.getElem?_cons_succ, Option.some.injEq] at ea89
  have ea90 := (hfa 90 (by decide)).symm.trans (ho 90 (by decide) (by kernel_rfl))
  simp only [List.getElem?_toArray, List.getElem?_cons_zero, List.getElem?_cons_succ, Option.some.injEq] at ea90
  have ea91 := (hfa 91 (by decide)).symm.trans (ho 91 (by decide) (by kernel_rfl))
  simp only [List.getElem?_toArray, List.getElem?_cons_zero, List.getElem?_cons_succ, Option.some.injEq] at ea91
  have ea92 := (hfa 92 (by decide)).symm.trans (ho 92 (by decide) (by kernel_rfl))
  simp only [List.getElem?_toArray, List.getElem?_cons_zero, List.getElem?_cons_succ, Option.some.injEq] at ea92
  have ea93 := (hfa 93 (by decide)).symm.trans (ho 93 (by decide) (by kernel_rfl))
  simp only [List.getElem?_toArray, List.getElem?_cons_zero, List.getElem?_cons_succ, Option.some.injEq] at ea93
  have ea94 := (hfa 94 (by decide)).symm.trans (ho 94 (by decide) (by kernel_rfl))
  simp only [List.getElem?_toArray, List.getElem?_cons_zero, List.getElem?_cons_succ, Option.some.injEq] at ea94
  have ea95 := (hfa 95 (by decide)).symm.trans (ho 95 (by decide) (by kernel_rfl))
  simp only [List.getElem?_toArray, List.getElem?_cons_zero, List.getElem?_cons_succ, Option.some.injEq] at ea95
  have ea96 := (hfa 96 (by decide)).symm.trans (ho 96 (by decide) (by kernel_rfl))
  simp only [List.getElem?_toArray, List.getElem?_cons_zero, List.getElem?_cons_succ, Option.some.injEq] at ea96
  have ea97 := (hfa 97 (by decide)).symm.trans (ho 97 (by decide) (by kernel_rfl))
  simp only [List.getElem?_toArray, List.getElem?_cons_zero, List.getElem?_cons_succ, Option.some.injEq] at ea97
  have ea98 := (hfa 98 (by decide)).symm.trans (ho 98 (by decide) (by kernel_rfl))
  simp only [List.getElem?_toArray, List.getElem?_cons_zero, List.getElem?_cons_succ, Option.some.injEq] at ea98
  have ea99 := (hfa 99 (by decide)).symm.trans (ho 99 (by decide) (by kernel_rfl))
  simp only [List.getElem?_toArray, List.getElem?_cons_zero, List.getElem?_cons_succ, Option.some.injEq] at ea99
  have ea100 := (hfa 100 (by decide)).symm.trans (ho 100 (by decide) (by kernel_rfl))
  simp only [List.getElem?_toArray, List.getElem?_cons_zero, List.getElem?_cons_succ, Option.some.injEq] at ea100
  have ea101 := (hfa 101 (by decide)).symm.trans (ho 101 (by decide) (by kernel_rfl))
  simp only [List.getElem?_toArray, List.getElem?_cons_zero, List.getElem?_cons_succ, Option.some.injEq] at ea101
  have ea8 : fa 8 = .slice A8 dl.length c8 := Option.some.inj ((hfa 8 (by decide)).symm.trans (h8))
  have ea9 : fa 9 = .int .i64 0 := Option.some.inj ((hfa 9 (by decide)).symm.trans (h9))
  have ha2 : a = ⟨#[fa 0, fa 1, fa 2, fa 3, fa 4, fa 5, fa 6, fa 7, fa 8, fa 9, fa 10, fa 11, fa 12, fa 13, fa 14, fa 15, fa 16, fa 17, fa 18, fa 19, fa 20, fa 21, fa 22, fa 23, fa 24, fa 25, fa 26, fa 27, fa 28, fa 29, fa 30, fa 31, fa 32, fa 33, fa 34, fa 35, fa 36, fa 37, fa 38, fa 39, fa 40, fa 41, fa 42, fa 43, fa 44, fa 45, fa 46, fa 47, fa 48, fa 49, fa 50, fa 51, fa 52, fa 53, fa 54, fa 55, fa 56, fa 57, fa 58, fa 59, fa 60, fa 61, fa 62, fa 63, fa 64, fa 65, fa 66, fa 67, fa 68, fa 69, fa 70, fa 71, fa 72, fa 73, fa 74, fa 75, fa 76, fa 77, fa 78, fa 79, fa 80, fa 81, fa 82, fa 83, fa 84, fa 85, fa 86, fa 87, fa 88, fa 89, fa 90, fa 91, fa 92, fa 93, fa 94, fa 95, fa 96, fa 97, fa 98, fa 99, fa 100, fa 101], []⟩ := ha.trans (by kernel_rfl)
  rw [ea0, ea1, ea2, ea3, ea4, ea5, ea6, ea7, ea8, ea9, ea10, ea11, ea12, ea13, ea14, ea15, ea16, ea17, ea18, ea19, ea27, ea28, ea29, ea30, ea31, ea32, ea33, ea34, ea35, ea36, ea37, ea38, ea39, ea40, ea41, ea42, ea43, ea44, ea45, ea46, ea47, ea48, ea49, ea50, ea51, ea52, ea53, ea54, ea55, ea56, ea57, ea58, ea59, ea60, ea61, ea62, ea63, ea64, ea65, ea66, ea67, ea68, ea69, ea70, ea71, ea72, ea73, ea74, ea75, ea76, ea77, ea78, ea79, ea80, ea81, ea82, ea83, ea84, ea85, ea86, ea87, ea88, ea89, ea90, ea91, ea92, ea93, ea94, ea95, ea96, ea97, ea98, ea99, ea100, ea101] at ha2
  clear ha hfa ho ea0 ea1 ea2 ea3 ea4 ea5 ea6 ea7 ea8 ea9 ea10 ea11 ea12 ea13 ea14 ea15 ea16 ea17 ea18 ea19 ea27 ea28 ea29 ea30 ea31 ea32 ea33 ea34 ea35 ea36 ea37 ea38 ea39 ea40 ea41 ea42 ea43 ea44 ea45 ea46 ea47 ea48 ea49 ea50 ea51 ea52 ea53 ea54 ea55 ea56 ea57 ea58 ea59 ea60 ea61 ea62 ea63 ea64 ea65 ea66 ea67 ea68 ea69 ea70 ea71 ea72 ea73 ea74 ea75 ea76 ea77 ea78 ea79 ea80 ea81 ea82 ea83 ea84 ea85 ea86 ea87 ea88 ea89 ea90 ea91 ea92 ea93 ea94 ea95 ea96 ea97 ea98 ea99 ea100 ea101
  subst ha2
  clear hf hr h8 h9 hs hd hi8 hK hal hs0 hb HM2 HT2 HG2 HB2
  by_cases h0 : dl.length = 0
  · have hq : ((dl.length : Int) == 0) = true := by rw [h0]; rfl
    go_wp2_with (go_at_call 21; refine (awake20 _ HG7.out).mono ?_; rintro e w4 ⟨rfl, b4⟩)
    go_ret
    exact ⟨rfl, below_next HB7.out b4⟩
  · have hq : ((dl.length : Int) == 0) = false := by simpa using (by omega : ¬ (dl.length : Int) = 0)
    obtain ⟨p0, p1⟩ := pick_in n (n := (dl.length : Int)) (by omega)
    obtain ⟨k, hk⟩ := Int.eq_ofNat_of_zero_le p0
    have HP := Lib.hid (fun W => pick_any n (dl.length : Int) W (by omega) (by omega))
    rw [hk] at HP p1
    have hk1 : k < dl.length := by omega
    clear p0 hk p1 h0
    obtain ⟨c, hc, _⟩ := get_of hk1
    obtain ⟨ad, rfl, ha, hce⟩ : ∃ ad, A8 = some ad ∧ ad.block < w7.heap.size ∧ w7.cell? (ad.add k) = some (.int .i64 c) := by
      obtain ⟨_, _, hve, _, _, _, hcell⟩ := HD7.out
      cases hve
      obtain ⟨ad, e, ha, hc⟩ := hcell k c hc
      exact ⟨ad, e, ha, hc⟩
    have HPP := Lib.hid (fun h0 hp hz => proto_put hck HAL.out HS0.out (by omega) hc h0 hp hz)
    have hpl := proto_flen hck c
    have HR0 := Lib.hid (skelR_nfd hck HS0.out (by omega : l0.length ≤ 12))
    rw [HAL.out] at HR0
    clear hc
    go_upto_region 6 with (go_at_call 22; refine (HP.out _).mono ?_; rintro e w4 ⟨rfl, rfl⟩)
    rename_i K hK
    refine wp_region_as (ops := (opsAt Tryz.f4 6)) (by kernel_rfl) ?_
    refine r20_region2 (b := tb) (t := t) (T := T) (ad := ad) (ca := c8) (as_ := dl) (kx := k) (c := c) ⟨HT7.out, ha, hce, hk1⟩ ⟨rfl, rfl, by intro p hp; simp [r20Fixed] at hp; rcases hp with rfl | rfl | rfl <;> rfl⟩ ?_
    intro a w8 hb hf ho hr
    obtain ⟨v10, h10, ds, hi10, hz10⟩ := end_k hr 6 11 (.lst (· = findL T.prototypes c)) (by kernel_rfl) rfl (by kernel_rfl)
    obtain rfl : _ = ds := Eq.symm hz10
    obtain ⟨pl, hpl2⟩ : ∃ pl, findL T.prototypes c = pl := ⟨_, rfl⟩
    rw [hpl2] at hi10 HPP hpl
    obtain ⟨A6, c6, rfl, _⟩ := id hi10
    have HD8 := Lib.hid (HD7.out.later hb)
    have HP8 := Lib.hid hi10
    have HT8 := Lib.hid (HT7.out.later hb)
    have HG8 := Lib.hid (HG7.out.later hb)
    have HB8 := Lib.hid (below_next HB7.out hb)
    have e1 := cell_regrown ((hb.cell (p := ad.add k) (by rw [block_of_add]; exact ha)).trans hce)
    have hs := hf.1
    have hd := hf.2.1
    refine hK a w8 ?_
    obtain ⟨fa, hfa, ha⟩ := act_fun hs hd
    have ea0 := (hfa 0 (by decide)).symm.trans (ho 0 (by decide) (by kernel_rfl))
    simp only [List.getElem?_toArray, List.getElem?_cons_zero, Option.some.injEq] at ea0
    have ea1 := (hfa 1 (by decide)).symm.trans (ho 1 (by decide) (by kernel_rfl))
    simp only [List.getElem?_toArray, List.getElem?_cons_zero, List.getElem?_cons_succ, Option.some.injEq] at ea1
    have ea2 := (hfa 2 (by decide)).symm.trans (ho 2 (by decide) (by kernel_rfl))
    simp only [List.getElem?_toArray, List.getElem?_cons_zero, List.getElem?_cons_succ, Option.some.injEq] at ea2
    have ea3 := (hfa 3 (by decide)).symm.trans (ho 3 (by decide) (by kernel_rfl))
    simp only [List.getElem?_toArray, List.getElem?_cons_zero, List.getElem?_cons_succ, Option.some.injEq] at ea3
    have ea4 := (hfa 4 (by decide)).symm.trans (ho 4 (by decide) (by kernel_rfl))
    simp only [List.getElem?_toArray, List.getElem?_cons_zero, List.getElem?_cons_succ, Option.some.injEq] at ea4
    have ea5 := (hfa 5 (by decide)).symm.trans (ho 5 (by decide) (by kernel_rfl))
    simp only [List.getElem?_toArray, List.getElem?_cons_zero, List.getElem?_cons_succ, Option.some.injEq] at ea5
    have ea6 := (hfa 6 (by decide)).symm.trans (ho 6 (by decide) (by kernel_rfl))
    simp only [List.getElem?_toArray, List.getElem?_cons_zero, List.getElem?_cons_succ, Option.some.injEq] at ea6
    have ea7 := (hfa 7 (by decide)).symm.trans (ho 7 (by decide) (by kernel_rfl))
    simp only [List.getElem?_toArray, List.getElem?_cons_zero, List.getElem?_cons_succ, Option.some.injEq] at ea7
    have ea8 := (hfa 8 (by decide)).symm.trans (ho 8 (by decide) (by kernel_rfl))
    simp only [List.getElem?_toArray, List.getElem?_cons_zero, List.getElem?_cons_succ, Option.some.injEq] at ea8
    have ea9 := (hfa 9 (by decide)).symm.trans (ho 9 (by decide) (by kernel_rfl))
    simp only [List.getElem?_toArray, List.getElem?_cons_zero, List.getElem?_cons_succ, Option.some.injEq] at ea9
    have ea10 := (hfa 10 (by decide)).symm.trans (ho 10 (by decide) (by kernel_rfl))
    simp only [List.getElem?_toArray, List.getElem?_cons_zero, List.getElem?_cons_succ, Option.some.injEq] at ea10
    have ea12 := (hfa 12 (by decide)).symm.trans (ho 12 (by decide) (by kernel_rfl))
    simp only [List.getElem?_toArray, List.getElem?_cons_zero, List.getElem?_cons_succ, Option.some.injEq] at ea12
    have ea13 := (hfa 13 (by decide)).symm.trans (ho 13 (by decide) (by kernel_rfl))
    simp only [List.getElem?_toArray, List.getElem?_cons_zero, List.getElem?_cons_succ, Option.some.injEq] at ea13
    have ea14 := (hfa 14 (by decide)).symm.trans (ho 14 (by decide) (by kernel_rfl))
    simp only [List.getElem?_toArray, List.getElem?_cons_zero, List.getElem?_cons_succ, Option.some.injEq] at ea14
    have ea15 := (hfa 15 (by decide)).symm.trans (ho 15 (by decide) (by kernel_rfl))
    simp only [List.getElem?_toArray, List.getElem?_cons_zero, List.getElem?_cons_succ, Option.some.injEq] at ea15
    have ea16 := (hfa 16 (by decide)).symm.trans (ho 16 (by decide) (by kernel_rfl))
    simp only [List.getElem?_toArray, List.getElem?_cons_zero, List.getElem?_cons_succ, Option.some.injEq] at ea16
    have ea17 := (hfa 17 (by decide)).symm.trans (ho 17 (by decide) (by kernel_rfl))
    simp only [List.getElem?_toArray, List.getElem?_cons_zero, List.getElem?_cons_succ, Option.some.injEq] at ea17
    have ea18 := (hfa 18 (by decide)).symm.trans (ho 18 (by decide) (by kernel_rfl))
    simp only [List.getElem?_toArray, List.getElem?_cons_zero, List.getElem?_cons_succ, Option.some.injEq] at ea18
    have ea19 := (hfa 19 (by decide)).symm.trans (ho 19 (by decide) (by kernel_rfl))
    simp only [List.getElem?_toArray, List.getElem?_cons_zero, List.getElem?_cons_succ, Option.some.injEq] at ea19
    have ea20 := (hfa 20 (by decide)).symm.trans (ho 20 (by decide) (by kernel_rfl))
    simp only [List.getElem?_toArray, List.getElem?_cons_zero, List.getElem?_cons_succ, Option.some.injEq] at ea20
    have ea21 := (hfa 21 (by decide)).symm.trans (ho 21 (by decide) (by kernel_rfl))
    simp only [List.getElem?_toArray, List.getElem?_cons_zero, List.getElem?_cons_succ, Option.some.injEq] at ea21
    have ea22 := (hfa 22 (by decide)).symm.trans (ho 22 (by decide) (by kernel_rfl))
    simp only [List.getElem?_toArray, List.getElem?_cons_zero, List.getElem?_cons_succ, Option.some.injEq] at ea22
    have ea23 := (hfa 23 (by decide)).symm.trans (ho 23 (by decide) (by kernel_rfl))
    simp only [List.getElem?_toArray, List.getElem?_cons_zero, List.getElem?_cons_succ, Option.some.injEq] at ea23
    have ea24 := (hfa 24 (by decide)).symm.trans (ho 24 (by decide) (by kernel_rfl))
    simp only [List.getElem?_toArray, List.getElem?_cons_zero, List.getElem?_cons_succ, Option.some.injEq] at ea24
    have ea25 := (hfa 25 (by decide)).symm.trans (ho 25 (by decide) (by kernel_rfl))
    simp only [List.getElem?_toArray, List.getElem?_cons_zero, List.getElem?_cons_succ, Option.some.injEq] at ea25
    have ea26 := (hfa 26 (by decide)).symm.trans (ho 26 (by decide) (by kernel_rfl))
    simp only [List.getElem?_toArray, List.getElem?_cons_zero, List.getElem?_cons_succ, Option.some.injEq] at ea26
    have ea27 := (hfa 27 (by decide)).symm.trans (ho 27 (by decide) (by kernel_rfl))
    simp only [List.getElem?_toArray, List.getElem?_cons_zero, List.getElem?_cons_succ, Option.some.injEq] at ea27
    have ea28 := (hfa 28 (by decide)).symm.trans (ho 28 (by decide) (by kernel_rfl))
    simp only [List.getElem?_toArray, List.getElem?_cons_zero, List.getElem?_cons_succ, Option.some.injEq] at ea28
    have ea29 := (hfa 29 (by decide)).symm.trans (ho 29 (by decide) (by kernel_rfl))
    simp only [List.getElem?_toArray, List.getElem?_cons_zero, List.getElem?_cons_succ, Option.some.injEq] at ea29
    have ea30 := (hfa 30 (by decide)).symm.trans (ho 30 (by decide) (by kernel_rfl))
    simp only [List.getElem?_toArray, List.getElem?_cons_zero, List.getElem?_cons_succ, Option.some.injEq] at ea30
    have ea31 := (hfa 31 (by decide)).symm.trans (ho 31 (by decide) (by kernel_rfl))
    simp only [List.getElem?_toArray, List.getElem?_cons_zero, List.getElem?_cons_succ, Option.some.injEq] at ea31
    have ea32 := (hfa 32 (by decide)).symm.trans (ho 32 (by decide) (by kernel_rfl))
    simp only [List.getElem?_toArray, List.getElem?_cons_zero, List.getElem?_cons_succ, Option.some.injEq] at ea32
    have ea33 := (hfa 33 (by decide)).symm.trans (ho 33 (by decide) (by kernel_rfl))
    simp only [List.getElem?_toArray, List.getElem?_cons_zero, List.getElem?_cons_succ, Option.some.injEq] at ea33
    have ea34 := (hfa 34 (by decide)).symm.trans (ho 34 (by decide) (by kernel_rfl))
    simp only [List.getElem?_toArray, List.getElem?_cons_zero, List.getElem?_cons_succ, Option.some.injEq] at ea34
    have ea41 := (hfa 41 (by decide)).symm.trans (ho 41 (by decide) (by kernel_rfl))
    simp only [List.getElem?_toArray, List.getElem?_cons_zero, List.getElem?_cons_succ, Option.some.injEq] at ea41
    have ea42 := (hfa 42 (by decide)).symm.trans (ho 42 (by decide) (by kernel_rfl))
    simp only [List.getElem?_toArray, List.getElem?_cons_zero, List.getElem?_cons_succ, Option.some.injEq] at ea42
    have ea43 := (hfa 43 (by decide)).symm.trans (ho 43 (by decide) (by kernel_rfl))
    simp only [List.getElem?_toArray, List.getElem?_cons_zero, List.getElem?_cons_succ, Option.some.injEq] at ea43
    have ea44 := (hfa 44 (by decide)).symm.trans (ho 44 (by decide) (by kernel_rfl))
    simp only [List.getElem?_toArray, List.getElem?_cons_zero, List.getElem?_cons_succ, Option.some.injEq] at ea44
    have ea45 := (hfa 45 (by decide)).symm.trans (ho 45 (by decide) (by kernel_rfl))
    simp only [List.getElem?_toArray, List.getElem?_cons_zero, List.getElem?_cons_succ, Option.some.injEq] at ea45
    have ea46 := (hfa 46 (by decide)).symm.trans (ho 46 (by decide) (by kernel_rfl))
    simp only [List.getElem?_toArray, List.getElem?_cons_zero, List.getElem?_cons_succ, Option.some.injEq] at ea46
    have ea47 := (hfa 47 (by decide)).symm.trans (ho 47 (by decide) (by kernel_rfl))
    simp only [List.getElem?_toArray, List.getElem?_cons_zero, List.getElem?_cons_succ, Option.some.injEq] at ea47
    have ea48 := (hfa 48 (by decide)).symm.trans (ho 48 (by decide) (by kernel_rfl))
    simp only [List.getElem?_toArray, List.getElem?_cons_zero, List.getElem?_cons_succ, Option.some.injEq] at ea48
    have ea49 := (hfa 49 (by decide)).symm.trans (ho 49 (by decide) (by kernel_rfl))
    simp only [List.getElem?_toArray, List.getElem?_cons_zero, List.getElem?_cons_succ, Option.some.injEq] at ea49
    have ea50 := (hfa 50 (by decide)).symm.trans (ho 50 (by decide) (by kernel_rfl))
    simp only [List.getElem?_toArray, List.getElem?_cons_zero, List.getElem?_cons_succ, Option.some.injEq] at ea50
    have ea51 := (hfa 51 (by decide)).symm.trans (ho 51 (by decide) (by kernel_rfl))
    simp only [List.getElem?_toArray, List.getElem?_cons_zero, List.getElem?_cons_succ, Option.some.injEq] at ea51
    have ea52 := (hfa 52 (by decide)).symm.trans (ho 52 (by decide) (by kernel_rfl))
    simp only [List.getElem?_toArray, List.getElem?_cons_zero, List.getElem?_cons_succ, Option.some.injEq] at ea52
    have ea53 := (hfa 53 (by decide)).symm.trans (ho 53 (by decide) (by kernel_rfl))
    simp only [List.getElem?_toArray, List.getElem?_cons_zero, List.getElem?_cons_succ, Option.some.injEq] at ea53
    have ea54 := (hfa 54 (by decide)).symm.trans (ho 54 (by decide) (by kernel_rfl))
    simp only [List.getElem?_toArray, List.getElem?_cons_zero, List.getElem?_cons_succ, Option.some.injEq] at ea54
    have ea55 := (hfa 55 (by decide)).symm.trans (ho 55 (by decide) (by kernel_rfl))
    simp only [List.getElem?_toArray, List.getElem?_cons_zero, List.getElem?_cons_succ, Option.some.injEq] at ea55
    have ea56 := (hfa 56 (by decide)).symm.trans (ho 56 (by decide) (by kernel_rfl))
    simp only [List.getElem?_toArray, List.getElem?_cons_zero, List.getElem?_cons_succ, Option.some.injEq] at ea56
    have ea57 := (hfa 57 (by decide)).symm.trans (ho 57 (by decide) (by kernel_rfl))
    simp only [List.getElem?_toArray, List.getElem?_cons_zero, List.getElem?_cons_succ, Option.some.injEq] at ea57
    have ea58 := (hfa 58 (by decide)).symm.trans (ho 58 (by decide) (by kernel_rfl))
    simp only [List.getElem?_toArray, List.getElem?_cons_zero, List.getElem?_cons_succ, Option.some.injEq] at ea58
    have ea59 := (hfa 59 (by decide)).symm.trans (ho 59 (by decide) (by kernel_rfl))
    simp only [List.getElem?_toArray, List.getElem?_cons_zero, List.getElem?_cons_succ, Option.some.injEq] at ea59
    have ea60 := (hfa 60 (by decide)).symm.trans (ho 60 (by decide) (by kernel_rfl))
    simp only [List.getElem?_toArray, List.getElem?_cons_zero, List.getElem?_cons_succ, Option.some.injEq] at ea60
    have ea61 := (hfa 61 (by decide)).symm.trans (ho 61 (by decide) (by kernel_rfl))
    simp only [List.getElem?_toArray, List.getElem?_cons_zero, List.getElem?_cons_succ, Option.some.injEq] at ea61
    have ea62 := (hfa 62 (by decide)).symm.trans (ho 62 (by decide) (by kernel_rfl))
    simp only [List.getElem?_toArray, List.getElem?_cons_zero, List.getElem?_cons_succ, Option.some.injEq] at ea62
    have ea63 := (hfa 63 (by decide)).symm.trans (ho 63 (by decide) (by kernel_rfl))
    simp only [List.getElem?_toArray, List.getElem?_cons_zero, List.getElem?_cons_succ, Option.some.injEq] at ea63
    have ea64 := (hfa 64 (by decide)).symm.trans (ho 64 (by decide) (by kernel_rfl))
    simp only [List.getElem?_toArray, List.getElem?_cons_zero, List.getElem?_cons_succ, Option.some.injEq] at ea64
    have ea65 := (hfa 65 (by decide)).symm.trans (ho 65 (by decide) (by kernel_rfl))
    simp only [List.getElem?_toArray, List.getElem?_cons_zero, List.getElem?_cons_succ, Option.some.injEq] at ea65
    have ea66 := (hfa 66 (by decide)).symm.trans (ho 66 (by decide) (by kernel_rfl))
    simp only [List.getElem?_toArray, List.getElem?_cons_zero, List.getElem?_cons_succ, Option.some.injEq] at ea66
    have ea67 := (hfa 67 (by decide)).symm.trans (ho 67 (by decide) (by kernel_rfl))
    simp only [List.getElem?_toArray, List.getElem?_cons_zero, List.getElem?_cons_succ, Option.some.injEq] at ea67
    have ea68 := (hfa 68 (by decide)).symm.trans (ho 68 (by decide) (by kernel_rfl))
    simp only [List.getElem?_toArray, List.getElem?_cons_zero, List.getElem?_cons_succ, Option.some.injEq] at ea68
    have ea69 := (hfa 69 (by decide)).symm.trans (ho 69 (by decide) (by kernel_rfl))
    simp only [List.getElem?_toArray, List.getElem?_cons_zero, List.getElem?_cons_succ, Option.some.injEq] at ea69
    have ea70 := (hfa 70 (by decide)).symm.trans (ho 70 (by decide) (by kernel_rfl))
    simp only [List.getElem?_toArray, List.getElem?_cons_zero, List.getElem?_cons_succ, Option.some.injEq] at ea70
    have ea71 := (hfa 71 (by decide)).symm.trans (ho 71 (by decide) (by kernel_rfl))
    simp only [List.getElem?_toArray, List.getElem?_cons_zero, List.getElem?_cons_succ, Option.some.injEq] at ea71
    have ea72 := (hfa 72 (by decide)).symm.trans (ho 72 (by decide) (by kernel_rfl))
    simp only [List.getElem?_toArray, List.getElem?_cons_zero, List.getElem?_cons_succ, Option.some.injEq] at ea72
    have ea73 := (hfa 73 (by decide)).symm.trans (ho 73 (by decide) (by kernel_rfl))
    simp only [List.getElem?_toArray, List.getElem?_cons_zero, List.getElem?_cons_succ, Option.some.injEq] at ea73
    have ea74 := (hfa 74 (by decide)).symm.trans (ho 74 (by decide) (by kernel_rfl))
    simp only [List.getElem?_toArray, List.getElem?_cons_zero, List.getElem?_cons_succ, Option.some.injEq] at ea74
    have ea75 := (hfa 75 (by decide)).symm.trans (ho 75 (by decide) (by kernel_rfl))
    simp only [List.getElem?_toArray, List.getElem?_cons_zero, List.getElem?_cons_succ, Option.some.injEq] at ea75
    have ea76 := (hfa 76 (by decide)).symm.trans (ho 76 (by decide) (by kernel_rfl))
    simp only [List.getElem?_toArray, List.getElem?_cons_zero, List.getElem?_cons_succ, Option.some.injEq] at ea76
    have ea77 := (hfa 77 (by decide)).symm.trans (ho 77 (by decide) (by kernel_rfl))
    simp only [List.getElem?_toArray, List.getElem?_cons_zero, List.getElem?_cons_succ, Option.some.injEq] at ea77
    have ea78 := (hfa 78 (by decide)).symm.trans (ho 78 (by decide) (by kernel_rfl))
    simp only [List.getElem?_toArray, List.getElem?_cons_zero, List.getElem?_cons_succ, Option.some.injEq] at ea78
    have ea79 := (hfa 79 (by decide)).symm.trans (ho 79 (by decide) (by kernel_rfl))
    simp only [List.getElem?_toArray, List.getElem?_cons_zero, List.getElem?_cons_succ, Option.some.injEq] at ea79
    have ea80 := (hfa 80 (by decide)).symm.trans (ho 80 (by decide) (by kernel_rfl))
    simp only [List.getElem?_toArray, List.getElem?_cons_zero, List.getElem?_cons_succ, Option.some.injEq] at ea80
    have ea81 := (hfa 81 (by decide)).symm.trans (ho 81 (by decide) (by kernel_rfl))
    simp only [List.getElem?_toArray, List.getElem?_cons_zero, List.getElem?_cons_succ, Option.some.injEq] at ea81
    have ea82 := (hfa 82 (by decide)).symm.trans (ho 82 (by decide) (by kernel_rfl))
    simp only [List.getElem?_toArray, List.getElem?_cons_zero, List.getElem?_cons_succ, Option.some.injEq] at ea82
    have ea83 := (hfa 83 (by decide)).symm.trans (ho 83 (by decide) (by kernel_rfl))
    simp only [List.getElem?_toArray, List.getElem?_cons_zero, List.getElem?_cons_succ, Option.some.injEq] at ea83
    have ea84 := (hfa 84 (by decide)).symm.trans (ho 84 (by decide) (by kernel_rfl))
    simp only [List.getElem?_toArray, List.getElem?_cons_zero, List.getElem?_cons_succ, Option.some.injEq] at ea84
    have ea85 := (hfa 85 (by decide)).symm.trans (ho 85 (by decide) (by kernel_rfl))
    simp only [List.getElem?_toArray, List.getElem?_cons_zero, List.getElem?_cons_succ, Option.some.injEq] at ea85
    have ea86 := (hfa 86 (by decide)).symm.trans (ho 86 (by decide) (by kernel_rfl))
    simp only [List.getElem?_toArray, List.getElem?_cons_zero, List.getElem?_cons_succ, Option.some.injEq] at ea86
    have ea87 := (hfa 87 (by decide)).symm.trans (ho 87 (by decide) (by kernel_rfl))
    simp only [List.getElem?_toArray, List.getElem?_cons_zero, List.getElem?_cons_succ, Option.some.injEq] at ea87
    have ea88 := (hfa 88 (by decide)).symm.trans (ho 88 (by decide) (by kernel_rfl))
    simp only [List.getElem?_toArray, List.getElem?_cons_zero, List.getElem?_cons_succ, Option.some.injEq] at ea88
    have ea89 := (hfa 89 (by decide)).symm.trans (ho 89 (by decide) (by kernel_rfl))
    simp only [List.getElem?_toArray, List.getElem?_cons_zero, List.getElem?_cons_succ, Option.some.injEq] at ea89
    have ea90 := (hfa 90 (by decide)).symm.trans (ho 90 (by decide) (by kernel_rfl))
    simp only [List.getElem?_toArray, List.getElem?_cons_zero, List.getElem?_cons_succ, Option.some.injEq] at ea90
    have ea91 := (hfa 91 (by decide)).symm.trans (ho 91 (by decide) (by kernel_rfl))
    simp only [List.getElem?_toArray, List.getElem?_cons_zero, List.getElem?_cons_succ, Option.some.injEq] at ea91
    have ea92 := (hfa 92 (by decide)).symm.trans (ho 92 (by decide) (by kernel_rfl))
    simp only [List.getElem?_toArray, List.getElem?_cons_zero, List.getElem?_cons_succ, Option.some.injEq] at ea92
    have ea93 := (hfa 93 (by decide)).symm.trans (ho 93 (by decide) (by kernel_rfl))
    simp only [List.getElem?_toArray, List.getElem?_cons_zero, List.getElem?_cons_succ, Option.some.injEq] at ea93
    have ea94 := (hfa 94 (by decide)).symm.trans (ho 94 (by decide) (by kernel_rfl))
    simp only [List.getElem?_toArray, List.getElem?_cons_zero, List.getElem?_cons_succ, Option.some.injEq] at ea94
    have ea95 := (hfa 95 (by decide)).symm.trans (ho 95 (by decide) (by kernel_rfl))
    simp only [List.getElem?_toArray, List.getElem?_cons_zero, List.getElem?_cons_succ, Option.some.injEq] at ea95
    have ea96 := (hfa 96 (by decide)).symm.trans (ho 96 (by decide) (by kernel_rfl))
    simp only [List.getElem?_toArray, List.getElem?_cons_zero, List.getElem?_cons_succ, Option.some.injEq] at ea96
    have ea97 := (hfa 97 (by decide)).symm.trans (ho 97 (by decide) (by kernel_rfl))
    simp only [List.getElem?_toArray, List.getElem?_cons_zero, List.getElem?_cons_succ, Option.some.injEq] at ea97
    have ea98 := (hfa 98 (by decide)).symm.trans (ho 98 (by decide) (by kernel_rfl))
    simp only [List.getElem?_toArray, List.getElem?_cons_zero, List.getElem?_cons_succ, Option.some.injEq] at ea98
    have ea99 := (hfa 99 (by decide)).symm.trans (ho 99 (by decide) (by kernel_rfl))
    simp only [List.getElem?_toArray, List.getElem?_cons_zero, List.getElem?_cons_succ, Option.some.injEq] at ea99
    have ea100 := (hfa 100 (by decide)).symm.trans (ho 100 (by decide) (by kernel_rfl))
    simp only [List.getElem?_toArray, List.getElem?_cons_zero, List.getElem?_cons_succ, Option.some.injEq] at ea100
    have ea101 := (hfa 101 (by decide)).symm.trans (ho 101 (by decide) (by kernel_rfl))
    simp only [List.getElem?_toArray, List.getElem?_cons_zero, List.getElem?_cons_succ, Option.some.injEq] at ea101
    have ea11 : fa 11 = .slice A6 pl.length c6 := Option.some.inj ((hfa 11 (by decide)).symm.trans (h10))
    have ha2 : a = ⟨#[fa 0, fa 1, fa 2, fa 3, fa 4, fa 5, fa 6, fa 7, fa 8, fa 9, fa 10, fa 11, fa 12, fa 13, fa 14, fa 15, fa 16, fa 17, fa 18, fa 19, fa 20, fa 21, fa 22, fa 23, fa 24, fa 25, fa 26, fa 27, fa 28, fa 29, fa 30, fa 31, fa 32, fa 33, fa 34, fa 35, fa 36, fa 37, fa 38, fa 39, fa 40, fa 41, fa 42, fa 43, fa 44, fa 45, fa 46, fa 47, fa 48, fa 49, fa 50, fa 51, fa 52, fa 53, fa 54, fa 55, fa 56, fa 57, fa 58, fa 59, fa 60, fa 61, fa 62, fa 63, fa 64, fa 65, fa 66, fa 67, fa 68, fa 69, fa 70, fa 71, fa 72, fa 73, fa 74, fa 75, fa 76, fa 77, fa 78, fa 79, fa 80, fa 81, fa 82, fa 83, fa 84, fa 85, fa 86, fa 87, fa 88, fa 89, fa 90, fa 91, fa 92, fa 93, fa 94, fa 95, fa 96, fa 97, fa 98, fa 99, fa 100, fa 101], []⟩ := ha.trans (by kernel_rfl)
    rw [ea0, ea1, ea2, ea3, ea4, ea5, ea6, ea7, ea8, ea9, ea10, ea11, ea12, ea13, ea14, ea15, ea16, ea17, ea18, ea19, ea20, ea21, ea22, ea23, ea24, ea25, ea26, ea27, ea28, ea29, ea30, ea31, ea32, ea33, ea34, ea41, ea42, ea43, ea44, ea45, ea46, ea47, ea48, ea49, ea50, ea51, ea52, ea53, ea54, ea55, ea56, ea57, ea58, ea59, ea60, ea61, ea62, ea63, ea64, ea65, ea66, ea67, ea68, ea69, ea70, ea71, ea72, ea73, ea74, ea75, ea76, ea77, ea78, ea79, ea80, ea81, ea82, ea83, ea84, ea85, ea86, ea87, ea88, ea89, ea90, ea91, ea92, ea93, ea94, ea95, ea96, ea97, ea98, ea99, ea100, ea101] at ha2
    clear ha hfa ho ea0 ea1 ea2 ea3 ea4 ea5 ea6 ea7 ea8 ea9 ea10 ea11 ea12 ea13 ea14 ea15 ea16 ea17 ea18 ea19 ea20 ea21 ea22 ea23 ea24 ea25 ea26 ea27 ea28 ea29 ea30 ea31 ea32 ea33 ea34 ea41 ea42 ea43 ea44 ea45 ea46 ea47 ea48 ea49 ea50 ea51 ea52 ea53 ea54 ea55 ea56 ea57 ea58 ea59 ea60 ea61 ea62 ea63 ea64 ea65 ea66 ea67 ea68 ea69 ea70 ea71 ea72 ea73 ea74 ea75 ea76 ea77 ea78 ea79 ea80 ea81 ea82 ea83 ea84 ea85 ea86 ea87 ea88 ea89 ea90 ea91 ea92 ea93 ea94 ea95 ea96 ea97 ea98 ea99 ea100 ea101
    subst ha2
    clear hf hr h10 hs hd hi10 hK hb HD7 HT7 HG7 HB7 hz10 ha hce HP hpl2
    have k0 : (0 : Int) ≤ (k : Int) := by omega
    have k1 : (k : Int) < (dl.length : Int) := by omega
    by_cases hp0 : pl = []
    · subst hp0
      go_upto_region 7 with fail
      dsimp only
      refine wp_region_quiet_below (by kernel_rfl) (by kernel_rfl) ?_
      repeat (go_big_quiet_step (fail))
      refine wpQuiet_nil ?_
      rintro _ ⟨⟨dq, osq⟩, rfl⟩
      have bq := below_regrown w8 dq osq
      have HG9 := Lib.hid (HG8.out.later bq)
      have HB9 := Lib.hid (below_next HB8.out bq)
      clear bq HG8 HB8 e1
      generalize Go.Sort.grow (redrawn w8 dq) osq = w9 at *
      go_wp2_with (go_at_call 21; refine (awake20 _ HG9.out).mono ?_; rintro e w10 ⟨rfl, b10⟩)
      go_ret
      exact ⟨rfl, below_next HB9.out b10⟩
    · have hp1 : ((pl.length : Int) == 0) = false := by have := List.length_pos_iff.2 hp0; rw [beq_eq_false_iff_ne]; omega
      have HCx : Hid (∀ V, Below w8.heap.size w8 V → Calls Tryz.prog 23 #[.agg #[t.c0, t.c1, t.c2, t.c3, t.c4, t.c5, t.c6, t.c7, t.c8, t.c9, t.c10, t.c11], .int .i64 c] V fun e V' => e = .returned (.int .i64 (T.classOf c)) ∧ Below V.heap.size V V') := Lib.hid fun V hV => refClass_any t T c V (HT8.out.later hV).2
      obtain ⟨x0, x1, x2, x3, x4, x5, x6, x7, x8, x9, x10, x11⟩ := HT8.out.1.tabG
      go_upto_region 7 with fail
      dsimp only
      refine wp_region_quiet_below (by kernel_rfl) (by kernel_rfl) ?_
      repeat (go_big_quiet_step (first | (go_at_call 23; with_reducible exact quiet_t HCx.out)))
      refine wpQuiet_nil ?_
      rintro _ ⟨⟨dq, osq⟩, rfl⟩
      have bq := below_regrown w8 dq osq
      have HG9 := Lib.hid (HG8.out.later bq)
      have HB9 := Lib.hid (below_next HB8.out bq)
      have HT9 := Lib.hid (HT8.out.later bq)
      have HP9 := Lib.hid (HP8.out.later bq)
      have HD9 := Lib.hid (HD8.out.later bq)
      clear bq HG8 HB8 HT8 HP8 HD8 e1 x0 x1 x2 x3 x4 x5 x6 x7 x8 x9 x10 x11 HCx
      generalize Go.Sort.grow (redrawn w8 dq) osq = w9 at *
      by_cases hc0 : T.classOf c = 0
      · have q1 : (T.classOf c != 0) = false := by rw [bne_eq_false_iff_eq]; exact hc0
        have HPQ := Lib.hid (fun hz => HPP.out hc0 hp0 hz)
        have HC0 := Lib.hid hc0
        clear hc0 HPP
        go_wp2_with fail
        go_loopw [56] (fun si wr => ∃ (jj : Nat), jj ≤ pl.length ∧ si = .int .i64 jj ∧ Hid (∀ x ∈ pl.take jj, T.classOf x = 0) ∧ Hid (Below w9.heap.size w9 wr)) (fun si _ => pl.length - (intOf si).toNat)
        case atStart => exact ⟨0, by omega, rfl, Lib.hid (by simp), Lib.hid (Below.refl _ _)⟩
        case round =>
          obtain ⟨jj, hj, rfl, HZ, HBr⟩ := hrel
          have HTr := Lib.hid (HT9.out.later HBr.out)
          by_cases hlt : jj < pl.length
          · obtain ⟨x, hxj, _⟩ := get_of hlt
            obtain ⟨_, _, hve, _, _, _, hcell⟩ := HP9.out
            cases hve
            obtain ⟨ap, rfl, ha, hce⟩ := hcell jj x hxj
            have e1 := (HBr.out.cell (p := ap.add jj) (by rw [block_of_add]; exact ha)).trans hce
            have j0 : (0 : Int) ≤ (jj : Int) := by omega
            have j1 : (jj : Int) < (pl.length : Int) := by omega
            have HXJ := Lib.hid hxj
            have HCy := Lib.hid (refClass_any t T x wr HTr.out.2)
            clear hcell hxj ha hce
            obtain ⟨x0, x1, x2, x3, x4, x5, x6, x7, x8, x9, x10, x11⟩ := HTr.out.1.tab
            by_cases hx0 : T.classOf x = 0
            · have q2 : (T.classOf x != 0) = false := by rw [bne_eq_false_iff_eq]; exact hx0
              have HZ2 : Hid (∀ y ∈ pl.take (jj + 1), T.classOf y = 0) := Lib.hid (fun y hy => by
                obtain ⟨h1, h2⟩ := List.getElem?_eq_some_iff.1 HXJ.out
                rw [List.take_succ_eq_append_getElem h1, h2, List.mem_append, List.mem_singleton] at hy
                rcases hy with hy | rfl
                · exact HZ.out y hy
                · exact hx0)
              clear hx0
              go_wp2_with (go_at_call 23; refine HCy.out.mono ?_; rintro e w10 ⟨rfl, b10⟩)
              go_roundw
              case rel =>
                refine ⟨u6, .int .i64 x, .int .i64 ((jj : Int) + 1), .bool true, .pointer (some (ap.add jj)), .int .i64 x, t.val, .int .i64 x, .int .i64 (T.classOf x), .bool false, u64, .int .i64 ((jj : Int) + 1), ⟨jj + 1, by omega, by go_num, HZ2, Lib.hid (below_then HBr.out (Nat.le_refl _) b10)⟩, ?_⟩
                congr 1
                simp
                exact HC0.out
              case measure => simp [intOf]; omega
            · have q2 : (T.classOf x != 0) = true := by simpa using hx0
              clear hx0
              go_wp2_with (first
                | (go_at_call 23; refine HCy.out.mono ?_; rintro e w10 ⟨rfl, b10⟩; have B10 := Lib.hid (below_then HBr.out (Nat.le_refl _) b10))
                | (go_at_call 21; refine (awake20 _ (HG9.out.later B10.out)).mono ?_; rintro e w11 ⟨rfl, b11⟩))
              go_ret
              exact ⟨rfl, below_next HB9.out (below_then B10.out (Nat.le_refl _) b11)⟩
          · have HZA : Hid (∀ x ∈ pl, T.classOf x = 0) := Lib.hid (by have := HZ.out; rwa [List.take_of_length_le (by omega)] at this)
            have HRQ := Lib.hid (HPQ.out HZA.out)
            have H1 := Lib.hid (skOf_eq t T (.slice (some ad) dl.length c8) dl wr _ HTr.out.2 (HG9.out.later HBr.out) (HD9.out.later HBr.out) HR0.out)
            obtain ⟨sl, hsl⟩ : ∃ sl, skelL T l0 = sl := ⟨_, rfl⟩
            rw [hsl] at HRQ H1
            clear HZA hsl HR0 HPQ HZ
            obtain ⟨x0, x1, x2, x3, x4, x5, x6, x7, x8, x9, x10, x11⟩ := HTr.out.1.tab
            go_upto_region 16 with (go_at_call 16; refine H1.out.mono ?_; rintro e w10 ⟨u10, rfl, ho10, b10⟩; obtain ⟨A10, c10, rfl, _⟩ := id (Ints.of_own ho10); have HX10 := Lib.hid (Ints.of_own ho10); have B10 := Lib.hid (below_then HBr.out (Nat.le_refl _) b10); clear ho10 b10)
            clear x0 x1 x2 x3 x4 x5 x6 x7 x8 x9 x10 x11 H1
            rename_i K hK
            refine wp_region_as (ops := (opsAt Tryz.f4 16)) (by kernel_rfl) ?_
            refine u20_region2 (b := tb) (t := t) (T := T) (ad := ad) (ca := c8) (as_ := dl) (kx := k) (B := A6) (cb := c6) (ds := pl) (sl := sl) ⟨HT9.out.later B10.out, HG9.out.later B10.out, HD9.out.later B10.out, HP9.out.later B10.out, hk1, by omega, by omega, HRQ.out⟩ ⟨rfl, rfl, by intro p hp; simp [u20Fixed] at hp; rcases hp with rfl | rfl | rfl | rfl <;> rfl⟩ ?_
            intro a w11 hb hf ho hr
            obtain ⟨v16, h16, zs, hi16, hz16⟩ := end_k hr 16 16 (.lst (· = sl)) (by kernel_rfl) rfl (by kernel_rfl)
            obtain rfl : _ = zs := Eq.symm hz16
            obtain ⟨v17, h17, e17⟩ := end_k hr 17 17 (.val (.int .i64 0)) (by kernel_rfl) rfl (by kernel_rfl)
            obtain rfl : _ = v17 := Eq.symm e17
            obtain ⟨A11, c11, rfl, _⟩ := id hi16
            have HY11 := Lib.hid hi16
            have HX11 := Lib.hid (HX10.out.later hb)
            have B11 := Lib.hid (below_then B10.out (Nat.le_refl _) hb)
            have hs := hf.1
            have hd := hf.2.1
            refine hK a w11 ?_
            obtain ⟨fa, hfa, ha⟩ := act_fun hs hd
            have ea0 := (hfa 0 (by decide)).symm.trans (ho 0 (by decide) (by kernel_rfl))
            simp only [List.getElem?_toArray, List.getElem?_cons_zero, Option.some.injEq] at ea0
            have ea1 := (hfa 1 (by decide)).symm.trans (ho 1 (by decide) (by kernel_rfl))
            simp only [List.getElem?_toArray, List.getElem?_cons_zero, List.getElem?_cons_succ, Option.some.injEq] at ea1
            have ea2 := (hfa 2 (by decide)).symm.trans (ho 2 (by decide) (by kernel_rfl))
            simp only [List.getElem?_toArray, List.getElem?_cons_zero, List.getElem?_cons_succ, Option.some.injEq] at ea2
            have ea3 := (hfa 3 (by decide)).symm.trans (ho 3 (by decide) (by kernel_rfl))
            simp only [List.getElem?_toArray, List.getElem?_cons_zero, List.getElem?_cons_succ, Option.some.injEq] at ea3
            have ea4 := (hfa 4 (by decide)).symm.trans (ho 4 (by decide) (by kernel_rfl))
            simp only [List.getElem?_toArray, List.getElem?_cons_zero, List.getElem?_cons_succ, Option.some.injEq] at ea4
            have ea5 := (hfa 5 (by decide)).symm.trans (ho 5 (by decide) (by kernel_rfl))
            simp only [List.getElem?_toArray, List.getElem?_cons_zero, List.getElem?_cons_succ, Option.some.injEq] at ea5
            have ea6 := (hfa 6 (by decide)).symm.trans (ho 6 (by decide) (by kernel_rfl))
            simp only [List.getElem?_toArray, List.getElem?_cons_zero, List.getElem?_cons_succ, Option.some.injEq] at ea6
            have ea7 := (hfa 7 (by decide)).symm.trans (ho 7 (by decide) (by kernel_rfl))
            simp only [List.getElem?_toArray, List.getElem?_cons_zero, List.getElem?_cons_succ, Option.some.injEq] at ea7
            have ea8 := (hfa 8 (by decide)).symm.trans (ho 8 (by decide) (by kernel_rfl))
            simp only [List.getElem?_toArray, List.getElem?_cons_zero, List.getElem?_cons_succ, Option.some.injEq] at ea8
            have ea9 := (hfa 9 (by decide)).symm.trans (ho 9 (by decide) (by kernel_rfl))
            simp only [List.getElem?_toArray, List.getElem?_cons_zero, List.getElem?_cons_succ, Option.some.injEq] at ea9
            have ea10 := (hfa 10 (by decide)).symm.trans (ho 10 (by decide) (by kernel_rfl))
            simp only [List.getElem?_toArray, List.getElem?_cons_zero, List.getElem?_cons_succ, Option.some.injEq] at ea10
            have ea11 := (hfa 11 (by decide)).symm.trans (ho 11 (by decide) (by kernel_rfl))
            simp only [List.getElem?_toArray, List.getElem?_cons_zero, List.getElem?_cons_succ, Option.some.injEq] at ea11
            have ea12 := (hfa 12 (by decide)).symm.trans (ho 12 (by decide) (by kernel_rfl))
            simp only [List.getElem?_toArray, List.getElem?_cons_zero, List.getElem?_cons_succ, Option.some.injEq] at ea12
            have ea13 := (hfa 13 (by decide)).symm.trans (ho 13 (by decide) (by kernel_rfl))
            simp only [List.getElem?_toArray, List.getElem?_cons_zero, List.getElem?_cons_succ, Option.some.injEq] at ea13
            have ea14 := (hfa 14 (by decide)).symm.trans (ho 14 (by decide) (by kernel_rfl))
            simp only [List.getElem?_toArray, List.getElem?_cons_zero, List.getElem?_cons_succ, Option.some.injEq] at ea14
            have ea15 := (hfa 15 (by decide)).symm.trans (ho 15 (by decide) (by kernel_rfl))
            simp only [List.getElem?_toArray, List.getElem?_cons_zero, List.getElem?_cons_succ, Option.some.injEq] at ea15
            have ea18 := (hfa 18 (by decide)).symm.trans (ho 18 (by decide) (by kernel_rfl))
            simp only [List.getElem?_toArray, List.getElem?_cons_zero, List.getElem?_cons_succ, Option.some.injEq] at ea18
            have ea19 := (hfa 19 (by decide)).symm.trans (ho 19 (by decide) (by kernel_rfl))
            simp only [List.getElem?_toArray, List.getElem?_cons_zero, List.getElem?_cons_succ, Option.some.injEq] at ea19
            have ea20 := (hfa 20 (by decide)).symm.trans (ho 20 (by decide) (by kernel_rfl))
            simp only [List.getElem?_toArray, List.getElem?_cons_zero, List.getElem?_cons_succ, Option.some.injEq] at ea20
            have ea21 := (hfa 21 (by decide)).symm.trans (ho 21 (by decide) (by kernel_rfl))
            simp only [List.getElem?_toArray, List.getElem?_cons_zero, List.getElem?_cons_succ, Option.some.injEq] at ea21
            have ea22 := (hfa 22 (by decide)).symm.trans (ho 22 (by decide) (by kernel_rfl))
            simp only [List.getElem?_toArray, List.getElem?_cons_zero, List.getElem?_cons_succ, Option.some.injEq] at ea22
            have ea23 := (hfa 23 (by decide)).symm.trans (ho 23 (by decide) (by kernel_rfl))
            simp only [List.getElem?_toArray, List.getElem?_cons_zero, List.getElem?_cons_succ, Option.some.injEq] at ea23
            have ea24 := (hfa 24 (by decide)).symm.trans (ho 24 (by decide) (by kernel_rfl))
            simp only [List.getElem?_toArray, List.getElem?_cons_zero, List.getElem?_cons_succ, Option.some.injEq] at ea24
            have ea25 := (hfa 25 (by decide)).symm.trans (ho 25 (by decide) (by kernel_rfl))
            simp only [List.getElem?_toArray, List.getElem?_cons_zero, List.getElem?_cons_succ, Option.some.injEq] at ea25
            have ea26 := (hfa 26 (by decide)).symm.trans (ho 26 (by decide) (by kernel_rfl))
            simp only [List.getElem?_toArray, List.getElem?_cons_zero, List.getElem?_cons_succ, Option.some.injEq] at ea26
            have ea27 := (hfa 27 (by decide)).symm.trans (ho 27 (by decide) (by kernel_rfl))
            simp only [List.getElem?_toArray, List.getElem?_cons_zero, List.getElem?_cons_succ, Option.some.injEq] at ea27
            have ea28 := (hfa 28 (by decide)).symm.trans (ho 28 (by decide) (by kernel_rfl))
            simp only [List.getElem?_toArray, List.getElem?_cons_zero, List.getElem?_cons_succ, Option.some.injEq] at ea28
            have ea29 := (hfa 29 (by decide)).symm.trans (ho 29 (by decide) (by kernel_rfl))
            simp only [List.getElem?_toArray, List.getElem?_cons_zero, List.getElem?_cons_succ, Option.some.injEq] at ea29
            have ea30 := (hfa 30 (by decide)).symm.trans (ho 30 (by decide) (by kernel_rfl))
            simp only [List.getElem?_toArray, List.getElem?_cons_zero, List.getElem?_cons_succ, Option.some.injEq] at ea30
            have ea31 := (hfa 31 (by decide)).symm.trans (ho 31 (by decide) (by kernel_rfl))
            simp only [List.getElem?_toArray, List.getElem?_cons_zero, List.getElem?_cons_succ, Option.some.injEq] at ea31
            have ea32 := (hfa 32 (by decide)).symm.trans (ho 32 (by decide) (by kernel_rfl))
            simp only [List.getElem?_toArray, List.getElem?_cons_zero, List.getElem?_cons_succ, Option.some.injEq] at ea32
            have ea33 := (hfa 33 (by decide)).symm.trans (ho 33 (by decide) (by kernel_rfl))
            simp only [List.getElem?_toArray, List.getElem?_cons_zero, List.getElem?_cons_succ, Option.some.injEq] at ea33
            have ea34 := (hfa 34 (by decide)).symm.trans (ho 34 (by decide) (by kernel_rfl))
            simp only [List.getElem?_toArray, List.getElem?_cons_zero, List.getElem?_cons_succ, Option.some.injEq] at ea34
            have ea35 := (hfa 35 (by decide)).symm.trans (ho 35 (by decide) (by kernel_rfl))
            simp only [List.getElem?_toArray, List.getElem?_cons_zero, List.getElem?_cons_succ, Option.some.injEq] at ea35
            have ea36 := (hfa 36 (by decide)).symm.trans (ho 36 (by decide) (by kernel_rfl))
            simp only [List.getElem?_toArray, List.getElem?_cons_zero, List.getElem?_cons_succ, Option.some.injEq] at ea36
            have ea37 := (hfa 37 (by decide)).symm.trans (ho 37 (by decide) (by kernel_rfl))
            simp only [List.getElem?_toArray, List.getElem?_cons_zero, List.getElem?_cons_succ, Option.some.injEq] at ea37
            have ea38 := (hfa 38 (by decide)).symm.trans (ho 38 (by decide) (by kernel_rfl))
            simp only [List.getElem?_toArray, List.getElem?_cons_zero, List.getElem?_cons_succ, Option.some.injEq] at ea38
            have ea39 := (hfa 39 (by decide)).symm.trans (ho 39 (by decide) (by kernel_rfl))
            simp only [List.getElem?_toArray, List.getElem?_cons_zero, List.getElem?_cons_succ, Option.some.injEq] at ea39
            have ea40 := (hfa 40 (by decide)).symm.trans (ho 40 (by decide) (by kernel_rfl))
            simp only [List.getElem?_toArray, List.getElem?_cons_zero, List.getElem?_cons_succ, Option.some.injEq] at ea40
            have ea41 := (hfa 41 (by decide)).symm.trans (ho 41 (by decide) (by kernel_rfl))
            simp only [List.getElem?_toArray, List.getElem?_cons_zero, List.getElem?_cons_succ, Option.some.injEq] at ea41
            have ea42 := (hfa 42 (by decide)).symm.trans (ho 42 (by decide) (by kernel_rfl))
            simp only [List.getElem?_toArray, List.getElem?_cons_zero, List.getElem?_cons_succ, Option.some.injEq] at ea42
            have ea43 := (hfa 43 (by decide)).symm.trans (ho 43 (by decide) (by kernel_rfl))
            simp only [List.getElem?_toArray, List.getElem?_cons_zero, List.getElem?_cons_succ, Option.some.injEq] at ea43
            have ea44 := (hfa 44 (by decide)).symm.trans (ho 44 (by decide) (by kernel_rfl))
            simp only [List.getElem?_toArray, List.getElem?_cons_zero, List.getElem?_cons_succ, Option.some.injEq] at ea44
            have ea45 := (hfa 45 (by decide)).symm.trans (ho 45 (by decide) (by kernel_rfl))
            simp only [List.getElem?_toArray, List.getElem?_cons_zero, List.getElem?_cons_succ, Option.some.injEq] at ea45
            have ea46 := (hfa 46 (by decide)).symm.trans (ho 46 (by decide) (by kernel_rfl))
            simp only [List.getElem?_toArray, List.getElem?_cons_zero, List.getElem?_cons_succ, Option.some.injEq] at ea46
            have ea47 := (hfa 47 (by decide)).symm.trans (ho 47 (by decide) (by kernel_rfl))
            simp only [List.getElem?_toArray, List.getElem?_cons_zero, List.getElem?_cons_succ, Option.some.injEq] at ea47
            have ea48 := (hfa 48 (by decide)).symm.trans (ho 48 (by decide) (by kernel_rfl))
            simp only [List.getElem?_toArray, List.getElem?_cons_zero, List.getElem?_cons_succ, Option.some.injEq] at ea48
            have ea49 := (hfa 49 (by decide)).symm.trans (ho 49 (by decide) (by kernel_rfl))
            simp only [List.getElem?_toArray, List.getElem?_cons_zero, List.getElem?_cons_succ, Option.some.injEq] at ea49
            have ea50 := (hfa 50 (by decide)).symm.trans (ho 50 (by decide) (by kernel_rfl))
            simp only [List.getElem?_toArray, List.getElem?_cons_zero, List.getElem?_cons_succ, Option.some.injEq] at ea50
            have ea51 := (hfa 51 (by decide)).symm.trans (ho 51 (by decide) (by kernel_rfl))
            simp only [List.getElem?_toArray, List.getElem?_cons_zero, List.getElem?_cons_succ, Option.some.injEq] at ea51
            have ea52 := (hfa 52 (by decide)).symm.trans (ho 52 (by decide) (by kernel_rfl))
            simp only [List.getElem?_toArray, List.getElem?_cons_zero, List.getElem?_cons_succ, Option.some.injEq] at ea52
            have ea53 := (hfa 53 (by decide)).symm.trans (ho 53 (by decide) (by kernel_rfl))
            simp only [List.getElem?_toArray, List.getElem?_cons_zero, List.getElem?_cons_succ, Option.some.injEq] at ea53
            have ea54 := (hfa 54 (by decide)).symm.trans (ho 54 (by decide) (by kernel_rfl))
            simp only [List.getElem?_toArray, List.getElem?_cons_zero, List.getElem?_cons_succ, Option.some.injEq] at ea54
            have ea55 := (hfa 55 (by decide)).symm.trans (ho 55 (by decide) (by kernel_rfl))
            simp only [List.getElem?_toArray, List.getElem?_cons_zero, List.getElem?_cons_succ, Option.some.injEq] at ea55
            have ea56 := (hfa 56 (by decide)).symm.trans (ho 56 (by decide) (by kernel_rfl))
            simp only [List.getElem?_toArray, List.getElem?_cons_zero, List.getElem?_cons_succ, Option.some.injEq] at ea56
            have ea57 := (hfa 57 (by decide)).symm.trans (ho 57 (by decide) (by kernel_rfl))
            simp only [List.getElem?_toArray, List.getElem?_cons_zero, List.getElem?_cons_succ, Option.some.injEq] at ea57
            have ea58 := (hfa 58 (by decide)).symm.trans (ho 58 (by decide) (by kernel_rfl))
            simp only [List.getElem?_toArray, List.getElem?_cons_zero, List.getElem?_cons_succ, Option.some.injEq] at ea58
            have ea59 := (hfa 59 (by decide)).symm.trans (ho 59 (by decide) (by kernel_rfl))
            simp only [List.getElem?_toArray, List.getElem?_cons_zero, List.getElem?_cons_succ, Option.some.injEq] at ea59
            have ea60 := (hfa 60 (by decide)).symm.trans (ho 60 (by decide) (by kernel_rfl))
            simp only [List.getElem?_toArray, List.getElem?_cons_zero, List.getElem?_cons_succ, Option.some.injEq] at ea60
            have ea61 := (hfa 61 (by decide)).symm.trans (ho 61 (by decide) (by kernel_rfl))
            simp only [List.getElem?_toArray, List.getElem?_cons_zero, List.getElem?_cons_succ, Option.some.injEq] at ea61
            have ea62 := (hfa 62 (by decide)).symm.trans (ho 62 (by decide) (by kernel_rfl))
            simp only [List.getElem?_toArray, List.getElem?_cons_zero, List.getElem?_cons_succ, Option.some.injEq] at ea62
            have ea63 := (hfa 63 (by decide)).symm.trans (ho 63 (by decide) (by kernel_rfl))
            simp only [List.getElem?_toArray, List.getElem?_cons_zero, List.getElem?_cons_succ, Option.some.injEq] at ea63
            have ea64 := (hfa 64 (by decide)).symm.trans (ho 64 (by decide) (by kernel_rfl))
            simp only [List.getElem?_toArray, List.getElem?_cons_zero, List.getElem?_cons_succ, Option.some.injEq] at ea64
            have ea65 := (hfa 65 (by decide)).symm.trans (ho 65 (by decide) (by kernel_rfl))
            simp only [List.getElem?_toArray, List.getElem?_cons_zero, List.getElem?_cons_succ, Option.some.injEq] at ea65
            have ea66 := (hfa 66 (by decide)).symm.trans (ho 66 (by decide) (by kernel_rfl))
            simp only [List.getElem?_toArray, List.getElem?_cons_zero, List.getElem?_cons_succ, Option.some.injEq] at ea66
            have ea67 := (hfa 67 (by decide)).symm.trans (ho 67 (by decide) (by kernel_rfl))
            simp only [List.getElem?_toArray, List.getElem?_cons_zero, List.getElem?_cons_succ, Option.some.injEq] at ea67
            have ea68 := (hfa 68 (by decide)).symm.trans (ho 68 (by decide) (by kernel_rfl))
            simp only [List.getElem?_toArray, List.getElem?_cons_zero, List.getElem?_cons_succ, Option.some.injEq] at ea68
            have ea69 := (hfa 69 (by decide)).symm.trans (ho 69 (by decide) (by kernel_rfl))
            simp only [List.getElem?_toArray, List.getElem?_cons_zero, List.getElem?_cons_succ, Option.some.injEq] at ea69
            have ea70 := (hfa 70 (by decide)).symm.trans (ho 70 (by decide) (by kernel_rfl))
            simp only [List.getElem?_toArray, List.getElem?_cons_zero, List.getElem?_cons_succ, Option.some.injEq] at ea70
            have ea71 := (hfa 71 (by decide)).symm.trans (ho 71 (by decide) (by kernel_rfl))
            simp only [List.getElem?_toArray, List.getElem?_cons_zero, List.getElem?_cons_succ, Option.some.injEq] at ea71
            have ea88 := (hfa 88 (by decide)).symm.trans (ho 88 (by decide) (by kernel_rfl))
            simp only [List.getElem?_toArray, List.getElem?_cons_zero, List.getElem?_cons_succ, Option.some.injEq] at ea88
            have ea89 := (hfa 89 (by decide)).symm.trans (ho 89 (by decide) (by kernel_rfl))
            simp only [List.getElem?_toArray, List.getElem?_cons_zero, List.getElem?_cons_succ, Option.some.injEq] at ea89
            have ea90 := (hfa 90 (by decide)).symm.trans (ho 90 (by decide) (by kernel_rfl))
            simp only [List.getElem?_toArray, List.getElem?_cons_zero, List.getElem?_cons_succ, Option.some.injEq] at ea90
            have ea91 := (hfa 91 (by decide)).symm.trans (ho 91 (by decide) (by kernel_rfl))
            simp only [List.getElem?_toArray, List.getElem?_cons_zero, List.getElem?_cons_succ, Option.some.injEq] at ea91
            have ea92 := (hfa 92 (by decide)).symm.trans (ho 92 (by decide) (by kernel_rfl))
            simp only [List.getElem?_toArray, List.getElem?_cons_zero, List.getElem?_cons_succ, Option.some.injEq] at ea92
            have ea93 := (hfa 93 (by decide)).symm.trans (ho 93 (by decide) (by kernel_rfl))
            simp only [List.getElem?_toArray, List.getElem?_cons_zero, List.getElem?_cons_succ, Option.some.injEq] at ea93
            have ea94 := (hfa 94 (by decide)).symm.trans (ho 94 (by decide) (by kernel_rfl))
            simp only [List.getElem?_toArray, List.getElem?_cons_zero, List.getElem?_cons_succ, Option.some.injEq] at ea94
            have ea95 := (hfa 95 (by decide)).symm.trans (ho 95 (by decide) (by kernel_rfl))
            simp only [List.getElem?_toArray, List.getElem?_cons_zero, List.getElem?_cons_succ, Option.some.injEq] at ea95
            have ea96 := (hfa 96 (by decide)).symm.trans (ho 96 (by decide) (by kernel_rfl))
            simp only [List.getElem?_toArray, List.getElem?_cons_zero, List.getElem?_cons_succ, Option.some.injEq] at ea96
            have ea97 := (hfa 97 (by decide)).symm.trans (ho 97 (by decide) (by kernel_rfl))
            simp only [List.getElem?_toArray, List.getElem?_cons_zero, List.getElem?_cons_succ, Option.some.injEq] at ea97
            have ea98 := (hfa 98 (by decide)).symm.trans (ho 98 (by decide) (by kernel_rfl))
            simp only [List.getElem?_toArray, List.getElem?_cons_zero, List.getElem?_cons_succ, Option.some.injEq] at ea98
            have ea99 := (hfa 99 (by decide)).symm.trans (ho 99 (by decide) (by kernel_rfl))
            simp only [List.getElem?_toArray, List.getElem?_cons_zero, List.getElem?_cons_succ, Option.some.injEq] at ea99
            have ea100 := (hfa 100 (by decide)).symm.trans (ho 100 (by decide) (by kernel_rfl))
            simp only [List.getElem?_toArray, List.getElem?_cons_zero, List.getElem?_cons_succ, Option.some.injEq] at ea100
            have ea101 := (hfa 101 (by decide)).symm.trans (ho 101 (by decide) (by kernel_rfl))
            simp only [List.getElem?_toArray, List.getElem?_cons_zero, List.getElem?_cons_succ, Option.some.injEq] at ea101
            have ea16 : fa 16 = .slice A11 sl.length c11 := Option.some.inj ((hfa 16 (by decide)).symm.trans (h16))
            have ea17 : fa 17 = .int .i64 0 := Option.some.inj ((hfa 17 (by decide)).symm.trans (h17))
            have ha2 : a = ⟨#[fa 0, fa 1, fa 2, fa 3, fa 4, fa 5, fa 6, fa 7, fa 8, fa 9, fa 10, fa 11, fa 12, fa 13, fa 14, fa 15, fa 16, fa 17, fa 18, fa 19, fa 20, fa 21, fa 22, fa 23, fa 24, fa 25, fa 26, fa 27, fa 28, fa 29, fa 30, fa 31, fa 32, fa 33, fa 34, fa 35, fa 36, fa 37, fa 38, fa 39, fa 40, fa 41, fa 42, fa 43, fa 44, fa 45, fa 46, fa 47, fa 48, fa 49, fa 50, fa 51, fa 52, fa 53, fa 54, fa 55, fa 56, fa 57, fa 58, fa 59, fa 60, fa 61, fa 62, fa 63, fa 64, fa 65, fa 66, fa 67, fa 68, fa 69, fa 70, fa 71, fa 72, fa 73, fa 74, fa 75, fa 76, fa 77, fa 78, fa 79, fa 80, fa 81, fa 82, fa 83, fa 84, fa 85, fa 86, fa 87, fa 88, fa 89, fa 90, fa 91, fa 92, fa 93, fa 94, fa 95, fa 96, fa 97, fa 98, fa 99, fa 100, fa 101], []⟩ := ha.trans (by kernel_rfl)
            rw [ea0, ea1, ea2, ea3, ea4, ea5, ea6, ea7, ea8, ea9, ea10, ea11, ea12, ea13, ea14, ea15, ea16, ea17, ea18, ea19, ea20, ea21, ea22, ea23, ea24, ea25, ea26, ea27, ea28, ea29, ea30, ea31, ea32, ea33, ea34, ea35, ea36, ea37, ea38, ea39, ea40, ea41, ea42, ea43, ea44, ea45, ea46, ea47, ea48, ea49, ea50, ea51, ea52, ea53, ea54, ea55, ea56, ea57, ea58, ea59, ea60, ea61, ea62, ea63, ea64, ea65, ea66, ea67, ea68, ea69, ea70, ea71, ea88, ea89, ea90, ea91, ea92, ea93, ea94, ea95, ea96, ea97, ea98, ea99, ea100, ea101] at ha2
            clear ha hfa ho ea0 ea1 ea2 ea3 ea4 ea5 ea6 ea7 ea8 ea9 ea10 ea11 ea12 ea13 ea14 ea15 ea16 ea17 ea18 ea19 ea20 ea21 ea22 ea23 ea24 ea25 ea26 ea27 ea28 ea29 ea30 ea31 ea32 ea33 ea34 ea35 ea36 ea37 ea38 ea39 ea40 ea41 ea42 ea43 ea44 ea45 ea46 ea47 ea48 ea49 ea50 ea51 ea52 ea53 ea54 ea55 ea56 ea57 ea58 ea59 ea60 ea61 ea62 ea63 ea64 ea65 ea66 ea67 ea68 ea69 ea70 ea71 ea88 ea89 ea90 ea91 ea92 ea93 ea94 ea95 ea96 ea97 ea98 ea99 ea100 ea101
            subst ha2
            clear hf hr h16 h17 hs hd hi16 hK hb HX10 B10
            go_wp2_with (first
              | (go_at_call 21; refine (awake20 _ (HG9.out.later B11.out)).mono ?_; rintro e w12 ⟨rfl, b12⟩)
              | (go_at_call 17; refine (same_of _ _ sl sl _ (HX11.out.later b12) (HY11.out.later b12) rfl).mono ?_; rintro e w13 ⟨rfl, b13⟩))
            go_ret
            exact ⟨rfl, below_next HB9.out (below_then B11.out (Nat.le_refl _) (below_next b12 b13))⟩
      · have q1 : (T.classOf c != 0) = true := by simpa using hc0
        clear hc0
        go_wp2_with (go_at_call 21; refine (awake20 _ HG9.out).mono ?_; rintro e w10 ⟨rfl, b10⟩)
        go_ret
        exact ⟨rfl, below_next HB9.out b10⟩
theorem SkeletonPrototype_walk (W : World) (hg : Glob W) (v : Value) (xs : List Int) (hv : Ints W W.heap.size .i64 v xs) (_ : ∀ x ∈ xs, -9223372036854775808 ≤ x ∧ x ≤ 9223372036854775807) (_ : xs.length * 8 ≤ 140737488351232) (vm : Value) (ms : List Int) (hvm : Ints W W.heap.size .i64 vm ms) (_ : ∀ x ∈ ms, -9223372036854775808 ≤ x ∧ x ≤ 9223372036854775807) (_ : ms.length * 8 ≤ 140737488351232) (n : Int) (_ : -9223372036854775808 ≤ n ∧ n ≤ 9223372036854775807) :
    Calls Tryz.prog 4 #[v, vm, .int .i64 n] W fun e W' => e = .returned (.bool true) ∧ Below W.heap.size W W' := SkeletonPrototype_go W hg v xs hv vm ms hvm n
end Go.Proofs.YtecpbicfiaifdaaGreatDoor
