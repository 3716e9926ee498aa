/-
  Merged texts: lemmas and walks that the last text of this claim leans on.
-/
import Derived.Test.YtecpbicfiaifdaaDoorMgB720
import Derived.Test.YtecpbicfiaifdaaDoorMgB714
import Derived.Test.YtecpbicfiaifdaaDoorMgB715
import Derived.Test.YtecpbicfiaifdaaDoorMgB725
import Derived.Test.YtecpbicfiaifdaaDoorMgB723
import Derived.Test.YtecpbicfiaifdaaDoorMgB719
import Derived.Test.YtecpbicfiaifdaaDoorMgB724
/-
  The walk through the law SkeletonTwice.
-/
namespace Go.Proofs.YtecpbicfiaifdaaDoor
open Go.RowKit ND

/-- What holds ahead of region 2. -/
structure w20Ctx (w0 : World) (b : Nat) (t : Tv) (T : Tab) (va : Value) (ms : List Int) : Prop where
  tb : Tbl w0 b t T
  g : Glob w0
  v : Ints w0 w0.heap.size .i64 va ms
  ck : T.check = 0
def w20Specs (t : Tv) (T : Tab) (va : Value) : List SpecK := [.val t.val, .val va, .lst (fun l => l.length ≤ 10 ∧ l.all scalarB = true), .two 0 (fun ys => ∃ l : List Int, l.length ≤ 10 ∧ l.all scalarB = true ∧ ys = skelL T l), .two 0 (fun ys => ∃ l : List Int, l.length ≤ 10 ∧ l.all scalarB = true ∧ ys = skelL T l), .lst (fun ys => ∃ l : List Int, l.length ≤ 10 ∧ l.all scalarB = true ∧ ys = skelL T l), .val (.int .i64 0), .lst (fun ys => ∃ l : List Int, l.length ≤ 10 ∧ l.all scalarB = true ∧ ys = skelL T l), .val (.int .i64 0)]
def w20Fixed (b : Nat) (va : Value) : List (Tmp × Value) := [(1, va), (5, .pointer (some ⟨b, 0, none⟩))]
def w20Ob (w0 : World) (b : Nat) (t : Tv) (T : Tab) (va : Value) (Q : Exit → Act → World → Prop) (k : Nat) : Prop := ObR 24 Tryd.prog (opsAt Tryd.f4 2) 44 [] (w20Fixed b va) w0 (w20Specs t T va) [] Q k
section
variable {w0 : World} {b : Nat} {t : Tv} {T : Tab} {va : Value} {ms : List Int} {Q : Exit → Act → World → Prop}
theorem w20_ob0 (H : w20Ctx w0 b t T va ms) : w20Ob w0 b t T va Q 0 := by
  intro o ho a w hb hf hd K hK
  rw [if_pos (wanted_none _ (get_op (·.guard) ho (by kernel_rfl)))]
  exact ob_value (load_tab (H.tb.later hb) (get_op (·.op) ho (by kernel_rfl)) (eval_tmp (hf.2.2 (5, _) (by simp [w20Fixed])))) (hK _ _ (rk_of rfl rfl) (.inl (Below.refl _ _)))
theorem w20_ob1 : w20Ob w0 b t T va Q 1 := by
  intro o ho a w hb hf hd K hK
  rw [if_pos (wanted_none _ (get_op (·.guard) ho (by kernel_rfl)))]
  exact ob_move (get_op (·.op) ho (by kernel_rfl)) (eval_tmp (hf.2.2 (1, _) (by simp [w20Fixed]))) (hK _ _ (rk_of rfl rfl) (.inl (Below.refl _ _)))
theorem w20_ob2 (H : w20Ctx w0 b t T va ms) : w20Ob w0 b t T va Q 2 := by
  intro o ho a w hb hf hd K hK
  rw [if_pos (wanted_none _ (get_op (·.guard) ho (by kernel_rfl)))]
  obtain ⟨v1, h1, e1⟩ := dep_k (F := 24) ho hd 1 14 (.val va) (by kernel_rfl) (by kernel_rfl) rfl (by kernel_rfl)
  obtain rfl : _ = v1 := Eq.symm e1
  refine ob_enter (enter1 (tys := #[24]) (x := .tmp 14) (get_op (·.op) ho (by kernel_rfl)) (eval_tmp h1) (fun args w => enters_of Tryd.func13 (by kernel_rfl) rfl args w)) (points_any w _ _ (H.v.later hb)) fun e w' ⟨v, ys, he, h2, hl, hs, h1⟩ => ⟨v, he, ?_⟩
  exact hK _ _ (rk_of rfl ⟨ys, h2, hl, List.all_eq_true.2 hs⟩) (.inl h1)
theorem w20_ob3 (H : w20Ctx w0 b t T va ms) : w20Ob w0 b t T va Q 3 := by
  intro o ho a w hb hf hd K hK
  rw [if_pos (wanted_none _ (get_op (·.guard) ho (by kernel_rfl)))]
  obtain ⟨v0, h0, e0⟩ := dep_k (F := 24) ho hd 0 13 (.val t.val) (by kernel_rfl) (by kernel_rfl) rfl (by kernel_rfl)
  obtain rfl : _ = v0 := Eq.symm e0
  obtain ⟨v2, h2, e2⟩ := dep_k (F := 24) ho hd 2 15 (.lst (fun l => l.length ≤ 10 ∧ l.all scalarB = true)) (by kernel_rfl) (by kernel_rfl) rfl (by kernel_rfl)
  obtain ⟨ys2, hi2, hp2⟩ := e2
  refine ob_enter (enter2 (tys := #[31, 24]) (x := .tmp 13) (y := .tmp 15) (get_op (·.op) ho (by kernel_rfl)) (eval_tmp h0) (eval_tmp h2) (fun args w => enters_of Tryd.func12 (by kernel_rfl) rfl args w)) (skOf_eq t T _ ys2 w _ (H.tb.later hb).2 (H.g.later hb) hi2 (skelR_short H.ck hp2.2 (by have := hp2.1; omega))) fun e w' ⟨u, he, h2, h1⟩ => ⟨_, he, ?_⟩
  exact hK _ _ (rk_of rfl ⟨u, _, rfl, Ints.of_own h2, ys2, hp2.1, hp2.2, rfl⟩) (.inl h1)
theorem w20_ob4 : w20Ob w0 b t T va Q 4 := by
  intro o ho a w hb hf hd K hK
  rw [if_pos (wanted_none _ (get_op (·.guard) ho (by kernel_rfl)))]
  obtain ⟨v3, h3, e3⟩ := dep_k (F := 24) ho hd 3 16 (.two 0 (fun ys => ∃ l : List Int, l.length ≤ 10 ∧ l.all scalarB = true ∧ ys = skelL T l)) (by kernel_rfl) (by kernel_rfl) rfl (by kernel_rfl)
  exact ob_move (get_op (·.op) ho (by kernel_rfl)) (eval_tmp h3) (hK _ _ (rk_of rfl e3) (.inl (Below.refl _ _)))
theorem w20_ob5 : w20Ob w0 b t T va Q 5 := by
  intro o ho a w hb hf hd K hK
  rw [if_pos (wanted_none _ (get_op (·.guard) ho (by kernel_rfl)))]
  obtain ⟨v4, h4, e4⟩ := dep_k (F := 24) ho hd 4 12 (.two 0 (fun ys => ∃ l : List Int, l.length ≤ 10 ∧ l.all scalarB = true ∧ ys = skelL T l)) (by kernel_rfl) (by kernel_rfl) rfl (by kernel_rfl)
  obtain ⟨u, ys, rfl, hi1, hp⟩ := e4
  exact ob_extract (k := 0) (get_op (·.op) ho (by kernel_rfl)) (eval_tmp h4) rfl (hK _ _ (rk_of rfl ⟨ys, hi1, hp⟩) (.inl (Below.refl _ _)))
theorem w20_ob6 : w20Ob w0 b t T va Q 6 := by
  intro o ho a w hb hf hd K hK
  rw [if_pos (wanted_none _ (get_op (·.guard) ho (by kernel_rfl)))]
  obtain ⟨v4, h4, e4⟩ := dep_k (F := 24) ho hd 4 12 (.two 0 (fun ys => ∃ l : List Int, l.length ≤ 10 ∧ l.all scalarB = true ∧ ys = skelL T l)) (by kernel_rfl) (by kernel_rfl) rfl (by kernel_rfl)
  obtain ⟨u, ys, rfl, hi1, hp⟩ := e4
  exact ob_extract (k := 1) (get_op (·.op) ho (by kernel_rfl)) (eval_tmp h4) rfl (hK _ _ (rk_of rfl rfl) (.inl (Below.refl _ _)))
theorem w20_ob7 : w20Ob w0 b t T va Q 7 := by
  intro o ho a w hb hf hd K hK
  rw [if_pos (wanted_none _ (get_op (·.guard) ho (by kernel_rfl)))]
  obtain ⟨v5, h5, e5⟩ := dep_k (F := 24) ho hd 5 17 (.lst (fun ys => ∃ l : List Int, l.length ≤ 10 ∧ l.all scalarB = true ∧ ys = skelL T l)) (by kernel_rfl) (by kernel_rfl) rfl (by kernel_rfl)
  exact ob_assign (get_op (·.op) ho (by kernel_rfl)) (eval_tmp h5) (hK _ _ (rk_of rfl e5) (.inl (Below.refl _ _)))
theorem w20_ob8 : w20Ob w0 b t T va Q 8 := by
  intro o ho a w hb hf hd K hK
  rw [if_pos (wanted_none _ (get_op (·.guard) ho (by kernel_rfl)))]
  obtain ⟨v6, h6, e6⟩ := dep_k (F := 24) ho hd 6 18 (.val (.int .i64 0)) (by kernel_rfl) (by kernel_rfl) rfl (by kernel_rfl)
  obtain rfl : _ = v6 := Eq.symm e6
  exact ob_assign (get_op (·.op) ho (by kernel_rfl)) (eval_tmp h6) (hK _ _ (rk_of rfl rfl) (.inl (Below.refl _ _)))
theorem w20_obs (H : w20Ctx w0 b t T va ms) (k : Nat) (hk : k < 9) : w20Ob w0 b t T va Q k := by
  match k, hk with
  | 0, _ => exact w20_ob0 H
  | 1, _ => exact w20_ob1
  | 2, _ => exact w20_ob2 H
  | 3, _ => exact w20_ob3 H
  | 4, _ => exact w20_ob4
  | 5, _ => exact w20_ob5
  | 6, _ => exact w20_ob6
  | 7, _ => exact w20_ob7
  | 8, _ => exact w20_ob8
  | m + 9, h => exact absurd h (by omega)
theorem w20_region {a : Act} (H : w20Ctx w0 b t T va ms) (hf : FS 44 [] (w20Fixed b va) a)
    (hend : ∀ a w, Below w0.heap.size w0 w → FS 44 [] (w20Fixed b va) a → (∀ (i : Nat) (o : Oper) (d : Tmp), (opsAt Tryd.f4 2)[i]? = some o → (∀ j, killK (w20Specs t T va) [] i j = false) → o.dst = some d → ∃ v, a.tmps[d]? = some v ∧ RK w0.heap.size (w20Specs t T va) i v w) → Q .normal a w) : (Code.region 2 (opsAt Tryd.f4 2) true).wp Tryd.prog Q a w0 := by
  refine wp_region_k 24 (n := 44) (ds := []) (fixed := w20Fixed b va) (specs := w20Specs t T va) (apps := []) (by kernel_rfl) (by kernel_rfl) (by kernel_rfl) (by kernel_rfl) hf (fun i hi => w20_obs H i ?_) hend
  have hn : (opsAt Tryd.f4 2).size = 9 := by kernel_rfl
  omega
theorem w20_region2 {a : Act} (H : w20Ctx w0 b t T va ms) (hf : FS 44 [] (w20Fixed b va) a)
    (hend : ∀ a' w, Below w0.heap.size w0 w → FS 44 [] (w20Fixed b va) a' → (∀ i, i < 44 → freeOf (opsAt Tryd.f4 2) i = true → a'.tmps[i]? = a.tmps[i]?) → (∀ (i : Nat) (o : Oper) (d : Tmp), (opsAt Tryd.f4 2)[i]? = some o → (∀ j, killK (w20Specs t T va) [] i j = false) → o.dst = some d → ∃ v, a'.tmps[d]? = some v ∧ RK w0.heap.size (w20Specs t T va) i v w) → Q .normal a' w) : (Code.region 2 (opsAt Tryd.f4 2) true).wp Tryd.prog Q a w0 := by
  refine wp_region_k2 24 (n := 44) (ds := []) (fixed := w20Fixed b va) (specs := w20Specs t T va) (apps := []) (by kernel_rfl) (by kernel_rfl) (by kernel_rfl) (by kernel_rfl) hf (fun i hi => w20_obs H i ?_) hend
  have hn : (opsAt Tryd.f4 2).size = 9 := by kernel_rfl
  omega
end

set_option maxRecDepth 100000 in
set_option maxHeartbeats 4000000 in
theorem SkeletonTwice_go (W : World) (hg : Glob W) (v : Value) (xs : List Int) (hv : Ints W W.heap.size .i64 v xs) (vm : Value) (ms : List Int) (hvm : Ints W W.heap.size .i64 vm ms) :
    Calls Tryd.prog 4 #[v, vm] W fun e W' => e = .returned (.bool true) ∧ Below W.heap.size W W' := by
  have HG := Lib.hid hg
  have HM := Lib.hid hvm
  obtain ⟨Ax, cx, rfl, _⟩ := id hv
  obtain ⟨Am, cm, rfl, _⟩ := id hvm
  have HT := Lib.hid (keepTables_any W _ xs hv)
  clear hv hg hvm
  go_enter Tryd.func4, Tryd.ntmps4
  go_upto_region 2 with (go_at_call 11; refine HT.out.mono ?_; rintro e w1 ⟨t, T, rfl, ht1, hm1, hb1⟩; obtain ⟨A0, A1, A2, A3, A4, A5, A6, A7, A8, A9, A10, A11, k0, k1, k2, k3, k4, k5, k6, k7, k8, k9, k10, k11, rfl⟩ := ht1.shape; have HT1 := Lib.hid ht1; have HB1 := Lib.hid hb1; have HM1 := Lib.hid hm1; clear ht1 hb1 hm1)
  obtain ⟨t, ht, htb⟩ := Tbl.new HT1.out
  have HT2 := Lib.hid htb
  have HB2 := Lib.hid (HB1.out.alloc HB1.out.size (.cells #[.slice A0 T.category.length k0, .slice A1 T.cls.length k1, .slice A2 T.joining.length k2, .slice A3 T.bidi.length k3, .slice A4 T.script.length k4, .slice A5 T.status.length k5, .slice A6 T.ignorable.length k6, .slice A7 T.extensions.length k7, .slice A8 T.maps.length k8, .slice A9 T.decomps.length k9, .slice A10 T.excluded.length k10, .slice A11 T.prototypes.length k11] 31))
  clear htb HT1 HT
  generalize w1.alloc (.cells #[.slice A0 T.category.length k0, .slice A1 T.cls.length k1, .slice A2 T.joining.length k2, .slice A3 T.bidi.length k3, .slice A4 T.script.length k4, .slice A5 T.status.length k5, .slice A6 T.ignorable.length k6, .slice A7 T.extensions.length k7, .slice A8 T.maps.length k8, .slice A9 T.decomps.length k9, .slice A10 T.excluded.length k10, .slice A11 T.prototypes.length k11] 31) = w2 at *
  generalize w1.heap.size = tb at *
  clear ht
  have hck := HM1.out.check
  have HG2 := Lib.hid (HG.out.later HB2.out)
  have HM2 := Lib.hid (HM.out.later HB2.out)
  clear HG HM HM1
  rename_i K hK
  refine wp_region_as (ops := (opsAt Tryd.f4 2)) (by kernel_rfl) ?_
  refine w20_region2 (b := tb) (t := t) (T := T) (va := .slice Am ms.length cm) (ms := ms) ⟨HT2.out, HG2.out, HM2.out, hck⟩ ⟨rfl, rfl, by intro p hp; simp [w20Fixed] at hp; rcases hp with rfl | rfl <;> rfl⟩ ?_
  intro a w7 hb hf ho hr
  obtain ⟨v6, h6, al, hi6, l0, hl0, hs0, hal⟩ := end_k hr 7 6 (.lst (fun ys => ∃ l : List Int, l.length ≤ 10 ∧ l.all scalarB = true ∧ ys = skelL T l)) (by kernel_rfl) rfl (by kernel_rfl)
  obtain ⟨v7, h7, e7⟩ := end_k hr 8 7 (.val (.int .i64 0)) (by kernel_rfl) rfl (by kernel_rfl)
  obtain rfl : _ = v7 := Eq.symm e7
  obtain ⟨A6, c6, rfl, _⟩ := id hi6
  have HA7 := Lib.hid hi6
  have B7 := Lib.hid hb
  have hal4 : al.length ≤ 4096 := by
    have h1 := (flatD_len (decOk_of hck) l0).2
    have h2 := skelM_len (proOk_of hck) (nfdL T l0)
    rw [nfdL_length] at h2
    rw [hal, skelL_length]; omega
  have HE1 : Hid (skelR T al = (al, 0)) := Lib.hid (by
    have h := skelR_twice hck hs0 (by rw [← hal]; exact hal4)
    rw [← hal] at h; exact h)
  have HE2 : Hid (isSkB T al = true) := Lib.hid (by unfold isSkB; rw [HE1.out]; simp)
  have HT7 := Lib.hid (HT2.out.later hb)
  have HG7 := Lib.hid (HG2.out.later hb)
  have hs := hf.1
  have hd := hf.2.1
  refine hK a w7 ?_
  obtain ⟨fa, hfa, ha⟩ := act_fun hs hd
  have ea0 := (hfa 0 (by decide)).symm.trans (ho 0 (by decide) (by kernel_rfl))
  simp only [List.getElem?_toArray, List.getElem?_cons_zero, Option.some.injEq] at ea0
  have ea1 := (hfa 1 (by decide)).symm.trans (ho 1 (by decide) (by kernel_rfl))
  simp only [List.getElem?_toArray, List.getElem?_cons_zero, List.getElem?_cons_succ, Option.some.injEq] at ea1
  have ea2 := (hfa 2 (by decide)).symm.trans (ho 2 (by decide) (by kernel_rfl))
  simp only [List.getElem?_toArray, List.getElem?_cons_zero, List.getElem?_cons_succ, Option.some.injEq] at ea2
  have ea3 := (hfa 3 (by decide)).symm.trans (ho 3 (by decide) (by kernel_rfl))
  simp only [List.getElem?_toArray, List.getElem?_cons_zero, List.getElem?_cons_succ, Option.some.injEq] at ea3
  have ea4 := (hfa 4 (by decide)).symm.trans (ho 4 (by decide) (by kernel_rfl))
  simp only [List.getElem?_toArray, List.getElem?_cons_zero, List.getElem?_cons_succ, Option.some.injEq] at ea4
  have ea5 := (hfa 5 (by decide)).symm.trans (ho 5 (by decide) (by kernel_rfl))
  simp only [List.getElem?_toArray, List.getElem?_cons_zero, List.getElem?_cons_succ, Option.some.injEq] at ea5
  have ea8 := (hfa 8 (by decide)).symm.trans (ho 8 (by decide) (by kernel_rfl))
  simp only [List.getElem?_toArray, List.getElem?_cons_zero, List.getElem?_cons_succ, Option.some.injEq] at ea8
  have ea9 := (hfa 9 (by decide)).symm.trans (ho 9 (by decide) (by kernel_rfl))
  simp only [List.getElem?_toArray, List.getElem?_cons_zero, List.getElem?_cons_succ, Option.some.injEq] at ea9
  have ea10 := (hfa 10 (by decide)).symm.trans (ho 10 (by decide) (by kernel_rfl))
  simp only [List.getElem?_toArray, List.getElem?_cons_zero, List.getElem?_cons_succ, Option.some.injEq] at ea10
  have ea11 := (hfa 11 (by decide)).symm.trans (ho 11 (by decide) (by kernel_rfl))
  simp only [List.getElem?_toArray, List.getElem?_cons_zero, List.getElem?_cons_succ, Option.some.injEq] at ea11
  have ea19 := (hfa 19 (by decide)).symm.trans (ho 19 (by decide) (by kernel_rfl))
  simp only [List.getElem?_toArray, List.getElem?_cons_zero, List.getElem?_cons_succ, Option.some.injEq] at ea19
  have ea20 := (hfa 20 (by decide)).symm.trans (ho 20 (by decide) (by kernel_rfl))
  simp only [List.getElem?_toArray, List.getElem?_cons_zero, List.getElem?_cons_succ, Option.some.injEq] at ea20
  have ea21 := (hfa 21 (by decide)).symm.trans (ho 21 (by decide) (by kernel_rfl))
  simp only [List.getElem?_toArray, List.getElem?_cons_zero, List.getElem?_cons_succ, Option.some.injEq] at ea21
  have ea22 := (hfa 22 (by decide)).symm.trans (ho 22 (by decide) (by kernel_rfl))
  simp only [List.getElem?_toArray, List.getElem?_cons_zero, List.getElem?_cons_succ, Option.some.injEq] at ea22
  have ea23 := (hfa 23 (by decide)).symm.trans (ho 23 (by decide) (by kernel_rfl))
  simp only [List.getElem?_toArray, List.getElem?_cons_zero, List.getElem?_cons_succ, Option.some.injEq] at ea23
  have ea24 := (hfa 24 (by decide)).symm.trans (ho 24 (by decide) (by kernel_rfl))
  simp only [List.getElem?_toArray, List.getElem?_cons_zero, List.getElem?_cons_succ, Option.some.injEq] at ea24
  have ea25 := (hfa 25 (by decide)).symm.trans (ho 25 (by decide) (by kernel_rfl))
  simp only [List.getElem?_toArray, List.getElem?_cons_zero, List.getElem?_cons_succ, Option.some.injEq] at ea25
  have ea26 := (hfa 26 (by decide)).symm.trans (ho 26 (by decide) (by kernel_rfl))
  simp only [List.getElem?_toArray, List.getElem?_cons_zero, List.getElem?_cons_succ, Option.some.injEq] at ea26
  have ea27 := (hfa 27 (by decide)).symm.trans (ho 27 (by decide) (by kernel_rfl))
  simp only [List.getElem?_toArray, List.getElem?_cons_zero, List.getElem?_cons_succ, Option.some.injEq] at ea27
  have ea28 := (hfa 28 (by decide)).symm.trans (ho 28 (by decide) (by kernel_rfl))
  simp only [List.getElem?_toArray, List.getElem?_cons_zero, List.getElem?_cons_succ, Option.some.injEq] at ea28
  have ea29 := (hfa 29 (by decide)).symm.trans (ho 29 (by decide) (by kernel_rfl))
  simp only [List.getElem?_toArray, List.getElem?_cons_zero, List.getElem?_cons_succ, Option.some.injEq] at ea29
  have ea30 := (hfa 30 (by decide)).symm.trans (ho 30 (by decide) (by kernel_rfl))
  simp only [List.getElem?_toArray, List.getElem?_cons_zero, List.getElem?_cons_succ, Option.some.injEq] at ea30
  have ea31 := (hfa 31 (by decide)).symm.trans (ho 31 (by decide) (by kernel_rfl))
  simp only [List.getElem?_toArray, List.getElem?_cons_zero, List.getElem?_cons_succ, Option.some.injEq] at ea31
  have ea32 := (hfa 32 (by decide)).symm.trans (ho 32 (by decide) (by kernel_rfl))
  simp only [List.getElem?_toArray, List.getElem?_cons_zero, List.getElem?_cons_succ, Option.some.injEq] at ea32
  have ea33 := (hfa 33 (by decide)).symm.trans (ho 33 (by decide) (by kernel_rfl))
  simp only [List.getElem?_toArray, List.getElem?_cons_zero, List.getElem?_cons_succ, Option.some.injEq] at ea33
  have ea34 := (hfa 34 (by decide)).symm.trans (ho 34 (by decide) (by kernel_rfl))
  simp only [List.getElem?_toArray, List.getElem?_cons_zero, List.getElem?_cons_succ, Option.some.injEq] at ea34
  have ea35 := (hfa 35 (by decide)).symm.trans (ho 35 (by decide) (by kernel_rfl))
  simp only [List.getElem?_toArray, List.getElem?_cons_zero, List.getElem?_cons_succ, Option.some.injEq] at ea35
  have ea36 := (hfa 36 (by decide)).symm.trans (ho 36 (by decide) (by kernel_rfl))
  simp only [List.getElem?_toArray, List.getElem?_cons_zero, List.getElem?_cons_succ, Option.some.injEq] at ea36
  have ea37 := (hfa 37 (by decide)).symm.trans (ho 37 (by decide) (by kernel_rfl))
  simp only [List.getElem?_toArray, List.getElem?_cons_zero, List.getElem?_cons_succ, Option.some.injEq] at ea37
  have ea38 := (hfa 38 (by decide)).symm.trans (ho 38 (by decide) (by kernel_rfl))
  simp only [List.getElem?_toArray, List.getElem?_cons_zero, List.getElem?_cons_succ, Option.some.injEq] at ea38
  have ea39 := (hfa 39 (by decide)).symm.trans (ho 39 (by decide) (by kernel_rfl))
  simp only [List.getElem?_toArray, List.getElem?_cons_zero, List.getElem?_cons_succ, Option.some.injEq] at ea39
  have ea40 := (hfa 40 (by decide)).symm.trans (ho 40 (by decide) (by kernel_rfl))
  simp only [List.getElem?_toArray, List.getElem?_cons_zero, List.getElem?_cons_succ, Option.some.injEq] at ea40
  have ea41 := (hfa 41 (by decide)).symm.trans (ho 41 (by decide) (by kernel_rfl))
  simp only [List.getElem?_toArray, List.getElem?_cons_zero, List.getElem?_cons_succ, Option.some.injEq] at ea41
  have ea42 := (hfa 42 (by decide)).symm.trans (ho 42 (by decide) (by kernel_rfl))
  simp only [List.getElem?_toArray, List.getElem?_cons_zero, List.getElem?_cons_succ, Option.some.injEq] at ea42
  have ea43 := (hfa 43 (by decide)).symm.trans (ho 43 (by decide) (by kernel_rfl))
  simp only [List.getElem?_toArray, List.getElem?_cons_zero, List.getElem?_cons_succ, Option.some.injEq] at ea43
  have ea6 : fa 6 = .slice A6 al.length c6 := Option.some.inj ((hfa 6 (by decide)).symm.trans (h6))
  have ea7 : fa 7 = .int .i64 0 := Option.some.inj ((hfa 7 (by decide)).symm.trans (h7))
  have ha2 : a = ⟨#[fa 0, fa 1, fa 2, fa 3, fa 4, fa 5, fa 6, fa 7, fa 8, fa 9, fa 10, fa 11, fa 12, fa 13, fa 14, fa 15, fa 16, fa 17, fa 18, fa 19, fa 20, fa 21, fa 22, fa 23, fa 24, fa 25, fa 26, fa 27, fa 28, fa 29, fa 30, fa 31, fa 32, fa 33, fa 34, fa 35, fa 36, fa 37, fa 38, fa 39, fa 40, fa 41, fa 42, fa 43], []⟩ := ha.trans (by kernel_rfl)
  rw [ea0, ea1, ea2, ea3, ea4, ea5, ea6, ea7, ea8, ea9, ea10, ea11, ea19, ea20, ea21, ea22, ea23, ea24, ea25, ea26, ea27, ea28, ea29, ea30, ea31, ea32, ea33, ea34, ea35, ea36, ea37, ea38, ea39, ea40, ea41, ea42, ea43] at ha2
  clear ha hfa ho ea0 ea1 ea2 ea3 ea4 ea5 ea6 ea7 ea8 ea9 ea10 ea11 ea19 ea20 ea21 ea22 ea23 ea24 ea25 ea26 ea27 ea28 ea29 ea30 ea31 ea32 ea33 ea34 ea35 ea36 ea37 ea38 ea39 ea40 ea41 ea42 ea43
  subst ha2
  clear hf hr h6 h7 hs hd hi6 hK hal hl0 hs0 hck hb HM2
  have H1 := Lib.hid (fun W (h : Below w7.heap.size w7 W) => skOf_eq t T (.slice A6 al.length c6) al W _ (HT7.out.later h).2 (HG7.out.later h) (HA7.out.later h) HE1.out)
  have H2 := Lib.hid (fun W (h : Below w7.heap.size w7 W) => skIs_any t T (.slice A6 al.length c6) al W (HT7.out.later h).2 (HG7.out.later h) (HA7.out.later h))
  rw [HE2.out] at H2
  go_upto_region 3 with fail
  obtain ⟨x0, x1, x2, x3, x4, x5, x6, x7, x8, x9, x10, x11⟩ := HT7.out.1.tab
  go_upto_region 4 with (go_at_call 12; refine (H1.out _ (Below.refl _ _)).mono ?_; rintro e w8 ⟨u8, rfl, ho8, b8⟩; obtain ⟨A8, c8, rfl, _⟩ := id (Ints.of_own ho8); have HI8 := Lib.hid (Ints.of_own ho8); have B8 := Lib.hid b8; clear ho8 b8)
  clear x0 x1 x2 x3 x4 x5 x6 x7 x8 x9 x10 x11
  go_wp2_with (first
    | (go_at_call 14; refine (awake20 _ (HG7.out.later B8.out)).mono ?_; rintro e w9 ⟨rfl, b9⟩; have B9 := Lib.hid (below_next B8.out b9); have HI9 := Lib.hid (HI8.out.later b9); clear HI8 b9)
    | (go_at_call 15; refine (same_of _ _ al al _ (HA7.out.later B9.out) HI9.out rfl).mono ?_; rintro e w10 ⟨rfl, b10⟩; have B10 := Lib.hid (below_next B9.out b10); obtain ⟨x0, x1, x2, x3, x4, x5, x6, x7, x8, x9, x10, x11⟩ := (HT7.out.later B10.out).1.tab; clear b10)
    | (go_at_call 16; refine (H2.out _ B10.out).mono ?_; rintro e w11 ⟨rfl, b11⟩; have B11 := Lib.hid (below_next B10.out b11); clear b11))
  go_ret
  exact ⟨rfl, below_next HB2.out (below_next B7.out B11.out)⟩
theorem SkeletonTwice_walk (W : World) (hg : Glob W) (v : Value) (xs : List Int) (hv : Ints W W.heap.size .i64 v xs) (_ : ∀ x ∈ xs, -9223372036854775808 ≤ x ∧ x ≤ 9223372036854775807) (_ : xs.length * 8 ≤ 140737488351232) (vm : Value) (ms : List Int) (hvm : Ints W W.heap.size .i64 vm ms) (_ : ∀ x ∈ ms, -9223372036854775808 ≤ x ∧ x ≤ 9223372036854775807) (_ : ms.length * 8 ≤ 140737488351232) :
    Calls Tryd.prog 4 #[v, vm] W fun e W' => e = .returned (.bool true) ∧ Below W.heap.size W W' := SkeletonTwice_go W hg v xs hv vm ms hvm
end Go.Proofs.YtecpbicfiaifdaaDoor
