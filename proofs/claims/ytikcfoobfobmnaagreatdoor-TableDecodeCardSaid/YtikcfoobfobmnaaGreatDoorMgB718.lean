/-
  Merged texts: lemmas and walks that the last text of this claim leans on.
-/
import Derived.Test.YtikcfoobfobmnaaGreatDoorMgB717
/-
  keep.Other, case 2: a span ahead of the list of categories.
-/
namespace Go.Proofs.YtikcfoobfobmnaaGreatDoor
open Go.RowKit ND

section
variable {w : World} {a : Act} {o : Oper}
theorem run_field0 {x : Operand} {b : Nat} (ho : o.op = .fieldAddr 29 x 0) (hx : a.eval x = .pointer (some ⟨b, 0, none⟩)) : (execOp a.eval o).run Tryz.prog w = .ok (.value (.pointer (some ⟨b, 0, none⟩))) w := by
  unfold execOp
  rw [ho]
  simp only [hx]
  go_simp
theorem run_field9 {x : Operand} {b : Nat} (ho : o.op = .fieldAddr 29 x 9) (hx : a.eval x = .pointer (some ⟨b, 0, none⟩)) : (execOp a.eval o).run Tryz.prog w = .ok (.value (.pointer (some ⟨b, 9, none⟩))) w := by
  unfold execOp
  rw [ho]
  simp only [hx]
  go_simp
theorem run_load_sp {x : Operand} {b i : Nat} {v : Value} (ho : o.op = .load 26 x) (hx : a.eval x = .pointer (some ⟨b, i, none⟩)) (hc : w.cell? ⟨b, i, none⟩ = some v) : (execOp a.eval o).run Tryz.prog w = .ok (.value v) w := by
  unfold execOp
  rw [ho]
  simp only [hx]
  go_simp
theorem run_load_mp {x : Operand} {b i : Nat} {v : Value} (ho : o.op = .load 27 x) (hx : a.eval x = .pointer (some ⟨b, i, none⟩)) (hc : w.cell? ⟨b, i, none⟩ = some v) : (execOp a.eval o).run Tryz.prog w = .ok (.value v) w := by
  unfold execOp
  rw [ho]
  simp only [hx]
  go_simp
theorem run_span3 {d1 d2 : Tmp} {p q z : Int} (ho : o.op = .build 61 #[(0, .tmp d1), (1, .tmp d2), (2, .const (.int .i64 z))]) (h1 : a.tmps[d1]? = some (.int .i64 p)) (h2 : a.tmps[d2]? = some (.int .i64 q)) : (execOp a.eval o).run Tryz.prog w = .ok (.value (.agg #[.int .i64 p, .int .i64 q, .int .i64 z])) w := by
  unfold execOp
  rw [ho]
  go_simp
theorem run_store_sp {x y : Operand} {b i : Nat} {v u : Value} {t : TypeId} {cs : Array Value} (ho : o.op = .store 26 x y) (hx : a.eval x = .pointer (some ⟨b, i, none⟩)) (hy : a.eval y = v) (hv : ∃ A n c, v = .slice A n c) (hb : Blk w b t cs) (hi : cs[i]? = some u) : (execOp a.eval o).run Tryz.prog w = .ok .skip (w.setCell ⟨b, i, none⟩ v) := by
  have h1 := hb.at_ hi
  have h2 := hb.free i
  obtain ⟨A, n, c, rfl⟩ := hv
  unfold execOp
  rw [ho]
  simp only [hx, hy]
  go_simp
theorem run_store_mp {x y : Operand} {b i : Nat} {v u : Value} {t : TypeId} {cs : Array Value} (ho : o.op = .store 27 x y) (hx : a.eval x = .pointer (some ⟨b, i, none⟩)) (hy : a.eval y = v) (hv : ∃ A n c, v = .slice A n c) (hb : Blk w b t cs) (hi : cs[i]? = some u) : (execOp a.eval o).run Tryz.prog w = .ok .skip (w.setCell ⟨b, i, none⟩ v) := by
  have h1 := hb.at_ hi
  have h2 := hb.free i
  obtain ⟨A, n, c, rfl⟩ := hv
  unfold execOp
  rw [ho]
  simp only [hx, hy]
  go_simp
end
theorem own_span1 (w : World) (base : Nat) (hb : base ≤ w.heap.size) (x y z : Int) : (w.alloc (.cells #[.int .i64 x, .int .i64 y, .int .i64 z] 61)).ownsRow base 61 3 (.slice (some ⟨w.heap.size, 0, none⟩) 1 1) 1 (spCells (x, y, z)) :=
  ⟨by simp [spCells], .inr ⟨w.heap.size, 1, #[.int .i64 x, .int .i64 y, .int .i64 z], rfl, hb, heap_alloc_new w _, Nat.le_refl _, by unfold maxLen; omega, by simp, by simp [spCells]⟩⟩

abbrev nilCells : Array Value := #[.slice none 0 0, .slice none 0 0, .slice none 0 0, .slice none 0 0, .slice none 0 0, .slice none 0 0, .slice none 0 0, .slice none 0 0, .slice none 0 0, .slice none 0 0, .slice none 0 0, .slice none 0 0]
/-- Ahead of the store. -/
def C2A (xb : Nat) (W w : World) : Prop := Below (xb + 1) W w
def specs2 (tb xb : Nat) (c0 : Value) (L : List Sp) (vv p : Int) : List SpecM := [.val (.int .i64 vv), .val (.int .i64 p), .val (.int .i64 vv), .val (.int .i64 p), .val (.agg #[.int .i64 p, .int .i64 p, .int .i64 1]), .spans [(p, p, 1)], .val (.pointer (some ⟨tb, 0, none⟩)), .val c0, .spans ((p, p, 1) :: L), .val (.pointer (some ⟨xb, 0, none⟩))]
/-- The slots below 12, as they stand in keep.Other. -/
def fixedO (r : Nat → Value) (tb xb : Nat) (vv av : Int) : List (Tmp × Value) := [(0, r 0), (1, r 1), (2, .int .i64 av), (3, .int .i64 vv), (4, .pointer (some ⟨tb, 0, none⟩)), (5, r 5), (6, r 6), (7, r 7), (8, r 8), (9, .pointer (some ⟨xb, 0, none⟩)), (10, r 10), (11, r 11)]
/-- The act, as keep.Other's switch has it. -/
structure ActO (a : Act) (tb xb : Nat) (vv av : Int) : Prop where
  size : a.tmps.size = 194
  defers : a.defers = []
  s2 : a.tmps[2]? = some (.int .i64 av)
  s3 : a.tmps[3]? = some (.int .i64 vv)
  s4 : a.tmps[4]? = some (.pointer (some ⟨tb, 0, none⟩))
  s9 : a.tmps[9]? = some (.pointer (some ⟨xb, 0, none⟩))
theorem ActO.fs {a : Act} {tb xb : Nat} {vv av : Int} (h : ActO a tb xb vv av) : FS 194 [] (fixedO (fun i => (a.tmps[i]?).getD undef) tb xb vv av) a := by
  have hr : ∀ i, i < 194 → a.tmps[i]? = some ((a.tmps[i]?).getD undef) := fun i hi => by
    rw [Array.getElem?_eq_getElem (by rw [h.size]; exact hi)]; rfl
  refine ⟨h.size, h.defers, fun p hp => ?_⟩
  simp only [fixedO, List.mem_cons, List.not_mem_nil, or_false] at hp
  rcases hp with rfl | rfl | rfl | rfl | rfl | rfl | rfl | rfl | rfl | rfl | rfl | rfl
  · exact hr 0 (by decide)
  · exact hr 1 (by decide)
  · exact h.s2
  · exact h.s3
  · exact h.s4
  · exact hr 5 (by decide)
  · exact hr 6 (by decide)
  · exact hr 7 (by decide)
  · exact hr 8 (by decide)
  · exact h.s9
  · exact hr 10 (by decide)
  · exact hr 11 (by decide)
theorem ActO.split {a a' : Act} {tb xb : Nat} {vv av : Int} (h : ActO a tb xb vv av) (hf : FS 194 [] (fixedO (fun i => (a.tmps[i]?).getD undef) tb xb vv av) a') : ∃ f : Nat → Value, a' = ⟨(a.tmps.toList.take 12 ++ (List.range 182).map f).toArray, []⟩ := by
  obtain ⟨h1, h2, h3⟩ := hf
  have hr : ∀ i, i < 194 → a.tmps[i]? = some ((a.tmps[i]?).getD undef) := fun i hi => by
    rw [Array.getElem?_eq_getElem (by rw [h.size]; exact hi)]; rfl
  have hg : ∀ i, i < 12 → a'.tmps[i]? = a.tmps[i]? := fun i hi => by
    match i, hi with
    | 0, _ => exact (h3 (0, (a.tmps[0]?).getD undef) (by simp [fixedO])).trans (hr 0 (by decide)).symm
    | 1, _ => exact (h3 (1, (a.tmps[1]?).getD undef) (by simp [fixedO])).trans (hr 1 (by decide)).symm
    | 2, _ => exact (h3 (2, _) (by simp [fixedO])).trans h.s2.symm
    | 3, _ => exact (h3 (3, _) (by simp [fixedO])).trans h.s3.symm
    | 4, _ => exact (h3 (4, _) (by simp [fixedO])).trans h.s4.symm
    | 5, _ => exact (h3 (5, (a.tmps[5]?).getD undef) (by simp [fixedO])).trans (hr 5 (by decide)).symm
    | 6, _ => exact (h3 (6, (a.tmps[6]?).getD undef) (by simp [fixedO])).trans (hr 6 (by decide)).symm
    | 7, _ => exact (h3 (7, (a.tmps[7]?).getD undef) (by simp [fixedO])).trans (hr 7 (by decide)).symm
    | 8, _ => exact (h3 (8, (a.tmps[8]?).getD undef) (by simp [fixedO])).trans (hr 8 (by decide)).symm
    | 9, _ => exact (h3 (9, _) (by simp [fixedO])).trans h.s9.symm
    | 10, _ => exact (h3 (10, (a.tmps[10]?).getD undef) (by simp [fixedO])).trans (hr 10 (by decide)).symm
    | 11, _ => exact (h3 (11, (a.tmps[11]?).getD undef) (by simp [fixedO])).trans (hr 11 (by decide)).symm
    | m + 12, h => exact absurd h (by omega)
  refine ⟨fun i => (a'.tmps[i + 12]?).getD undef, ?_⟩
  obtain ⟨ts, ds⟩ := a'
  simp only at h1 h2 hg ⊢
  subst h2
  congr 1
  rw [← ts.toArray_toList]
  congr 1
  have hl : ts.toList.length = 194 := by simpa using h1
  have hla : a.tmps.toList.length = 194 := by simpa using h.size
  have h12 : (a.tmps.toList.take 12).length = 12 := by rw [List.length_take, hla]; rfl
  refine List.ext_getElem? fun i => ?_
  by_cases hi : i < 12
  · rw [List.getElem?_append_left (by rw [h12]; exact hi), List.getElem?_take, if_pos hi]
    have := hg i hi
    simpa using this
  · rw [List.getElem?_append_right (by omega), h12]
    by_cases hi2 : i < 194
    · rw [List.getElem?_map, List.getElem?_range (by omega)]
      simp only [Option.map_some]
      rw [show i - 12 + 12 = i by omega, List.getElem?_eq_getElem (by omega)]
      simp [h1, hi2]
    · rw [List.getElem?_eq_none (by omega), List.getElem?_eq_none (by simp; omega)]
section
variable {w0 W : World} {tb rb xb n : Nat} {t : Tv} {T : Tab} {vv av : Int} {r : Nat → Value} {Q : Exit → Act → World → Prop}
def Ob2 (r : Nat → Value) (av : Int) (W : World) (tb xb : Nat) (c0 : Value) (L : List Sp) (vv : Int) (Q : Exit → Act → World → Prop) (k : Nat) : Prop := ObA Tryz.prog (opsO 9) 194 [] (fixedO r tb xb vv av) (killM (specs2 tb xb c0 L vv (pick vv 300)) 8) (C2A xb W) (RM xb (specs2 tb xb c0 L vv (pick vv 300))) Q k
theorem ob2_0 : Ob2 r av W tb xb t.c0 T.category vv Q 0 := by
  intro o ho a w hA hf hd K hK
  rw [if_pos (wanted_none _ (get_op (·.guard) ho (by kernel_rfl)))]
  exact ob_move (get_op (·.op) ho (by kernel_rfl)) (eval_tmp (hf.2.2 (3, _) (by simp [fixedO]))) (hK _ _ (rm_of rfl rfl) hA (fun _ _ _ _ h => h))
theorem ob2_2 : Ob2 r av W tb xb t.c0 T.category vv Q 2 := by
  intro o ho a w hA hf hd K hK
  rw [if_pos (wanted_none _ (get_op (·.guard) ho (by kernel_rfl)))]
  exact ob_move (get_op (·.op) ho (by kernel_rfl)) (eval_tmp (hf.2.2 (3, _) (by simp [fixedO]))) (hK _ _ (rm_of rfl rfl) hA (fun _ _ _ _ h => h))
theorem ob2_1 : Ob2 r av W tb xb t.c0 T.category vv Q 1 := by
  intro o ho a w hA hf hd K hK
  rw [if_pos (wanted_none _ (get_op (·.guard) ho (by kernel_rfl)))]
  obtain ⟨v1, h1, e1⟩ := dep_m ho hd 0 55 (.val (.int .i64 vv)) (by kernel_rfl) (by kernel_rfl) rfl (by kernel_rfl)
  obtain rfl : v1 = _ := e1
  exact ob_enter (enter2 (y := .const (.int .i64 300)) (tys := #[3, 3]) (get_op (·.op) ho (by kernel_rfl)) (eval_tmp h1) rfl (fun args w => enters_of Tryz.func7 (by kernel_rfl) rfl args w)) (pick_any vv 300 w (by omega) (by omega)) fun e w' ⟨he, hw⟩ => ⟨_, he, by subst hw; exact hK _ _ (rm_of rfl rfl) hA (fun _ _ _ _ h => h)⟩
theorem ob2_3 : Ob2 r av W tb xb t.c0 T.category vv Q 3 := by
  intro o ho a w hA hf hd K hK
  rw [if_pos (wanted_none _ (get_op (·.guard) ho (by kernel_rfl)))]
  obtain ⟨v1, h1, e1⟩ := dep_m ho hd 2 57 (.val (.int .i64 vv)) (by kernel_rfl) (by kernel_rfl) rfl (by kernel_rfl)
  obtain rfl : v1 = _ := e1
  exact ob_enter (enter2 (y := .const (.int .i64 300)) (tys := #[3, 3]) (get_op (·.op) ho (by kernel_rfl)) (eval_tmp h1) rfl (fun args w => enters_of Tryz.func7 (by kernel_rfl) rfl args w)) (pick_any vv 300 w (by omega) (by omega)) fun e w' ⟨he, hw⟩ => ⟨_, he, by subst hw; exact hK _ _ (rm_of rfl rfl) hA (fun _ _ _ _ h => h)⟩
theorem ob2_4 : Ob2 r av W tb xb t.c0 T.category vv Q 4 := by
  intro o ho a w hA hf hd K hK
  rw [if_pos (wanted_none _ (get_op (·.guard) ho (by kernel_rfl)))]
  obtain ⟨v1, h1, e1⟩ := dep_m ho hd 1 56 (.val (.int .i64 (pick vv 300))) (by kernel_rfl) (by kernel_rfl) rfl (by kernel_rfl)
  obtain rfl : v1 = _ := e1
  obtain ⟨v2, h2, e2⟩ := dep_m ho hd 3 58 (.val (.int .i64 (pick vv 300))) (by kernel_rfl) (by kernel_rfl) rfl (by kernel_rfl)
  obtain rfl : v2 = _ := e2
  exact ob_value (run_span3 (get_op (·.op) ho (by kernel_rfl)) h1 h2) (hK _ _ (rm_of rfl rfl) hA (fun _ _ _ _ h => h))
theorem ob2_5 (hW : xb + 1 ≤ W.heap.size) : Ob2 r av W tb xb t.c0 T.category vv Q 5 := by
  intro o ho a w hA hf hd K hK
  rw [if_pos (wanted_none _ (get_op (·.guard) ho (by kernel_rfl)))]
  obtain ⟨v1, h1, e1⟩ := dep_m ho hd 4 59 (.val (.agg #[.int .i64 (pick vv 300), .int .i64 (pick vv 300), .int .i64 1])) (by kernel_rfl) (by kernel_rfl) rfl (by kernel_rfl)
  obtain rfl : v1 = _ := e1
  have hs := hA.size
  exact ob_run (run_span1 (get_op (·.op) ho (by kernel_rfl)) h1) (hK _ _ (rm_of rfl (own_span1 w _ (by omega) _ _ _)) (hA.alloc (by omega) _) (fun _ _ _ _ h => h.later ((Below.refl _ _).alloc (Nat.le_refl _) _)))
theorem ob2_6 : Ob2 r av W tb xb t.c0 T.category vv Q 6 := by
  intro o ho a w hA hf hd K hK
  rw [if_pos (wanted_none _ (get_op (·.guard) ho (by kernel_rfl)))]
  exact ob_value (run_field0 (get_op (·.op) ho (by kernel_rfl)) (eval_tmp (hf.2.2 (4, _) (by simp [fixedO])))) (hK _ _ (rm_of rfl rfl) hA (fun _ _ _ _ h => h))
theorem ob2_7 (hTB : Blk W tb 29 t.cells) (hlt : tb < xb) : Ob2 r av W tb xb t.c0 T.category vv Q 7 := by
  intro o ho a w hA hf hd K hK
  rw [if_pos (wanted_none _ (get_op (·.guard) ho (by kernel_rfl)))]
  obtain ⟨v1, h1, e1⟩ := dep_m ho hd 6 61 (.val (.pointer (some ⟨tb, 0, none⟩))) (by kernel_rfl) (by kernel_rfl) rfl (by kernel_rfl)
  obtain rfl : v1 = _ := e1
  exact ob_value (run_load_sp (get_op (·.op) ho (by kernel_rfl)) (eval_tmp h1) ((hTB.below hA (by omega)).at_ (i := 0) rfl)) (hK _ _ (rm_of rfl rfl) hA (fun _ _ _ _ h => h))
theorem ob2_8 {B : Nat} (hW : xb + 1 ≤ W.heap.size) (hS : Spans W B t.c0 T.category) (hB : B ≤ xb) (hl : T.category.length ≤ 1000) : Ob2 r av W tb xb t.c0 T.category vv Q 8 := by
  intro o ho a w hA hf hd K hK
  rw [if_pos (wanted_none _ (get_op (·.guard) ho (by kernel_rfl)))]
  obtain ⟨v1, h1, e1⟩ := dep_m ho hd 5 60 (.spans [(pick vv 300, pick vv 300, 1)]) (by kernel_rfl) (by kernel_rfl) rfl (by kernel_rfl)
  obtain ⟨v2, h2, e2⟩ := dep_m ho hd 7 62 (.val t.c0) (by kernel_rfl) (by kernel_rfl) rfl (by kernel_rfl)
  obtain rfl : v2 = _ := e2
  have hs := hA.size
  obtain ⟨i0, hi, hz, hz1, hz2⟩ := info_parts Tryz.infoSpan
  refine ob_app_spans (.tmp 60) (.tmp 62) (get_op (·.op) ho (by kernel_rfl)) Tryz.underlying26 hi hz hz1 hz2 (xb + 1) v1 t.c0 [(pick vv 300, pick vv 300, 1)] T.category B (eval_tmp h1) (eval_tmp h2) e1 (hS.below (hA.mono (by omega))) (by simp; omega) (by omega) fun v' w' hv' hg => ?_
  exact hK _ _ (rm_of rfl hv') (hA.grown hg (by omega) (fun k hk => (e1.lt k hk).1)) (fun _ _ hne h hr => rm_kept hne h hr)
theorem ob2_9 : Ob2 r av W tb xb t.c0 T.category vv Q 9 := by
  intro o ho a w hA hf hd K hK
  rw [if_pos (wanted_none _ (get_op (·.guard) ho (by kernel_rfl)))]
  exact ob_value (run_field0 (get_op (·.op) ho (by kernel_rfl)) (eval_tmp (hf.2.2 (9, _) (by simp [fixedO])))) (hK _ _ (rm_of rfl rfl) hA (fun _ _ _ _ h => h))
theorem ob2_10 (HX : Blk W xb 29 t.cells) (HR : Blk W rb 29 nilCells) (hrx : rb < xb) (ht : TabR w0 w0.heap.size t T) (hn : ShortT n T) (hb0 : Below w0.heap.size w0 W) (h0 : w0.heap.size ≤ xb) : ObB Tryz.prog (opsO 9) 194 [] (fixedO r tb xb vv av) (killM (specs2 tb xb t.c0 T.category vv (pick vv 300)) 8) (C2A xb W) (OthR w0 xb rb n) (RM xb (specs2 tb xb t.c0 T.category vv (pick vv 300))) Q 10 := by
  intro o ho a w hA hf hd K hK
  rw [if_pos (wanted_none _ (get_op (·.guard) ho (by kernel_rfl)))]
  obtain ⟨v1, h1, e1⟩ := dep_m ho hd 9 64 (.val (.pointer (some ⟨xb, 0, none⟩))) (by kernel_rfl) (by kernel_rfl) rfl (by kernel_rfl)
  obtain rfl : v1 = _ := e1
  obtain ⟨v2, h2, e2⟩ := dep_m ho hd 8 63 (.spans ((pick vv 300, pick vv 300, 1) :: T.category)) (by kernel_rfl) (by kernel_rfl) rfl (by kernel_rfl)
  have hX := HX.below hA (by omega)
  exact ob_skip (run_store_sp (get_op (·.op) ho (by kernel_rfl)) (eval_tmp h1) (eval_tmp h2) (own_slice e2) hX (i := 0) rfl) (hK _ _ (oth0 ht hn (by have := hn.c0; simp; omega) (hb0.trans (hA.mono (by omega))) h0 hX (HR.below hA (by omega)) (by omega) e2 (by omega)))
end
/-- The region of case 2. -/
theorem other_case2 {w0 W : World} {a : Act} {tb rb xb n : Nat} {t : Tv} {T : Tab} {vv av : Int} {Q : Exit → Act → World → Prop} (ha : ActO a tb xb vv av) (HT : Blk W tb 29 t.cells) (htx : tb < xb) (HX : Blk W xb 29 t.cells) (HR : Blk W rb 29 nilCells) (hrx : rb < xb) (ht : TabR w0 w0.heap.size t T) (hn : ShortT n T) (hn2 : n ≤ 1000) (hb0 : Below w0.heap.size w0 W) (h0 : w0.heap.size ≤ xb)
    (hend : ∀ (f : Nat → Value) w, OthR w0 xb rb n w → Q .normal ⟨(a.tmps.toList.take 12 ++ (List.range 182).map f).toArray, []⟩ w) : (Code.region 9 (opsO 9) true).wp Tryz.prog Q a W := by
  have hsz := HX.lt
  refine wp_region_store (ds := []) (fixed := fixedO (fun i => (a.tmps[i]?).getD undef) tb xb vv av) (n := 194) (killM (specs2 tb xb t.c0 T.category vv (pick vv 300)) 8) (C2A xb W.drew) (OthR w0 xb rb n) (RM xb (specs2 tb xb t.c0 T.category vv (pick vv 300))) 10 (by kernel_rfl) (by kernel_rfl) (by kernel_rfl) (by kernel_rfl) (by kernel_rfl) (fun i j h => kill_lt h (by rw [show (opsO 9).size = 11 by kernel_rfl]; decide)) ha.fs (Below.refl _ _) (fun i hi => ?_) (ob2_10 (W := W.drew) HX HR hrx ht hn hb0.drew h0) (fun a' w h hf => by obtain ⟨f, rfl⟩ := ha.split hf; exact hend f w h)
  have hS : Spans W.drew w0.heap.size t.c0 T.category := ht.r0.below hb0.drew
  match i, hi with
  | 0, _ => exact ob2_0
  | 1, _ => exact ob2_1
  | 2, _ => exact ob2_2
  | 3, _ => exact ob2_3
  | 4, _ => exact ob2_4
  | 5, _ => exact ob2_5 (by have := HX.drew.lt; omega)
  | 6, _ => exact ob2_6
  | 7, _ => exact ob2_7 HT htx
  | 8, _ => exact ob2_8 (by have := HX.drew.lt; omega) hS h0 (Nat.le_trans hn.c0 hn2)
  | 9, _ => exact ob2_9
end Go.Proofs.YtikcfoobfobmnaaGreatDoor
/-
  keep.Other, case 9: two decompositions behind the others.
-/
namespace Go.Proofs.YtikcfoobfobmnaaGreatDoor
open Go.RowKit ND

section
variable {w : World} {a : Act} {o : Oper}
theorem run_ints3 (x y z : Int) (ho : o.op = .buildSlice 22 3 #[(0, .const (.int .i64 x)), (1, .const (.int .i64 y)), (2, .const (.int .i64 z))]) : (execOp a.eval o).run Tryz.prog w = .ok (.value (.slice (some ⟨w.heap.size, 0, none⟩) 3 3)) (w.alloc (.cells #[.int .i64 x, .int .i64 y, .int .i64 z] 3)) := by
  unfold execOp
  rw [ho]
  go_simp
theorem run_ints2 {d : Tmp} {y : Int} (x : Int) (ho : o.op = .buildSlice 22 2 #[(0, .const (.int .i64 x)), (1, .tmp d)]) (hd : a.tmps[d]? = some (.int .i64 y)) : (execOp a.eval o).run Tryz.prog w = .ok (.value (.slice (some ⟨w.heap.size, 0, none⟩) 2 2)) (w.alloc (.cells #[.int .i64 x, .int .i64 y] 3)) := by
  unfold execOp
  rw [ho]
  go_simp
theorem run_pair {d : Tmp} {k : Nat} (x : Int) (ho : o.op = .build 51 #[(0, .const (.int .i64 x)), (1, .tmp d)]) (hd : a.tmps[d]? = some (.slice (some ⟨k, 0, none⟩) 2 2)) : (execOp a.eval o).run Tryz.prog w = .ok (.value (.agg #[.int .i64 x, .slice (some ⟨k, 0, none⟩) 2 2])) w := by
  unfold execOp
  rw [ho]
  go_simp
theorem run_pairs {d d' : Tmp} {k k' : Nat} {x x' : Int} (ho : o.op = .buildSlice 27 2 #[(0, .tmp d), (1, .tmp d')]) (hd : a.tmps[d]? = some (.agg #[.int .i64 x, .slice (some ⟨k, 0, none⟩) 2 2])) (hd' : a.tmps[d']? = some (.agg #[.int .i64 x', .slice (some ⟨k', 0, none⟩) 2 2])) : (execOp a.eval o).run Tryz.prog w = .ok (.value (.slice (some ⟨w.heap.size, 0, none⟩) 2 2)) (w.alloc (.cells #[.int .i64 x, .slice (some ⟨k, 0, none⟩) 2 2, .int .i64 x', .slice (some ⟨k', 0, none⟩) 2 2] 51)) := by
  unfold execOp
  rw [ho]
  go_simp
theorem run_at {x y : Operand} {k j n : Nat} (ho : o.op = .indexAddr 22 x y) (hx : a.eval x = .slice (some ⟨k, 0, none⟩) n n) (hy : a.eval y = .int .i64 (j : Int)) (hj : j < n) : (execOp a.eval o).run Tryz.prog w = .ok (.value (.pointer (some ⟨k, j, none⟩))) w := by
  have h0 : (0 : Int) ≤ (j : Int) := by omega
  have h1 : (j : Int) < (n : Int) := by omega
  unfold execOp
  rw [ho]
  simp only [hx, hy]
  go_simp
theorem run_load_int {x : Operand} {b i : Nat} {n : Int} (ho : o.op = .load 3 x) (hx : a.eval x = .pointer (some ⟨b, i, none⟩)) (hc : w.cell? ⟨b, i, none⟩ = some (.int .i64 n)) : (execOp a.eval o).run Tryz.prog w = .ok (.value (.int .i64 n)) w := by
  unfold execOp
  rw [ho]
  simp only [hx]
  go_simp
end
theorem lit_new (w : World) (xb : Nat) (hb : xb < w.heap.size) (xs : List Int) (n : Nat) (hn : xs.length = n) : LitI xb xs (.slice (some ⟨w.heap.size, 0, none⟩) n n) (w.alloc (.cells (xs.map (Value.int .i64)).toArray 3)) :=
  ⟨w.heap.size, by rw [hn], Blk.new _ _ _, hb⟩
theorem LitI.ints {S : List Nat} {xb base : Nat} {xs : List Int} {v u : Value} {w : World} {size n : Nat} {ys : List Value} (h : LitI xb xs v w) (hS : ∀ x ∈ S, x ≤ xb) (hu : w.ownsRow base 51 size u n ys) (hl : xs.length ≤ 1000000) : Ints (veil (S ++ u.ownBlock.toList) w) w.heap.size .i64 v xs := by
  obtain ⟨k, rfl, hk, hx⟩ := h
  refine ⟨some ⟨k, 0, none⟩, xs.length, rfl, Nat.le_refl _, by unfold maxLen; omega, (by intro h; cases h), fun i x hi => ⟨_, rfl, by have := hk.lt; simpa using this, ?_⟩⟩
  have hn' : k ∉ S ++ u.ownBlock.toList := fun hx' => by
    rcases List.mem_append.1 hx' with hx' | hx'
    · have := hS _ hx'; omega
    · rw [Option.mem_toList] at hx'
      exact own_ne hu hk (by decide) hx'
  have e : Addr.add ⟨k, 0, none⟩ i = ⟨k, i, none⟩ := by cases i <;> simp [Addr.add]
  rw [e, cell_veil (by exact hn')]
  exact hk.at_ (lit_at hi)

def F9 (x y : Int) : List Mp := [(131072, [97, x]), (131073, [97, y])]
def specs9 (tb xb : Nat) (c9 : Value) (D : List Mp) (vv av : Int) (i j : Nat) (x y : Int) : List SpecM := [.val (.pointer (some ⟨tb, 9, none⟩)), .val c9, .maps D, .lit [769, 776, 803], .val (.int .i64 vv), .val (.int .i64 (i : Int)), .cellI x, .val (.int .i64 x), .lit [97, x], .pair 131072 [97, x], .lit [769, 776, 803], .val (.int .i64 av), .val (.int .i64 (j : Int)), .cellI y, .val (.int .i64 y), .lit [97, y], .pair 131073 [97, y], .pairs (F9 x y), .maps (D ++ F9 x y), .val (.pointer (some ⟨xb, 9, none⟩))]
section
variable {w0 W : World} {tb rb xb n : Nat} {t : Tv} {T : Tab} {vv av : Int} {i j : Nat} {x y : Int} {r : Nat → Value} {Q : Exit → Act → World → Prop}
def Ob9 (r : Nat → Value) (W : World) (tb xb : Nat) (c9 : Value) (D : List Mp) (vv av : Int) (i j : Nat) (x y : Int) (Q : Exit → Act → World → Prop) (k : Nat) : Prop := ObA Tryz.prog (opsO 23) 194 [] (fixedO r tb xb vv av) (killM (specs9 tb xb c9 D vv av i j x y) 18) (C2A xb W) (RM xb (specs9 tb xb c9 D vv av i j x y)) Q k
theorem ob9_0 : Ob9 r W tb xb t.c9 T.decomps vv av i j x y Q 0 := by
  intro o ho a w hA hf hd K hK
  rw [if_pos (wanted_none _ (get_op (·.guard) ho (by kernel_rfl)))]
  exact ob_value (run_field9 (get_op (·.op) ho (by kernel_rfl)) (eval_tmp (hf.2.2 (4, _) (by simp [fixedO])))) (hK _ _ (rm_of rfl rfl) hA (fun _ _ _ _ h => h))
theorem ob9_1 (hTB : Blk W tb 29 t.cells) (hlt : tb < xb) : Ob9 r W tb xb t.c9 T.decomps vv av i j x y Q 1 := by
  intro o ho a w hA hf hd K hK
  rw [if_pos (wanted_none _ (get_op (·.guard) ho (by kernel_rfl)))]
  obtain ⟨v1, h1, e1⟩ := dep_m ho hd 0 152 (.val (.pointer (some ⟨tb, 9, none⟩))) (by kernel_rfl) (by kernel_rfl) rfl (by kernel_rfl)
  obtain rfl : v1 = _ := e1
  exact ob_value (run_load_mp (get_op (·.op) ho (by kernel_rfl)) (eval_tmp h1) ((hTB.below hA (by omega)).at_ (i := 9) rfl)) (hK _ _ (rm_of rfl rfl) hA (fun _ _ _ _ h => h))
theorem ob9_2 {B : Nat} (hW : xb + 1 ≤ W.heap.size) (hS : Mapps W B t.c9 T.decomps) (hB : B ≤ xb) (hl : T.decomps.length ≤ 1000) : Ob9 r W tb xb t.c9 T.decomps vv av i j x y Q 2 := by
  intro o ho a w hA hf hd K hK
  obtain ⟨v1, h1, e1⟩ := dep_m ho hd 1 153 (.val t.c9) (by kernel_rfl) (by kernel_rfl) rfl (by kernel_rfl)
  obtain rfl : v1 = _ := e1
  have hs := hA.size
  obtain ⟨i0, hi, hz, hz1, hz2⟩ := info_parts Tryz.infoMap
  refine step_copy_map (get_op (·.guard) ho (by kernel_rfl)) (.const (.slice none 0 0)) (.tmp 153) (get_op (·.op) ho (by kernel_rfl)) Tryz.underlying27 hi _ hz hz1 hz2 rfl [xb] (xb + 1) B t.c9 T.decomps (by simp; omega) rfl (eval_tmp h1) (hS.below (hA.mono (by omega))) (by omega) (by omega) (by omega) fun v' w' hv' hg => ?_
  exact hK _ _ (rm_of rfl hv') (hA.grown hg (by omega) (fun k hk => by cases hk)) (fun _ _ _ _ h => h.later ((Below.refl _ _).grown hg (Nat.le_refl _) (fun k hk => by cases hk)))
theorem ob9_3 (hW : xb + 1 ≤ W.heap.size) : Ob9 r W tb xb t.c9 T.decomps vv av i j x y Q 3 := by
  intro o ho a w hA hf hd K hK
  rw [if_pos (wanted_none _ (get_op (·.guard) ho (by kernel_rfl)))]
  have hs := hA.size
  exact ob_run (run_ints3 769 776 803 (get_op (·.op) ho (by kernel_rfl))) (hK _ _ (rm_of rfl (lit_new w xb (by omega) [769, 776, 803] 3 rfl)) (hA.alloc (by omega) _) (fun _ _ _ _ h => h.later ((Below.refl _ _).alloc (Nat.le_refl _) _)))
theorem ob9_10 (hW : xb + 1 ≤ W.heap.size) : Ob9 r W tb xb t.c9 T.decomps vv av i j x y Q 10 := by
  intro o ho a w hA hf hd K hK
  rw [if_pos (wanted_none _ (get_op (·.guard) ho (by kernel_rfl)))]
  have hs := hA.size
  exact ob_run (run_ints3 769 776 803 (get_op (·.op) ho (by kernel_rfl))) (hK _ _ (rm_of rfl (lit_new w xb (by omega) [769, 776, 803] 3 rfl)) (hA.alloc (by omega) _) (fun _ _ _ _ h => h.later ((Below.refl _ _).alloc (Nat.le_refl _) _)))
theorem ob9_4 : Ob9 r W tb xb t.c9 T.decomps vv av i j x y Q 4 := by
  intro o ho a w hA hf hd K hK
  rw [if_pos (wanted_none _ (get_op (·.guard) ho (by kernel_rfl)))]
  exact ob_move (get_op (·.op) ho (by kernel_rfl)) (eval_tmp (hf.2.2 (3, _) (by simp [fixedO]))) (hK _ _ (rm_of rfl rfl) hA (fun _ _ _ _ h => h))
theorem ob9_11 : Ob9 r W tb xb t.c9 T.decomps vv av i j x y Q 11 := by
  intro o ho a w hA hf hd K hK
  rw [if_pos (wanted_none _ (get_op (·.guard) ho (by kernel_rfl)))]
  exact ob_move (get_op (·.op) ho (by kernel_rfl)) (eval_tmp (hf.2.2 (2, _) (by simp [fixedO]))) (hK _ _ (rm_of rfl rfl) hA (fun _ _ _ _ h => h))
theorem ob9_5 (hp : pick vv 3 = (i : Int)) : Ob9 r W tb xb t.c9 T.decomps vv av i j x y Q 5 := by
  intro o ho a w hA hf hd K hK
  rw [if_pos (wanted_none _ (get_op (·.guard) ho (by kernel_rfl)))]
  obtain ⟨v1, h1, e1⟩ := dep_m ho hd 4 156 (.val (.int .i64 vv)) (by kernel_rfl) (by kernel_rfl) rfl (by kernel_rfl)
  obtain rfl : v1 = _ := e1
  exact ob_enter (enter2 (y := .const (.int .i64 3)) (tys := #[3, 3]) (get_op (·.op) ho (by kernel_rfl)) (eval_tmp h1) rfl (fun args w => enters_of Tryz.func7 (by kernel_rfl) rfl args w)) (pick_any vv 3 w (by omega) (by omega)) fun e w' ⟨he, hw⟩ => ⟨_, he, by subst hw; exact hK _ _ (rm_of rfl (by rw [hp]; rfl)) hA (fun _ _ _ _ h => h)⟩
theorem ob9_12 (hp : pick av 3 = (j : Int)) : Ob9 r W tb xb t.c9 T.decomps vv av i j x y Q 12 := by
  intro o ho a w hA hf hd K hK
  rw [if_pos (wanted_none _ (get_op (·.guard) ho (by kernel_rfl)))]
  obtain ⟨v1, h1, e1⟩ := dep_m ho hd 11 163 (.val (.int .i64 av)) (by kernel_rfl) (by kernel_rfl) rfl (by kernel_rfl)
  obtain rfl : v1 = _ := e1
  exact ob_enter (enter2 (y := .const (.int .i64 3)) (tys := #[3, 3]) (get_op (·.op) ho (by kernel_rfl)) (eval_tmp h1) rfl (fun args w => enters_of Tryz.func7 (by kernel_rfl) rfl args w)) (pick_any av 3 w (by omega) (by omega)) fun e w' ⟨he, hw⟩ => ⟨_, he, by subst hw; exact hK _ _ (rm_of rfl (by rw [hp]; rfl)) hA (fun _ _ _ _ h => h)⟩
theorem ob9_6 (hx : ([769, 776, 803] : List Int)[i]? = some x) : Ob9 r W tb xb t.c9 T.decomps vv av i j x y Q 6 := by
  intro o ho a w hA hf hd K hK
  rw [if_pos (wanted_none _ (get_op (·.guard) ho (by kernel_rfl)))]
  obtain ⟨v1, h1, e1⟩ := dep_m ho hd 3 155 (.lit [769, 776, 803]) (by kernel_rfl) (by kernel_rfl) rfl (by kernel_rfl)
  obtain ⟨v2, h2, e2⟩ := dep_m ho hd 5 157 (.val (.int .i64 (i : Int))) (by kernel_rfl) (by kernel_rfl) rfl (by kernel_rfl)
  obtain rfl : v2 = _ := e2
  obtain ⟨k, rfl, hk, hkx⟩ := e1
  exact ob_value (run_at (get_op (·.op) ho (by kernel_rfl)) (eval_tmp h1) (eval_tmp h2) (List.getElem?_eq_some_iff.1 hx).1) (hK _ _ (rm_of rfl ⟨k, i, _, rfl, hk, lit_at hx, hkx⟩) hA (fun _ _ _ _ h => h))
theorem ob9_13 (hx : ([769, 776, 803] : List Int)[j]? = some y) : Ob9 r W tb xb t.c9 T.decomps vv av i j x y Q 13 := by
  intro o ho a w hA hf hd K hK
  rw [if_pos (wanted_none _ (get_op (·.guard) ho (by kernel_rfl)))]
  obtain ⟨v1, h1, e1⟩ := dep_m ho hd 10 162 (.lit [769, 776, 803]) (by kernel_rfl) (by kernel_rfl) rfl (by kernel_rfl)
  obtain ⟨v2, h2, e2⟩ := dep_m ho hd 12 164 (.val (.int .i64 (j : Int))) (by kernel_rfl) (by kernel_rfl) rfl (by kernel_rfl)
  obtain rfl : v2 = _ := e2
  obtain ⟨k, rfl, hk, hkx⟩ := e1
  exact ob_value (run_at (get_op (·.op) ho (by kernel_rfl)) (eval_tmp h1) (eval_tmp h2) (List.getElem?_eq_some_iff.1 hx).1) (hK _ _ (rm_of rfl ⟨k, j, _, rfl, hk, lit_at hx, hkx⟩) hA (fun _ _ _ _ h => h))
theorem ob9_7 : Ob9 r W tb xb t.c9 T.decomps vv av i j x y Q 7 := by
  intro o ho a w hA hf hd K hK
  rw [if_pos (wanted_none _ (get_op (·.guard) ho (by kernel_rfl)))]
  obtain ⟨v1, h1, e1⟩ := dep_m ho hd 6 158 (.cellI x) (by kernel_rfl) (by kernel_rfl) rfl (by kernel_rfl)
  obtain ⟨k, i', cs, rfl, hk, hc, hkx⟩ := e1
  exact ob_value (run_load_int (get_op (·.op) ho (by kernel_rfl)) (eval_tmp h1) (hk.at_ hc)) (hK _ _ (rm_of rfl rfl) hA (fun _ _ _ _ h => h))
theorem ob9_14 : Ob9 r W tb xb t.c9 T.decomps vv av i j x y Q 14 := by
  intro o ho a w hA hf hd K hK
  rw [if_pos (wanted_none _ (get_op (·.guard) ho (by kernel_rfl)))]
  obtain ⟨v1, h1, e1⟩ := dep_m ho hd 13 165 (.cellI y) (by kernel_rfl) (by kernel_rfl) rfl (by kernel_rfl)
  obtain ⟨k, i', cs, rfl, hk, hc, hkx⟩ := e1
  exact ob_value (run_load_int (get_op (·.op) ho (by kernel_rfl)) (eval_tmp h1) (hk.at_ hc)) (hK _ _ (rm_of rfl rfl) hA (fun _ _ _ _ h => h))
theorem ob9_8 (hW : xb + 1 ≤ W.heap.size) : Ob9 r W tb xb t.c9 T.decomps vv av i j x y Q 8 := by
  intro o ho a w hA hf hd K hK
  rw [if_pos (wanted_none _ (get_op (·.guard) ho (by kernel_rfl)))]
  obtain ⟨v1, h1, e1⟩ := dep_m ho hd 7 159 (.val (.int .i64 x)) (by kernel_rfl) (by kernel_rfl) rfl (by kernel_rfl)
  obtain rfl : v1 = _ := e1
  have hs := hA.size
  exact ob_run (run_ints2 97 (get_op (·.op) ho (by kernel_rfl)) h1) (hK _ _ (rm_of rfl (lit_new w xb (by omega) [97, x] 2 rfl)) (hA.alloc (by omega) _) (fun _ _ _ _ h => h.later ((Below.refl _ _).alloc (Nat.le_refl _) _)))
theorem ob9_15 (hW : xb + 1 ≤ W.heap.size) : Ob9 r W tb xb t.c9 T.decomps vv av i j x y Q 15 := by
  intro o ho a w hA hf hd K hK
  rw [if_pos (wanted_none _ (get_op (·.guard) ho (by kernel_rfl)))]
  obtain ⟨v1, h1, e1⟩ := dep_m ho hd 14 166 (.val (.int .i64 y)) (by kernel_rfl) (by kernel_rfl) rfl (by kernel_rfl)
  obtain rfl : v1 = _ := e1
  have hs := hA.size
  exact ob_run (run_ints2 97 (get_op (·.op) ho (by kernel_rfl)) h1) (hK _ _ (rm_of rfl (lit_new w xb (by omega) [97, y] 2 rfl)) (hA.alloc (by omega) _) (fun _ _ _ _ h => h.later ((Below.refl _ _).alloc (Nat.le_refl _) _)))
theorem ob9_9 : Ob9 r W tb xb t.c9 T.decomps vv av i j x y Q 9 := by
  intro o ho a w hA hf hd K hK
  rw [if_pos (wanted_none _ (get_op (·.guard) ho (by kernel_rfl)))]
  obtain ⟨v1, h1, e1⟩ := dep_m ho hd 8 160 (.lit [97, x]) (by kernel_rfl) (by kernel_rfl) rfl (by kernel_rfl)
  obtain ⟨k, rfl, hk, hkx⟩ := e1
  exact ob_value (run_pair 131072 (get_op (·.op) ho (by kernel_rfl)) h1) (hK _ _ (rm_of rfl ⟨_, rfl, k, rfl, hk, hkx⟩) hA (fun _ _ _ _ h => h))
theorem ob9_16 : Ob9 r W tb xb t.c9 T.decomps vv av i j x y Q 16 := by
  intro o ho a w hA hf hd K hK
  rw [if_pos (wanted_none _ (get_op (·.guard) ho (by kernel_rfl)))]
  obtain ⟨v1, h1, e1⟩ := dep_m ho hd 15 167 (.lit [97, y]) (by kernel_rfl) (by kernel_rfl) rfl (by kernel_rfl)
  obtain ⟨k, rfl, hk, hkx⟩ := e1
  exact ob_value (run_pair 131073 (get_op (·.op) ho (by kernel_rfl)) h1) (hK _ _ (rm_of rfl ⟨_, rfl, k, rfl, hk, hkx⟩) hA (fun _ _ _ _ h => h))
theorem ob9_17 (hW : xb + 1 ≤ W.heap.size) : Ob9 r W tb xb t.c9 T.decomps vv av i j x y Q 17 := by
  intro o ho a w hA hf hd K hK
  rw [if_pos (wanted_none _ (get_op (·.guard) ho (by kernel_rfl)))]
  obtain ⟨v1, h1, e1⟩ := dep_m ho hd 9 161 (.pair 131072 [97, x]) (by kernel_rfl) (by kernel_rfl) rfl (by kernel_rfl)
  obtain ⟨v2, h2, e2⟩ := dep_m ho hd 16 168 (.pair 131073 [97, y]) (by kernel_rfl) (by kernel_rfl) rfl (by kernel_rfl)
  have hs := hA.size
  obtain ⟨u, rfl, k, rfl, hk, hkx⟩ := e1
  obtain ⟨u', rfl, k', rfl, hk', hkx'⟩ := e2
  have hbl : Below w.heap.size w (w.alloc (.cells #[.int .i64 131072, .slice (some ⟨k, 0, none⟩) 2 2, .int .i64 131073, .slice (some ⟨k', 0, none⟩) 2 2] 51)) := (Below.refl _ _).alloc (Nat.le_refl _) _
  refine ob_run (run_pairs (get_op (·.op) ho (by kernel_rfl)) h1 h2) (hK _ _ (rm_of rfl ⟨w.heap.size, [(131072, .slice (some ⟨k, 0, none⟩) 2 2), (131073, .slice (some ⟨k', 0, none⟩) 2 2)], rfl, Blk.new _ _ _, by omega, rfl, fun m p d hp hd => ?_⟩) (hA.alloc (by omega) _) (fun _ _ _ _ h => h.later ((Below.refl _ _).alloc (Nat.le_refl _) _)))
  match m, hp, hd with
  | 0, hp, hd => cases hp; cases hd; exact ⟨k, rfl, hk.later hbl, hkx⟩
  | 1, hp, hd => cases hp; cases hd; exact ⟨k', rfl, hk'.later hbl, hkx'⟩
  | _ + 2, hp, hd => simp at hp
theorem ob9_18 (hW : xb + 1 ≤ W.heap.size) (hl : T.decomps.length ≤ 1000) : Ob9 r W tb xb t.c9 T.decomps vv av i j x y Q 18 := by
  intro o ho a w hA hf hd K hK
  obtain ⟨v1, h1, e1⟩ := dep_m ho hd 2 154 (.maps T.decomps) (by kernel_rfl) (by kernel_rfl) rfl (by kernel_rfl)
  obtain ⟨v2, h2, e2⟩ := dep_m ho hd 17 169 (.pairs (F9 x y)) (by kernel_rfl) (by kernel_rfl) rfl (by kernel_rfl)
  have hs := hA.size
  obtain ⟨k, us, rfl, hk, hkx, hm, hr⟩ := e2
  obtain ⟨i0, hi, hz, hz1, hz2⟩ := info_parts Tryz.infoMap
  obtain ⟨ps, _, _, hown, _⟩ := id e1
  refine step_app_maps (get_op (·.guard) ho (by kernel_rfl)) (.tmp 154) (.tmp 169) (get_op (·.op) ho (by kernel_rfl)) Tryz.underlying27 hi _ hz hz1 hz2 rfl [xb] (xb + 1) v1 T.decomps (F9 x y) k us (eval_tmp h1) (eval_tmp h2) e1 hk hm (fun m p d hp hd => (hr m p d hp hd).ints (by simp) hown ?_) (by simp [F9]) (by simp [F9]; omega) (by omega) fun v' w' hv' hg _ _ => ?_
  · have := List.mem_of_getElem? hd
    simp [F9] at this
    rcases this with rfl | rfl <;> simp
  · exact hK _ _ (rm_of rfl hv') (hA.grown hg (by omega) (fun k hk => (hown.lt k hk).1)) (fun _ _ hne h hr => rm_kept hne h hr)
theorem ob9_19 : Ob9 r W tb xb t.c9 T.decomps vv av i j x y Q 19 := by
  intro o ho a w hA hf hd K hK
  rw [if_pos (wanted_none _ (get_op (·.guard) ho (by kernel_rfl)))]
  exact ob_value (run_field9 (get_op (·.op) ho (by kernel_rfl)) (eval_tmp (hf.2.2 (9, _) (by simp [fixedO])))) (hK _ _ (rm_of rfl rfl) hA (fun _ _ _ _ h => h))
theorem ob9_20 (HX : Blk W xb 29 t.cells) (HR : Blk W rb 29 nilCells) (hrx : rb < xb) (ht : TabR w0 w0.heap.size t T) (hn : ShortT n T) (hb0 : Below w0.heap.size w0 W) (h0 : w0.heap.size ≤ xb) : ObB Tryz.prog (opsO 23) 194 [] (fixedO r tb xb vv av) (killM (specs9 tb xb t.c9 T.decomps vv av i j x y) 18) (C2A xb W) (OthR w0 xb rb n) (RM xb (specs9 tb xb t.c9 T.decomps vv av i j x y)) Q 20 := by
  intro o ho a w hA hf hd K hK
  rw [if_pos (wanted_none _ (get_op (·.guard) ho (by kernel_rfl)))]
  obtain ⟨v1, h1, e1⟩ := dep_m ho hd 19 171 (.val (.pointer (some ⟨xb, 9, none⟩))) (by kernel_rfl) (by kernel_rfl) rfl (by kernel_rfl)
  obtain rfl : v1 = _ := e1
  obtain ⟨v2, h2, e2⟩ := dep_m ho hd 18 170 (.maps (T.decomps ++ F9 x y)) (by kernel_rfl) (by kernel_rfl) rfl (by kernel_rfl)
  have hX := HX.below hA (by omega)
  obtain ⟨ps, _, _, hown, _⟩ := id e2
  exact ob_skip (run_store_mp (get_op (·.op) ho (by kernel_rfl)) (eval_tmp h1) (eval_tmp h2) (own_slice hown) hX (i := 9) rfl) (hK _ _ (oth9 ht hn (by have := hn.c9; simp [F9]; omega) (hb0.trans (hA.mono (by omega))) h0 hX (HR.below hA (by omega)) (by omega) e2 (by omega)))
end
/-- The region of case 9. -/
theorem other_case9 {w0 W : World} {a : Act} {tb rb xb n : Nat} {t : Tv} {T : Tab} {vv av : Int} {Q : Exit → Act → World → Prop} (ha : ActO a tb xb vv av) (HT : Blk W tb 29 t.cells) (htx : tb < xb) (HX : Blk W xb 29 t.cells) (HR : Blk W rb 29 nilCells) (hrx : rb < xb) (ht : TabR w0 w0.heap.size t T) (hn : ShortT n T) (hn2 : n ≤ 1000) (hb0 : Below w0.heap.size w0 W) (h0 : w0.heap.size ≤ xb)
    (hend : ∀ (f : Nat → Value) w, OthR w0 xb rb n w → Q .normal ⟨(a.tmps.toList.take 12 ++ (List.range 182).map f).toArray, []⟩ w) : (Code.region 23 (opsO 23) true).wp Tryz.prog Q a W := by
  obtain ⟨p0, p1⟩ := pick_in vv (n := 3) (by decide)
  obtain ⟨q0, q1⟩ := pick_in av (n := 3) (by decide)
  obtain ⟨i, hpi⟩ := Int.eq_ofNat_of_zero_le p0
  obtain ⟨j, hpj⟩ := Int.eq_ofNat_of_zero_le q0
  have hi3 : i < ([769, 776, 803] : List Int).length := by show i < 3; omega
  have hj3 : j < ([769, 776, 803] : List Int).length := by show j < 3; omega
  obtain ⟨x, hx, _⟩ := get_of hi3
  obtain ⟨y, hy, _⟩ := get_of hj3
  refine wp_region_store (ds := []) (fixed := fixedO (fun i => (a.tmps[i]?).getD undef) tb xb vv av) (n := 194) (killM (specs9 tb xb t.c9 T.decomps vv av i j x y) 18) (C2A xb W.drew) (OthR w0 xb rb n) (RM xb (specs9 tb xb t.c9 T.decomps vv av i j x y)) 20 (by kernel_rfl) (by kernel_rfl) (by kernel_rfl) (by kernel_rfl) (by kernel_rfl) (fun i j h => kill_lt h (by rw [show (opsO 23).size = 21 by kernel_rfl]; decide)) ha.fs (Below.refl _ _) (fun i hi => ?_) (ob9_20 (W := W.drew) HX HR hrx ht hn hb0.drew h0) (fun a' w h hf => by obtain ⟨f, rfl⟩ := ha.split hf; exact hend f w h)
  have hS : Mapps W.drew w0.heap.size t.c9 T.decomps := ht.r9.below hb0.drew
  have hW : xb + 1 ≤ W.drew.heap.size := by have := HX.drew.lt; omega
  have hl : T.decomps.length ≤ 1000 := Nat.le_trans hn.c9 hn2
  match i, hi with
  | 0, _ => exact ob9_0
  | 1, _ => exact ob9_1 HT htx
  | 2, _ => exact ob9_2 hW hS h0 hl
  | 3, _ => exact ob9_3 hW
  | 4, _ => exact ob9_4
  | 5, _ => exact ob9_5 hpi
  | 6, _ => exact ob9_6 hx
  | 7, _ => exact ob9_7
  | 8, _ => exact ob9_8 hW
  | 9, _ => exact ob9_9
  | 10, _ => exact ob9_10 hW
  | 11, _ => exact ob9_11
  | 12, _ => exact ob9_12 hpj
  | 13, _ => exact ob9_13 hy
  | 14, _ => exact ob9_14
  | 15, _ => exact ob9_15 hW
  | 16, _ => exact ob9_16
  | 17, _ => exact ob9_17 hW
  | 18, _ => exact ob9_18 hW hl
  | 19, _ => exact ob9_19
  | m + 20, h => exact absurd h (by omega)
end Go.Proofs.YtikcfoobfobmnaaGreatDoor
