/-
  Merged texts: lemmas and walks that the last text of this claim leans on.
-/
import Derived.Test.YtneinkpfhkojgaaGreatDoorMgZ133
import Derived.Test.YtneinkpfhkojgaaGreatDoorMgZ131
import Derived.Deep.LoopGhost
import Derived.BigQuiet
import Derived.Shelf.Abstract
/-
  keep.Other, case 2: a span ahead of the list of categories.
-/
namespace Go.Proofs.YtneinkpfhkojgaaGreatDoor
open Go.RowKit ND

section
variable {w : World} {a : Act} {o : Oper}
theorem run_field0 {x : Operand} {b : Nat} (ho : o.op = .fieldAddr 26 x 0) (hx : a.eval x = .pointer (some ⟨b, 0, none⟩)) : (execOp a.eval o).run Tryz.prog w = .ok (.value (.pointer (some ⟨b, 0, none⟩))) w := by
  unfold execOp
  rw [ho]
  simp only [hx]
  go_simp
theorem run_field9 {x : Operand} {b : Nat} (ho : o.op = .fieldAddr 26 x 9) (hx : a.eval x = .pointer (some ⟨b, 0, none⟩)) : (execOp a.eval o).run Tryz.prog w = .ok (.value (.pointer (some ⟨b, 9, none⟩))) w := by
  unfold execOp
  rw [ho]
  simp only [hx]
  go_simp
theorem run_load_sp {x : Operand} {b i : Nat} {v : Value} (ho : o.op = .load 23 x) (hx : a.eval x = .pointer (some ⟨b, i, none⟩)) (hc : w.cell? ⟨b, i, none⟩ = some v) : (execOp a.eval o).run Tryz.prog w = .ok (.value v) w := by
  unfold execOp
  rw [ho]
  simp only [hx]
  go_simp
theorem run_load_mp {x : Operand} {b i : Nat} {v : Value} (ho : o.op = .load 24 x) (hx : a.eval x = .pointer (some ⟨b, i, none⟩)) (hc : w.cell? ⟨b, i, none⟩ = some v) : (execOp a.eval o).run Tryz.prog w = .ok (.value v) w := by
  unfold execOp
  rw [ho]
  simp only [hx]
  go_simp
theorem run_span3 {d1 d2 : Tmp} {p q z : Int} (ho : o.op = .build 42 #[(0, .tmp d1), (1, .tmp d2), (2, .const (.int .i64 z))]) (h1 : a.tmps[d1]? = some (.int .i64 p)) (h2 : a.tmps[d2]? = some (.int .i64 q)) : (execOp a.eval o).run Tryz.prog w = .ok (.value (.agg #[.int .i64 p, .int .i64 q, .int .i64 z])) w := by
  unfold execOp
  rw [ho]
  go_simp
theorem run_store_sp {x y : Operand} {b i : Nat} {v u : Value} {t : TypeId} {cs : Array Value} (ho : o.op = .store 23 x y) (hx : a.eval x = .pointer (some ⟨b, i, none⟩)) (hy : a.eval y = v) (hv : ∃ A n c, v = .slice A n c) (hb : Blk w b t cs) (hi : cs[i]? = some u) : (execOp a.eval o).run Tryz.prog w = .ok .skip (w.setCell ⟨b, i, none⟩ v) := by
  have h1 := hb.at_ hi
  have h2 := hb.free i
  obtain ⟨A, n, c, rfl⟩ := hv
  unfold execOp
  rw [ho]
  simp only [hx, hy]
  go_simp
theorem run_store_mp {x y : Operand} {b i : Nat} {v u : Value} {t : TypeId} {cs : Array Value} (ho : o.op = .store 24 x y) (hx : a.eval x = .pointer (some ⟨b, i, none⟩)) (hy : a.eval y = v) (hv : ∃ A n c, v = .slice A n c) (hb : Blk w b t cs) (hi : cs[i]? = some u) : (execOp a.eval o).run Tryz.prog w = .ok .skip (w.setCell ⟨b, i, none⟩ v) := by
  have h1 := hb.at_ hi
  have h2 := hb.free i
  obtain ⟨A, n, c, rfl⟩ := hv
  unfold execOp
  rw [ho]
  simp only [hx, hy]
  go_simp
end
theorem own_span1 (w : World) (base : Nat) (hb : base ≤ w.heap.size) (x y z : Int) : (w.alloc (.cells #[.int .i64 x, .int .i64 y, .int .i64 z] 42)).ownsRow base 42 3 (.slice (some ⟨w.heap.size, 0, none⟩) 1 1) 1 (spCells (x, y, z)) :=
  ⟨by simp [spCells], .inr ⟨w.heap.size, 1, #[.int .i64 x, .int .i64 y, .int .i64 z], rfl, hb, heap_alloc_new w _, Nat.le_refl _, by unfold maxLen; omega, by simp, by simp [spCells]⟩⟩

abbrev nilCells : Array Value := #[.slice none 0 0, .slice none 0 0, .slice none 0 0, .slice none 0 0, .slice none 0 0, .slice none 0 0, .slice none 0 0, .slice none 0 0, .slice none 0 0, .slice none 0 0, .slice none 0 0, .slice none 0 0]
/-- Ahead of the store. -/
def C2A (xb : Nat) (W w : World) : Prop := Below (xb + 1) W w
def specs2 (tb xb : Nat) (c0 : Value) (L : List Sp) (vv p : Int) : List SpecM := [.val (.int .i64 vv), .val (.int .i64 p), .val (.int .i64 vv), .val (.int .i64 p), .val (.agg #[.int .i64 p, .int .i64 p, .int .i64 1]), .spans [(p, p, 1)], .val (.pointer (some ⟨tb, 0, none⟩)), .val c0, .spans ((p, p, 1) :: L), .val (.pointer (some ⟨xb, 0, none⟩))]
/-- The slots below 12, as they stand in keep.Other. -/
def fixedO (r : Nat → Value) (tb xb : Nat) (vv av : Int) : List (Tmp × Value) := [(0, r 0), (1, r 1), (2, .int .i64 av), (3, .int .i64 vv), (4, .pointer (some ⟨tb, 0, none⟩)), (5, r 5), (6, r 6), (7, r 7), (8, r 8), (9, .pointer (some ⟨xb, 0, none⟩)), (10, r 10), (11, r 11)]
/-- The act, as keep.Other's switch has it. -/
structure ActO (a : Act) (tb xb : Nat) (vv av : Int) : Prop where
  size : a.tmps.size = 194
  defers : a.defers = []
  s2 : a.tmps[2]? = some (.int .i64 av)
  s3 : a.tmps[3]? = some (.int .i64 vv)
  s4 : a.tmps[4]? = some (.pointer (some ⟨tb, 0, none⟩))
  s9 : a.tmps[9]? = some (.pointer (some ⟨xb, 0, none⟩))
theorem ActO.fs {a : Act} {tb xb : Nat} {vv av : Int} (h : ActO a tb xb vv av) : FS 194 [] (fixedO (fun i => (a.tmps[i]?).getD undef) tb xb vv av) a := by
  have hr : ∀ i, i < 194 → a.tmps[i]? = some ((a.tmps[i]?).getD undef) := fun i hi => by
    rw [Array.getElem?_eq_getElem (by rw [h.size]; exact hi)]; rfl
  refine ⟨h.size, h.defers, fun p hp => ?_⟩
  simp only [fixedO, List.mem_cons, List.not_mem_nil, or_false] at hp
  rcases hp with rfl | rfl | rfl | rfl | rfl | rfl | rfl | rfl | rfl | rfl | rfl | rfl
  · exact hr 0 (by decide)
  · exact hr 1 (by decide)
  · exact h.s2
  · exact h.s3
  · exact h.s4
  · exact hr 5 (by decide)
  · exact hr 6 (by decide)
  · exact hr 7 (by decide)
  · exact hr 8 (by decide)
  · exact h.s9
  · exact hr 10 (by decide)
  · exact hr 11 (by decide)
theorem ActO.split {a a' : Act} {tb xb : Nat} {vv av : Int} (h : ActO a tb xb vv av) (hf : FS 194 [] (fixedO (fun i => (a.tmps[i]?).getD undef) tb xb vv av) a') : ∃ f : Nat → Value, a' = ⟨(a.tmps.toList.take 12 ++ (List.range 182).map f).toArray, []⟩ := by
  obtain ⟨h1, h2, h3⟩ := hf
  have hr : ∀ i, i < 194 → a.tmps[i]? = some ((a.tmps[i]?).getD undef) := fun i hi => by
    rw [Array.getElem?_eq_getElem (by rw [h.size]; exact hi)]; rfl
  have hg : ∀ i, i < 12 → a'.tmps[i]? = a.tmps[i]? := fun i hi => by
    match i, hi with
    | 0, _ => exact (h3 (0, (a.tmps[0]?).getD undef) (by simp [fixedO])).trans (hr 0 (by decide)).symm
    | 1, _ => exact (h3 (1, (a.tmps[1]?).getD undef) (by simp [fixedO])).trans (hr 1 (by decide)).symm
    | 2, _ => exact (h3 (2, _) (by simp [fixedO])).trans h.s2.symm
    | 3, _ => exact (h3 (3, _) (by simp [fixedO])).trans h.s3.symm
    | 4, _ => exact (h3 (4, _) (by simp [fixedO])).trans h.s4.symm
    | 5, _ => exact (h3 (5, (a.tmps[5]?).getD undef) (by simp [fixedO])).trans (hr 5 (by decide)).symm
    | 6, _ => exact (h3 (6, (a.tmps[6]?).getD undef) (by simp [fixedO])).trans (hr 6 (by decide)).symm
    | 7, _ => exact (h3 (7, (a.tmps[7]?).getD undef) (by simp [fixedO])).trans (hr 7 (by decide)).symm
    | 8, _ => exact (h3 (8, (a.tmps[8]?).getD undef) (by simp [fixedO])).trans (hr 8 (by decide)).symm
    | 9, _ => exact (h3 (9, _) (by simp [fixedO])).trans h.s9.symm
    | 10, _ => exact (h3 (10, (a.tmps[10]?).getD undef) (by simp [fixedO])).trans (hr 10 (by decide)).symm
    | 11, _ => exact (h3 (11, (a.tmps[11]?).getD undef) (by simp [fixedO])).trans (hr 11 (by decide)).symm
    | m + 12, h => exact absurd h (by omega)
  refine ⟨fun i => (a'.tmps[i + 12]?).getD undef, ?_⟩
  obtain ⟨ts, ds⟩ := a'
  simp only at h1 h2 hg ⊢
  subst h2
  congr 1
  rw [← ts.toArray_toList]
  congr 1
  have hl : ts.toList.length = 194 := by simpa using h1
  have hla : a.tmps.toList.length = 194 := by simpa using h.size
  have h12 : (a.tmps.toList.take 12).length = 12 := by rw [List.length_take, hla]; rfl
  refine List.ext_getElem? fun i => ?_
  by_cases hi : i < 12
  · rw [List.getElem?_append_left (by rw [h12]; exact hi), List.getElem?_take, if_pos hi]
    have := hg i hi
    simpa using this
  · rw [List.getElem?_append_right (by omega), h12]
    by_cases hi2 : i < 194
    · rw [List.getElem?_map, List.getElem?_range (by omega)]
      simp only [Option.map_some]
      rw [show i - 12 + 12 = i by omega, List.getElem?_eq_getElem (by omega)]
      simp [h1, hi2]
    · rw [List.getElem?_eq_none (by omega), List.getElem?_eq_none (by simp; omega)]
section
variable {w0 W : World} {tb rb xb n : Nat} {t : Tv} {T : Tab} {vv av : Int} {r : Nat → Value} {Q : Exit → Act → World → Prop}
def Ob2 (r : Nat → Value) (av : Int) (W : World) (tb xb : Nat) (c0 : Value) (L : List Sp) (vv : Int) (Q : Exit → Act → World → Prop) (k : Nat) : Prop := ObA Tryz.prog (opsO 9) 194 [] (fixedO r tb xb vv av) (killM (specs2 tb xb c0 L vv (pick vv 300)) 8) (C2A xb W) (RM xb (specs2 tb xb c0 L vv (pick vv 300))) Q k
theorem ob2_0 : Ob2 r av W tb xb t.c0 T.category vv Q 0 := by
  intro o ho a w hA hf hd K hK
  rw [if_pos (wanted_none _ (get_op (·.guard) ho (by kernel_rfl)))]
  exact ob_move (get_op (·.op) ho (by kernel_rfl)) (eval_tmp (hf.2.2 (3, _) (by simp [fixedO]))) (hK _ _ (rm_of rfl rfl) hA (fun _ _ _ _ h => h))
theorem ob2_2 : Ob2 r av W tb xb t.c0 T.category vv Q 2 := by
  intro o ho a w hA hf hd K hK
  rw [if_pos (wanted_none _ (get_op (·.guard) ho (by kernel_rfl)))]
  exact ob_move (get_op (·.op) ho (by kernel_rfl)) (eval_tmp (hf.2.2 (3, _) (by simp [fixedO]))) (hK _ _ (rm_of rfl rfl) hA (fun _ _ _ _ h => h))
theorem ob2_1 : Ob2 r av W tb xb t.c0 T.category vv Q 1 := by
  intro o ho a w hA hf hd K hK
  rw [if_pos (wanted_none _ (get_op (·.guard) ho (by kernel_rfl)))]
  obtain ⟨v1, h1, e1⟩ := dep_m ho hd 0 55 (.val (.int .i64 vv)) (by kernel_rfl) (by kernel_rfl) rfl (by kernel_rfl)
  obtain rfl : v1 = _ := e1
  exact ob_enter (enter2 (y := .const (.int .i64 300)) (tys := #[3, 3]) (get_op (·.op) ho (by kernel_rfl)) (eval_tmp h1) rfl (fun args w => enters_of Tryz.func29 (by kernel_rfl) rfl args w)) (pick_any vv 300 w (by omega) (by omega)) fun e w' ⟨he, hw⟩ => ⟨_, he, by subst hw; exact hK _ _ (rm_of rfl rfl) hA (fun _ _ _ _ h => h)⟩
theorem ob2_3 : Ob2 r av W tb xb t.c0 T.category vv Q 3 := by
  intro o ho a w hA hf hd K hK
  rw [if_pos (wanted_none _ (get_op (·.guard) ho (by kernel_rfl)))]
  obtain ⟨v1, h1, e1⟩ := dep_m ho hd 2 57 (.val (.int .i64 vv)) (by kernel_rfl) (by kernel_rfl) rfl (by kernel_rfl)
  obtain rfl : v1 = _ := e1
  exact ob_enter (enter2 (y := .const (.int .i64 300)) (tys := #[3, 3]) (get_op (·.op) ho (by kernel_rfl)) (eval_tmp h1) rfl (fun args w => enters_of Tryz.func29 (by kernel_rfl) rfl args w)) (pick_any vv 300 w (by omega) (by omega)) fun e w' ⟨he, hw⟩ => ⟨_, he, by subst hw; exact hK _ _ (rm_of rfl rfl) hA (fun _ _ _ _ h => h)⟩
theorem ob2_4 : Ob2 r av W tb xb t.c0 T.category vv Q 4 := by
  intro o ho a w hA hf hd K hK
  rw [if_pos (wanted_none _ (get_op (·.guard) ho (by kernel_rfl)))]
  obtain ⟨v1, h1, e1⟩ := dep_m ho hd 1 56 (.val (.int .i64 (pick vv 300))) (by kernel_rfl) (by kernel_rfl) rfl (by kernel_rfl)
  obtain rfl : v1 = _ := e1
  obtain ⟨v2, h2, e2⟩ := dep_m ho hd 3 58 (.val (.int .i64 (pick vv 300))) (by kernel_rfl) (by kernel_rfl) rfl (by kernel_rfl)
  obtain rfl : v2 = _ := e2
  exact ob_value (run_span3 (get_op (·.op) ho (by kernel_rfl)) h1 h2) (hK _ _ (rm_of rfl rfl) hA (fun _ _ _ _ h => h))
theorem ob2_5 (hW : xb + 1 ≤ W.heap.size) : Ob2 r av W tb xb t.c0 T.category vv Q 5 := by
  intro o ho a w hA hf hd K hK
  rw [if_pos (wanted_none _ (get_op (·.guard) ho (by kernel_rfl)))]
  obtain ⟨v1, h1, e1⟩ := dep_m ho hd 4 59 (.val (.agg #[.int .i64 (pick vv 300), .int .i64 (pick vv 300), .int .i64 1])) (by kernel_rfl) (by kernel_rfl) rfl (by kernel_rfl)
  obtain rfl : v1 = _ := e1
  have hs := hA.size
  exact ob_run (run_span1 (get_op (·.op) ho (by kernel_rfl)) h1) (hK _ _ (rm_of rfl (own_span1 w _ (by omega) _ _ _)) (hA.alloc (by omega) _) (fun _ _ _ _ h => h.later ((Below.refl _ _).alloc (Nat.le_refl _) _)))
theorem ob2_6 : Ob2 r av W tb xb t.c0 T.category vv Q 6 := by
  intro o ho a w hA hf hd K hK
  rw [if_pos (wanted_none _ (get_op (·.guard) ho (by kernel_rfl)))]
  exact ob_value (run_field0 (get_op (·.op) ho (by kernel_rfl)) (eval_tmp (hf.2.2 (4, _) (by simp [fixedO])))) (hK _ _ (rm_of rfl rfl) hA (fun _ _ _ _ h => h))
theorem ob2_7 (hTB : Blk W tb 26 t.cells) (hlt : tb < xb) : Ob2 r av W tb xb t.c0 T.category vv Q 7 := by
  intro o ho a w hA hf hd K hK
  rw [if_pos (wanted_none _ (get_op (·.guard) ho (by kernel_rfl)))]
  obtain ⟨v1, h1, e1⟩ := dep_m ho hd 6 61 (.val (.pointer (some ⟨tb, 0, none⟩))) (by kernel_rfl) (by kernel_rfl) rfl (by kernel_rfl)
  obtain rfl : v1 = _ := e1
  exact ob_value (run_load_sp (get_op (·.op) ho (by kernel_rfl)) (eval_tmp h1) ((hTB.below hA (by omega)).at_ (i := 0) rfl)) (hK _ _ (rm_of rfl rfl) hA (fun _ _ _ _ h => h))
theorem ob2_8 {B : Nat} (hW : xb + 1 ≤ W.heap.size) (hS : Spans W B t.c0 T.category) (hB : B ≤ xb) (hl : T.category.length ≤ 1000) : Ob2 r av W tb xb t.c0 T.category vv Q 8 := by
  intro o ho a w hA hf hd K hK
  rw [if_pos (wanted_none _ (get_op (·.guard) ho (by kernel_rfl)))]
  obtain ⟨v1, h1, e1⟩ := dep_m ho hd 5 60 (.spans [(pick vv 300, pick vv 300, 1)]) (by kernel_rfl) (by kernel_rfl) rfl (by kernel_rfl)
  obtain ⟨v2, h2, e2⟩ := dep_m ho hd 7 62 (.val t.c0) (by kernel_rfl) (by kernel_rfl) rfl (by kernel_rfl)
  obtain rfl : v2 = _ := e2
  have hs := hA.size
  obtain ⟨i0, hi, hz, hz1, hz2⟩ := info_parts Tryz.infoSpan
  refine ob_app_spans (.tmp 60) (.tmp 62) (get_op (·.op) ho (by kernel_rfl)) Tryz.underlying23 hi hz hz1 hz2 (xb + 1) v1 t.c0 [(pick vv 300, pick vv 300, 1)] T.category B (eval_tmp h1) (eval_tmp h2) e1 (hS.below (hA.mono (by omega))) (by simp; omega) (by omega) fun v' w' hv' hg => ?_
  exact hK _ _ (rm_of rfl hv') (hA.grown hg (by omega) (fun k hk => (e1.lt k hk).1)) (fun _ _ hne h hr => rm_kept hne h hr)
theorem ob2_9 : Ob2 r av W tb xb t.c0 T.category vv Q 9 := by
  intro o ho a w hA hf hd K hK
  rw [if_pos (wanted_none _ (get_op (·.guard) ho (by kernel_rfl)))]
  exact ob_value (run_field0 (get_op (·.op) ho (by kernel_rfl)) (eval_tmp (hf.2.2 (9, _) (by simp [fixedO])))) (hK _ _ (rm_of rfl rfl) hA (fun _ _ _ _ h => h))
theorem ob2_10 (HX : Blk W xb 26 t.cells) (HR : Blk W rb 26 nilCells) (hrx : rb < xb) (ht : TabR w0 w0.heap.size t T) (hn : ShortT n T) (hb0 : Below w0.heap.size w0 W) (h0 : w0.heap.size ≤ xb) : ObB Tryz.prog (opsO 9) 194 [] (fixedO r tb xb vv av) (killM (specs2 tb xb t.c0 T.category vv (pick vv 300)) 8) (C2A xb W) (OthR w0 xb rb n) (RM xb (specs2 tb xb t.c0 T.category vv (pick vv 300))) Q 10 := by
  intro o ho a w hA hf hd K hK
  rw [if_pos (wanted_none _ (get_op (·.guard) ho (by kernel_rfl)))]
  obtain ⟨v1, h1, e1⟩ := dep_m ho hd 9 64 (.val (.pointer (some ⟨xb, 0, none⟩))) (by kernel_rfl) (by kernel_rfl) rfl (by kernel_rfl)
  obtain rfl : v1 = _ := e1
  obtain ⟨v2, h2, e2⟩ := dep_m ho hd 8 63 (.spans ((pick vv 300, pick vv 300, 1) :: T.category)) (by kernel_rfl) (by kernel_rfl) rfl (by kernel_rfl)
  have hX := HX.below hA (by omega)
  exact ob_skip (run_store_sp (get_op (·.op) ho (by kernel_rfl)) (eval_tmp h1) (eval_tmp h2) (own_slice e2) hX (i := 0) rfl) (hK _ _ (oth0 ht hn (by have := hn.c0; simp; omega) (hb0.trans (hA.mono (by omega))) h0 hX (HR.below hA (by omega)) (by omega) e2 (by omega)))
end
/-- The region of case 2. -/
theorem other_case2 {w0 W : World} {a : Act} {tb rb xb n : Nat} {t : Tv} {T : Tab} {vv av : Int} {Q : Exit → Act → World → Prop} (ha : ActO a tb xb vv av) (HT : Blk W tb 26 t.cells) (htx : tb < xb) (HX : Blk W xb 26 t.cells) (HR : Blk W rb 26 nilCells) (hrx : rb < xb) (ht : TabR w0 w0.heap.size t T) (hn : ShortT n T) (hn2 : n ≤ 1000) (hb0 : Below w0.heap.size w0 W) (h0 : w0.heap.size ≤ xb)
    (hend : ∀ (f : Nat → Value) w, OthR w0 xb rb n w → Q .normal ⟨(a.tmps.toList.take 12 ++ (List.range 182).map f).toArray, []⟩ w) : (Code.region 9 (opsO 9) true).wp Tryz.prog Q a W := by
  have hsz := HX.lt
  refine wp_region_store (ds := []) (fixed := fixedO (fun i => (a.tmps[i]?).getD undef) tb xb vv av) (n := 194) (killM (specs2 tb xb t.c0 T.category vv (pick vv 300)) 8) (C2A xb W.drew) (OthR w0 xb rb n) (RM xb (specs2 tb xb t.c0 T.category vv (pick vv 300))) 10 (by kernel_rfl) (by kernel_rfl) (by kernel_rfl) (by kernel_rfl) (by kernel_rfl) (fun i j h => kill_lt h (by rw [show (opsO 9).size = 11 by kernel_rfl]; decide)) ha.fs (Below.refl _ _) (fun i hi => ?_) (ob2_10 (W := W.drew) HX HR hrx ht hn hb0.drew h0) (fun a' w h hf => by obtain ⟨f, rfl⟩ := ha.split hf; exact hend f w h)
  have hS : Spans W.drew w0.heap.size t.c0 T.category := ht.r0.below hb0.drew
  match i, hi with
  | 0, _ => exact ob2_0
  | 1, _ => exact ob2_1
  | 2, _ => exact ob2_2
  | 3, _ => exact ob2_3
  | 4, _ => exact ob2_4
  | 5, _ => exact ob2_5 (by have := HX.drew.lt; omega)
  | 6, _ => exact ob2_6
  | 7, _ => exact ob2_7 HT htx
  | 8, _ => exact ob2_8 (by have := HX.drew.lt; omega) hS h0 (Nat.le_trans hn.c0 hn2)
  | 9, _ => exact ob2_9
end Go.Proofs.YtneinkpfhkojgaaGreatDoor
/-
  keep.Other, case 9: two decompositions behind the others.
-/
namespace Go.Proofs.YtneinkpfhkojgaaGreatDoor
open Go.RowKit ND

section
variable {w : World} {a : Act} {o : Oper}
theorem run_ints3 (x y z : Int) (ho : o.op = .buildSlice 22 3 #[(0, .const (.int .i64 x)), (1, .const (.int .i64 y)), (2, .const (.int .i64 z))]) : (execOp a.eval o).run Tryz.prog w = .ok (.value (.slice (some ⟨w.heap.size, 0, none⟩) 3 3)) (w.alloc (.cells #[.int .i64 x, .int .i64 y, .int .i64 z] 3)) := by
  unfold execOp
  rw [ho]
  go_simp
theorem run_ints2 {d : Tmp} {y : Int} (x : Int) (ho : o.op = .buildSlice 22 2 #[(0, .const (.int .i64 x)), (1, .tmp d)]) (hd : a.tmps[d]? = some (.int .i64 y)) : (execOp a.eval o).run Tryz.prog w = .ok (.value (.slice (some ⟨w.heap.size, 0, none⟩) 2 2)) (w.alloc (.cells #[.int .i64 x, .int .i64 y] 3)) := by
  unfold execOp
  rw [ho]
  go_simp
theorem run_pair {d : Tmp} {k : Nat} (x : Int) (ho : o.op = .build 49 #[(0, .const (.int .i64 x)), (1, .tmp d)]) (hd : a.tmps[d]? = some (.slice (some ⟨k, 0, none⟩) 2 2)) : (execOp a.eval o).run Tryz.prog w = .ok (.value (.agg #[.int .i64 x, .slice (some ⟨k, 0, none⟩) 2 2])) w := by
  unfold execOp
  rw [ho]
  go_simp
theorem run_pairs {d d' : Tmp} {k k' : Nat} {x x' : Int} (ho : o.op = .buildSlice 24 2 #[(0, .tmp d), (1, .tmp d')]) (hd : a.tmps[d]? = some (.agg #[.int .i64 x, .slice (some ⟨k, 0, none⟩) 2 2])) (hd' : a.tmps[d']? = some (.agg #[.int .i64 x', .slice (some ⟨k', 0, none⟩) 2 2])) : (execOp a.eval o).run Tryz.prog w = .ok (.value (.slice (some ⟨w.heap.size, 0, none⟩) 2 2)) (w.alloc (.cells #[.int .i64 x, .slice (some ⟨k, 0, none⟩) 2 2, .int .i64 x', .slice (some ⟨k', 0, none⟩) 2 2] 49)) := by
  unfold execOp
  rw [ho]
  go_simp
theorem run_at {x y : Operand} {k j n : Nat} (ho : o.op = .indexAddr 22 x y) (hx : a.eval x = .slice (some ⟨k, 0, none⟩) n n) (hy : a.eval y = .int .i64 (j : Int)) (hj : j < n) : (execOp a.eval o).run Tryz.prog w = .ok (.value (.pointer (some ⟨k, j, none⟩))) w := by
  have h0 : (0 : Int) ≤ (j : Int) := by omega
  have h1 : (j : Int) < (n : Int) := by omega
  unfold execOp
  rw [ho]
  simp only [hx, hy]
  go_simp
theorem run_load_int {x : Operand} {b i : Nat} {n : Int} (ho : o.op = .load 3 x) (hx : a.eval x = .pointer (some ⟨b, i, none⟩)) (hc : w.cell? ⟨b, i, none⟩ = some (.int .i64 n)) : (execOp a.eval o).run Tryz.prog w = .ok (.value (.int .i64 n)) w := by
  unfold execOp
  rw [ho]
  simp only [hx]
  go_simp
end
theorem lit_new (w : World) (xb : Nat) (hb : xb < w.heap.size) (xs : List Int) (n : Nat) (hn : xs.length = n) : LitI xb xs (.slice (some ⟨w.heap.size, 0, none⟩) n n) (w.alloc (.cells (xs.map (Value.int .i64)).toArray 3)) :=
  ⟨w.heap.size, by rw [hn], Blk.new _ _ _, hb⟩
theorem LitI.ints {S : List Nat} {xb base : Nat} {xs : List Int} {v u : Value} {w : World} {size n : Nat} {ys : List Value} (h : LitI xb xs v w) (hS : ∀ x ∈ S, x ≤ xb) (hu : w.ownsRow base 49 size u n ys) (hl : xs.length ≤ 1000000) : Ints (veil (S ++ u.ownBlock.toList) w) w.heap.size .i64 v xs := by
  obtain ⟨k, rfl, hk, hx⟩ := h
  refine ⟨some ⟨k, 0, none⟩, xs.length, rfl, Nat.le_refl _, by unfold maxLen; omega, (by intro h; cases h), fun i x hi => ⟨_, rfl, by have := hk.lt; simpa using this, ?_⟩⟩
  have hn' : k ∉ S ++ u.ownBlock.toList := fun hx' => by
    rcases List.mem_append.1 hx' with hx' | hx'
    · have := hS _ hx'; omega
    · rw [Option.mem_toList] at hx'
      exact own_ne hu hk (by decide) hx'
  have e : Addr.add ⟨k, 0, none⟩ i = ⟨k, i, none⟩ := by cases i <;> simp [Addr.add]
  rw [e, cell_veil (by exact hn')]
  exact hk.at_ (lit_at hi)

def F9 (x y : Int) : List Mp := [(131072, [97, x]), (131073, [97, y])]
def specs9 (tb xb : Nat) (c9 : Value) (D : List Mp) (vv av : Int) (i j : Nat) (x y : Int) : List SpecM := [.val (.pointer (some ⟨tb, 9, none⟩)), .val c9, .maps D, .lit [769, 776, 803], .val (.int .i64 vv), .val (.int .i64 (i : Int)), .cellI x, .val (.int .i64 x), .lit [97, x], .pair 131072 [97, x], .lit [769, 776, 803], .val (.int .i64 av), .val (.int .i64 (j : Int)), .cellI y, .val (.int .i64 y), .lit [97, y], .pair 131073 [97, y], .pairs (F9 x y), .maps (D ++ F9 x y), .val (.pointer (some ⟨xb, 9, none⟩))]
section
variable {w0 W : World} {tb rb xb n : Nat} {t : Tv} {T : Tab} {vv av : Int} {i j : Nat} {x y : Int} {r : Nat → Value} {Q : Exit → Act → World → Prop}
def Ob9 (r : Nat → Value) (W : World) (tb xb : Nat) (c9 : Value) (D : List Mp) (vv av : Int) (i j : Nat) (x y : Int) (Q : Exit → Act → World → Prop) (k : Nat) : Prop := ObA Tryz.prog (opsO 23) 194 [] (fixedO r tb xb vv av) (killM (specs9 tb xb c9 D vv av i j x y) 18) (C2A xb W) (RM xb (specs9 tb xb c9 D vv av i j x y)) Q k
theorem ob9_0 : Ob9 r W tb xb t.c9 T.decomps vv av i j x y Q 0 := by
  intro o ho a w hA hf hd K hK
  rw [if_pos (wanted_none _ (get_op (·.guard) ho (by kernel_rfl)))]
  exact ob_value (run_field9 (get_op (·.op) ho (by kernel_rfl)) (eval_tmp (hf.2.2 (4, _) (by simp [fixedO])))) (hK _ _ (rm_of rfl rfl) hA (fun _ _ _ _ h => h))
theorem ob9_1 (hTB : Blk W tb 26 t.cells) (hlt : tb < xb) : Ob9 r W tb xb t.c9 T.decomps vv av i j x y Q 1 := by
  intro o ho a w hA hf hd K hK
  rw [if_pos (wanted_none _ (get_op (·.guard) ho (by kernel_rfl)))]
  obtain ⟨v1, h1, e1⟩ := dep_m ho hd 0 152 (.val (.pointer (some ⟨tb, 9, none⟩))) (by kernel_rfl) (by kernel_rfl) rfl (by kernel_rfl)
  obtain rfl : v1 = _ := e1
  exact ob_value (run_load_mp (get_op (·.op) ho (by kernel_rfl)) (eval_tmp h1) ((hTB.below hA (by omega)).at_ (i := 9) rfl)) (hK _ _ (rm_of rfl rfl) hA (fun _ _ _ _ h => h))
theorem ob9_2 {B : Nat} (hW : xb + 1 ≤ W.heap.size) (hS : Mapps W B t.c9 T.decomps) (hB : B ≤ xb) (hl : T.decomps.length ≤ 1000) : Ob9 r W tb xb t.c9 T.decomps vv av i j x y Q 2 := by
  intro o ho a w hA hf hd K hK
  obtain ⟨v1, h1, e1⟩ := dep_m ho hd 1 153 (.val t.c9) (by kernel_rfl) (by kernel_rfl) rfl (by kernel_rfl)
  obtain rfl : v1 = _ := e1
  have hs := hA.size
  obtain ⟨i0, hi, hz, hz1, hz2⟩ := info_parts Tryz.infoMap
  refine step_copy_map (get_op (·.guard) ho (by kernel_rfl)) (.const (.slice none 0 0)) (.tmp 153) (get_op (·.op) ho (by kernel_rfl)) Tryz.underlying24 hi _ hz hz1 hz2 rfl [xb] (xb + 1) B t.c9 T.decomps (by simp; omega) rfl (eval_tmp h1) (hS.below (hA.mono (by omega))) (by omega) (by omega) (by omega) fun v' w' hv' hg => ?_
  exact hK _ _ (rm_of rfl hv') (hA.grown hg (by omega) (fun k hk => by cases hk)) (fun _ _ _ _ h => h.later ((Below.refl _ _).grown hg (Nat.le_refl _) (fun k hk => by cases hk)))
theorem ob9_3 (hW : xb + 1 ≤ W.heap.size) : Ob9 r W tb xb t.c9 T.decomps vv av i j x y Q 3 := by
  intro o ho a w hA hf hd K hK
  rw [if_pos (wanted_none _ (get_op (·.guard) ho (by kernel_rfl)))]
  have hs := hA.size
  exact ob_run (run_ints3 769 776 803 (get_op (·.op) ho (by kernel_rfl))) (hK _ _ (rm_of rfl (lit_new w xb (by omega) [769, 776, 803] 3 rfl)) (hA.alloc (by omega) _) (fun _ _ _ _ h => h.later ((Below.refl _ _).alloc (Nat.le_refl _) _)))
theorem ob9_10 (hW : xb + 1 ≤ W.heap.size) : Ob9 r W tb xb t.c9 T.decomps vv av i j x y Q 10 := by
  intro o ho a w hA hf hd K hK
  rw [if_pos (wanted_none _ (get_op (·.guard) ho (by kernel_rfl)))]
  have hs := hA.size
  exact ob_run (run_ints3 769 776 803 (get_op (·.op) ho (by kernel_rfl))) (hK _ _ (rm_of rfl (lit_new w xb (by omega) [769, 776, 803] 3 rfl)) (hA.alloc (by omega) _) (fun _ _ _ _ h => h.later ((Below.refl _ _).alloc (Nat.le_refl _) _)))
theorem ob9_4 : Ob9 r W tb xb t.c9 T.decomps vv av i j x y Q 4 := by
  intro o ho a w hA hf hd K hK
  rw [if_pos (wanted_none _ (get_op (·.guard) ho (by kernel_rfl)))]
  exact ob_move (get_op (·.op) ho (by kernel_rfl)) (eval_tmp (hf.2.2 (3, _) (by simp [fixedO]))) (hK _ _ (rm_of rfl rfl) hA (fun _ _ _ _ h => h))
theorem ob9_11 : Ob9 r W tb xb t.c9 T.decomps vv av i j x y Q 11 := by
  intro o ho a w hA hf hd K hK
  rw [if_pos (wanted_none _ (get_op (·.guard) ho (by kernel_rfl)))]
  exact ob_move (get_op (·.op) ho (by kernel_rfl)) (eval_tmp (hf.2.2 (2, _) (by simp [fixedO]))) (hK _ _ (rm_of rfl rfl) hA (fun _ _ _ _ h => h))
theorem ob9_5 (hp : pick vv 3 = (i : Int)) : Ob9 r W tb xb t.c9 T.decomps vv av i j x y Q 5 := by
  intro o ho a w hA hf hd K hK
  rw [if_pos (wanted_none _ (get_op (·.guard) ho (by kernel_rfl)))]
  obtain ⟨v1, h1, e1⟩ := dep_m ho hd 4 156 (.val (.int .i64 vv)) (by kernel_rfl) (by kernel_rfl) rfl (by kernel_rfl)
  obtain rfl : v1 = _ := e1
  exact ob_enter (enter2 (y := .const (.int .i64 3)) (tys := #[3, 3]) (get_op (·.op) ho (by kernel_rfl)) (eval_tmp h1) rfl (fun args w => enters_of Tryz.func29 (by kernel_rfl) rfl args w)) (pick_any vv 3 w (by omega) (by omega)) fun e w' ⟨he, hw⟩ => ⟨_, he, by subst hw; exact hK _ _ (rm_of rfl (by rw [hp]; rfl)) hA (fun _ _ _ _ h => h)⟩
theorem ob9_12 (hp : pick av 3 = (j : Int)) : Ob9 r W tb xb t.c9 T.decomps vv av i j x y Q 12 := by
  intro o ho a w hA hf hd K hK
  rw [if_pos (wanted_none _ (get_op (·.guard) ho (by kernel_rfl)))]
  obtain ⟨v1, h1, e1⟩ := dep_m ho hd 11 163 (.val (.int .i64 av)) (by kernel_rfl) (by kernel_rfl) rfl (by kernel_rfl)
  obtain rfl : v1 = _ := e1
  exact ob_enter (enter2 (y := .const (.int .i64 3)) (tys := #[3, 3]) (get_op (·.op) ho (by kernel_rfl)) (eval_tmp h1) rfl (fun args w => enters_of Tryz.func29 (by kernel_rfl) rfl args w)) (pick_any av 3 w (by omega) (by omega)) fun e w' ⟨he, hw⟩ => ⟨_, he, by subst hw; exact hK _ _ (rm_of rfl (by rw [hp]; rfl)) hA (fun _ _ _ _ h => h)⟩
theorem ob9_6 (hx : ([769, 776, 803] : List Int)[i]? = some x) : Ob9 r W tb xb t.c9 T.decomps vv av i j x y Q 6 := by
  intro o ho a w hA hf hd K hK
  rw [if_pos (wanted_none _ (get_op (·.guard) ho (by kernel_rfl)))]
  obtain ⟨v1, h1, e1⟩ := dep_m ho hd 3 155 (.lit [769, 776, 803]) (by kernel_rfl) (by kernel_rfl) rfl (by kernel_rfl)
  obtain ⟨v2, h2, e2⟩ := dep_m ho hd 5 157 (.val (.int .i64 (i : Int))) (by kernel_rfl) (by kernel_rfl) rfl (by kernel_rfl)
  obtain rfl : v2 = _ := e2
  obtain ⟨k, rfl, hk, hkx⟩ := e1
  exact ob_value (run_at (get_op (·.op) ho (by kernel_rfl)) (eval_tmp h1) (eval_tmp h2) (List.getElem?_eq_some_iff.1 hx).1) (hK _ _ (rm_of rfl ⟨k, i, _, rfl, hk, lit_at hx, hkx⟩) hA (fun _ _ _ _ h => h))
theorem ob9_13 (hx : ([769, 776, 803] : List Int)[j]? = some y) : Ob9 r W tb xb t.c9 T.decomps vv av i j x y Q 13 := by
  intro o ho a w hA hf hd K hK
  rw [if_pos (wanted_none _ (get_op (·.guard) ho (by kernel_rfl)))]
  obtain ⟨v1, h1, e1⟩ := dep_m ho hd 10 162 (.lit [769, 776, 803]) (by kernel_rfl) (by kernel_rfl) rfl (by kernel_rfl)
  obtain ⟨v2, h2, e2⟩ := dep_m ho hd 12 164 (.val (.int .i64 (j : Int))) (by kernel_rfl) (by kernel_rfl) rfl (by kernel_rfl)
  obtain rfl : v2 = _ := e2
  obtain ⟨k, rfl, hk, hkx⟩ := e1
  exact ob_value (run_at (get_op (·.op) ho (by kernel_rfl)) (eval_tmp h1) (eval_tmp h2) (List.getElem?_eq_some_iff.1 hx).1) (hK _ _ (rm_of rfl ⟨k, j, _, rfl, hk, lit_at hx, hkx⟩) hA (fun _ _ _ _ h => h))
theorem ob9_7 : Ob9 r W tb xb t.c9 T.decomps vv av i j x y Q 7 := by
  intro o ho a w hA hf hd K hK
  rw [if_pos (wanted_none _ (get_op (·.guard) ho (by kernel_rfl)))]
  obtain ⟨v1, h1, e1⟩ := dep_m ho hd 6 158 (.cellI x) (by kernel_rfl) (by kernel_rfl) rfl (by kernel_rfl)
  obtain ⟨k, i', cs, rfl, hk, hc, hkx⟩ := e1
  exact ob_value (run_load_int (get_op (·.op) ho (by kernel_rfl)) (eval_tmp h1) (hk.at_ hc)) (hK _ _ (rm_of rfl rfl) hA (fun _ _ _ _ h => h))
theorem ob9_14 : Ob9 r W tb xb t.c9 T.decomps vv av i j x y Q 14 := by
  intro o ho a w hA hf hd K hK
  rw [if_pos (wanted_none _ (get_op (·.guard) ho (by kernel_rfl)))]
  obtain ⟨v1, h1, e1⟩ := dep_m ho hd 13 165 (.cellI y) (by kernel_rfl) (by kernel_rfl) rfl (by kernel_rfl)
  obtain ⟨k, i', cs, rfl, hk, hc, hkx⟩ := e1
  exact ob_value (run_load_int (get_op (·.op) ho (by kernel_rfl)) (eval_tmp h1) (hk.at_ hc)) (hK _ _ (rm_of rfl rfl) hA (fun _ _ _ _ h => h))
theorem ob9_8 (hW : xb + 1 ≤ W.heap.size) : Ob9 r W tb xb t.c9 T.decomps vv av i j x y Q 8 := by
  intro o ho a w hA hf hd K hK
  rw [if_pos (wanted_none _ (get_op (·.guard) ho (by kernel_rfl)))]
  obtain ⟨v1, h1, e1⟩ := dep_m ho hd 7 159 (.val (.int .i64 x)) (by kernel_rfl) (by kernel_rfl) rfl (by kernel_rfl)
  obtain rfl : v1 = _ := e1
  have hs := hA.size
  exact ob_run (run_ints2 97 (get_op (·.op) ho (by kernel_rfl)) h1) (hK _ _ (rm_of rfl (lit_new w xb (by omega) [97, x] 2 rfl)) (hA.alloc (by omega) _) (fun _ _ _ _ h => h.later ((Below.refl _ _).alloc (Nat.le_refl _) _)))
theorem ob9_15 (hW : xb + 1 ≤ W.heap.size) : Ob9 r W tb xb t.c9 T.decomps vv av i j x y Q 15 := by
  intro o ho a w hA hf hd K hK
  rw [if_pos (wanted_none _ (get_op (·.guard) ho (by kernel_rfl)))]
  obtain ⟨v1, h1, e1⟩ := dep_m ho hd 14 166 (.val (.int .i64 y)) (by kernel_rfl) (by kernel_rfl) rfl (by kernel_rfl)
  obtain rfl : v1 = _ := e1
  have hs := hA.size
  exact ob_run (run_ints2 97 (get_op (·.op) ho (by kernel_rfl)) h1) (hK _ _ (rm_of rfl (lit_new w xb (by omega) [97, y] 2 rfl)) (hA.alloc (by omega) _) (fun _ _ _ _ h => h.later ((Below.refl _ _).alloc (Nat.le_refl _) _)))
theorem ob9_9 : Ob9 r W tb xb t.c9 T.decomps vv av i j x y Q 9 := by
  intro o ho a w hA hf hd K hK
  rw [if_pos (wanted_none _ (get_op (·.guard) ho (by kernel_rfl)))]
  obtain ⟨v1, h1, e1⟩ := dep_m ho hd 8 160 (.lit [97, x]) (by kernel_rfl) (by kernel_rfl) rfl (by kernel_rfl)
  obtain ⟨k, rfl, hk, hkx⟩ := e1
  exact ob_value (run_pair 131072 (get_op (·.op) ho (by kernel_rfl)) h1) (hK _ _ (rm_of rfl ⟨_, rfl, k, rfl, hk, hkx⟩) hA (fun _ _ _ _ h => h))
theorem ob9_16 : Ob9 r W tb xb t.c9 T.decomps vv av i j x y Q 16 := by
  intro o ho a w hA hf hd K hK
  rw [if_pos (wanted_none _ (get_op (·.guard) ho (by kernel_rfl)))]
  obtain ⟨v1, h1, e1⟩ := dep_m ho hd 15 167 (.lit [97, y]) (by kernel_rfl) (by kernel_rfl) rfl (by kernel_rfl)
  obtain ⟨k, rfl, hk, hkx⟩ := e1
  exact ob_value (run_pair 131073 (get_op (·.op) ho (by kernel_rfl)) h1) (hK _ _ (rm_of rfl ⟨_, rfl, k, rfl, hk, hkx⟩) hA (fun _ _ _ _ h => h))
theorem ob9_17 (hW : xb + 1 ≤ W.heap.size) : Ob9 r W tb xb t.c9 T.decomps vv av i j x y Q 17 := by
  intro o ho a w hA hf hd K hK
  rw [if_pos (wanted_none _ (get_op (·.guard) ho (by kernel_rfl)))]
  obtain ⟨v1, h1, e1⟩ := dep_m ho hd 9 161 (.pair 131072 [97, x]) (by kernel_rfl) (by kernel_rfl) rfl (by kernel_rfl)
  obtain ⟨v2, h2, e2⟩ := dep_m ho hd 16 168 (.pair 131073 [97, y]) (by kernel_rfl) (by kernel_rfl) rfl (by kernel_rfl)
  have hs := hA.size
  obtain ⟨u, rfl, k, rfl, hk, hkx⟩ := e1
  obtain ⟨u', rfl, k', rfl, hk', hkx'⟩ := e2
  have hbl : Below w.heap.size w (w.alloc (.cells #[.int .i64 131072, .slice (some ⟨k, 0, none⟩) 2 2, .int .i64 131073, .slice (some ⟨k', 0, none⟩) 2 2] 49)) := (Below.refl _ _).alloc (Nat.le_refl _) _
  refine ob_run (run_pairs (get_op (·.op) ho (by kernel_rfl)) h1 h2) (hK _ _ (rm_of rfl ⟨w.heap.size, [(131072, .slice (some ⟨k, 0, none⟩) 2 2), (131073, .slice (some ⟨k', 0, none⟩) 2 2)], rfl, Blk.new _ _ _, by omega, rfl, fun m p d hp hd => ?_⟩) (hA.alloc (by omega) _) (fun _ _ _ _ h => h.later ((Below.refl _ _).alloc (Nat.le_refl _) _)))
  match m, hp, hd with
  | 0, hp, hd => cases hp; cases hd; exact ⟨k, rfl, hk.later hbl, hkx⟩
  | 1, hp, hd => cases hp; cases hd; exact ⟨k', rfl, hk'.later hbl, hkx'⟩
  | _ + 2, hp, hd => simp at hp
theorem ob9_18 (hW : xb + 1 ≤ W.heap.size) (hl : T.decomps.length ≤ 1000) : Ob9 r W tb xb t.c9 T.decomps vv av i j x y Q 18 := by
  intro o ho a w hA hf hd K hK
  obtain ⟨v1, h1, e1⟩ := dep_m ho hd 2 154 (.maps T.decomps) (by kernel_rfl) (by kernel_rfl) rfl (by kernel_rfl)
  obtain ⟨v2, h2, e2⟩ := dep_m ho hd 17 169 (.pairs (F9 x y)) (by kernel_rfl) (by kernel_rfl) rfl (by kernel_rfl)
  have hs := hA.size
  obtain ⟨k, us, rfl, hk, hkx, hm, hr⟩ := e2
  obtain ⟨i0, hi, hz, hz1, hz2⟩ := info_parts Tryz.infoMap
  obtain ⟨ps, _, _, hown, _⟩ := id e1
  refine step_app_maps (get_op (·.guard) ho (by kernel_rfl)) (.tmp 154) (.tmp 169) (get_op (·.op) ho (by kernel_rfl)) Tryz.underlying24 hi _ hz hz1 hz2 rfl [xb] (xb + 1) v1 T.decomps (F9 x y) k us (eval_tmp h1) (eval_tmp h2) e1 hk hm (fun m p d hp hd => (hr m p d hp hd).ints (by simp) hown ?_) (by simp [F9]) (by simp [F9]; omega) (by omega) fun v' w' hv' hg _ _ => ?_
  · have := List.mem_of_getElem? hd
    simp [F9] at this
    rcases this with rfl | rfl <;> simp
  · exact hK _ _ (rm_of rfl hv') (hA.grown hg (by omega) (fun k hk => (hown.lt k hk).1)) (fun _ _ hne h hr => rm_kept hne h hr)
theorem ob9_19 : Ob9 r W tb xb t.c9 T.decomps vv av i j x y Q 19 := by
  intro o ho a w hA hf hd K hK
  rw [if_pos (wanted_none _ (get_op (·.guard) ho (by kernel_rfl)))]
  exact ob_value (run_field9 (get_op (·.op) ho (by kernel_rfl)) (eval_tmp (hf.2.2 (9, _) (by simp [fixedO])))) (hK _ _ (rm_of rfl rfl) hA (fun _ _ _ _ h => h))
theorem ob9_20 (HX : Blk W xb 26 t.cells) (HR : Blk W rb 26 nilCells) (hrx : rb < xb) (ht : TabR w0 w0.heap.size t T) (hn : ShortT n T) (hb0 : Below w0.heap.size w0 W) (h0 : w0.heap.size ≤ xb) : ObB Tryz.prog (opsO 23) 194 [] (fixedO r tb xb vv av) (killM (specs9 tb xb t.c9 T.decomps vv av i j x y) 18) (C2A xb W) (OthR w0 xb rb n) (RM xb (specs9 tb xb t.c9 T.decomps vv av i j x y)) Q 20 := by
  intro o ho a w hA hf hd K hK
  rw [if_pos (wanted_none _ (get_op (·.guard) ho (by kernel_rfl)))]
  obtain ⟨v1, h1, e1⟩ := dep_m ho hd 19 171 (.val (.pointer (some ⟨xb, 9, none⟩))) (by kernel_rfl) (by kernel_rfl) rfl (by kernel_rfl)
  obtain rfl : v1 = _ := e1
  obtain ⟨v2, h2, e2⟩ := dep_m ho hd 18 170 (.maps (T.decomps ++ F9 x y)) (by kernel_rfl) (by kernel_rfl) rfl (by kernel_rfl)
  have hX := HX.below hA (by omega)
  obtain ⟨ps, _, _, hown, _⟩ := id e2
  exact ob_skip (run_store_mp (get_op (·.op) ho (by kernel_rfl)) (eval_tmp h1) (eval_tmp h2) (own_slice hown) hX (i := 9) rfl) (hK _ _ (oth9 ht hn (by have := hn.c9; simp [F9]; omega) (hb0.trans (hA.mono (by omega))) h0 hX (HR.below hA (by omega)) (by omega) e2 (by omega)))
end
/-- The region of case 9. -/
theorem other_case9 {w0 W : World} {a : Act} {tb rb xb n : Nat} {t : Tv} {T : Tab} {vv av : Int} {Q : Exit → Act → World → Prop} (ha : ActO a tb xb vv av) (HT : Blk W tb 26 t.cells) (htx : tb < xb) (HX : Blk W xb 26 t.cells) (HR : Blk W rb 26 nilCells) (hrx : rb < xb) (ht : TabR w0 w0.heap.size t T) (hn : ShortT n T) (hn2 : n ≤ 1000) (hb0 : Below w0.heap.size w0 W) (h0 : w0.heap.size ≤ xb)
    (hend : ∀ (f : Nat → Value) w, OthR w0 xb rb n w → Q .normal ⟨(a.tmps.toList.take 12 ++ (List.range 182).map f).toArray, []⟩ w) : (Code.region 23 (opsO 23) true).wp Tryz.prog Q a W := by
  obtain ⟨p0, p1⟩ := pick_in vv (n := 3) (by decide)
  obtain ⟨q0, q1⟩ := pick_in av (n := 3) (by decide)
  obtain ⟨i, hpi⟩ := Int.eq_ofNat_of_zero_le p0
  obtain ⟨j, hpj⟩ := Int.eq_ofNat_of_zero_le q0
  have hi3 : i < ([769, 776, 803] : List Int).length := by show i < 3; omega
  have hj3 : j < ([769, 776, 803] : List Int).length := by show j < 3; omega
  obtain ⟨x, hx, _⟩ := get_of hi3
  obtain ⟨y, hy, _⟩ := get_of hj3
  refine wp_region_store (ds := []) (fixed := fixedO (fun i => (a.tmps[i]?).getD undef) tb xb vv av) (n := 194) (killM (specs9 tb xb t.c9 T.decomps vv av i j x y) 18) (C2A xb W.drew) (OthR w0 xb rb n) (RM xb (specs9 tb xb t.c9 T.decomps vv av i j x y)) 20 (by kernel_rfl) (by kernel_rfl) (by kernel_rfl) (by kernel_rfl) (by kernel_rfl) (fun i j h => kill_lt h (by rw [show (opsO 23).size = 21 by kernel_rfl]; decide)) ha.fs (Below.refl _ _) (fun i hi => ?_) (ob9_20 (W := W.drew) HX HR hrx ht hn hb0.drew h0) (fun a' w h hf => by obtain ⟨f, rfl⟩ := ha.split hf; exact hend f w h)
  have hS : Mapps W.drew w0.heap.size t.c9 T.decomps := ht.r9.below hb0.drew
  have hW : xb + 1 ≤ W.drew.heap.size := by have := HX.drew.lt; omega
  have hl : T.decomps.length ≤ 1000 := Nat.le_trans hn.c9 hn2
  match i, hi with
  | 0, _ => exact ob9_0
  | 1, _ => exact ob9_1 HT htx
  | 2, _ => exact ob9_2 hW hS h0 hl
  | 3, _ => exact ob9_3 hW
  | 4, _ => exact ob9_4
  | 5, _ => exact ob9_5 hpi
  | 6, _ => exact ob9_6 hx
  | 7, _ => exact ob9_7
  | 8, _ => exact ob9_8 hW
  | 9, _ => exact ob9_9
  | 10, _ => exact ob9_10 hW
  | 11, _ => exact ob9_11
  | 12, _ => exact ob9_12 hpj
  | 13, _ => exact ob9_13 hy
  | 14, _ => exact ob9_14
  | 15, _ => exact ob9_15 hW
  | 16, _ => exact ob9_16
  | 17, _ => exact ob9_17 hW
  | 18, _ => exact ob9_18 hW hl
  | 19, _ => exact ob9_19
  | m + 20, h => exact absurd h (by omega)
end Go.Proofs.YtneinkpfhkojgaaGreatDoor
/-
  keep.Other, case 10: one value in a copy of the joining types.
-/
namespace Go.Proofs.YtneinkpfhkojgaaGreatDoor
open Go.RowKit ND

section
variable {w : World} {a : Act} {o : Oper}
theorem run_field2 {x : Operand} {b : Nat} (ho : o.op = .fieldAddr 26 x 2) (hx : a.eval x = .pointer (some ⟨b, 0, none⟩)) : (execOp a.eval o).run Tryz.prog w = .ok (.value (.pointer (some ⟨b, 2, none⟩))) w := by
  unfold execOp
  rw [ho]
  simp only [hx]
  go_simp
theorem run_at_sp {x y : Operand} {g j n c : Nat} (ho : o.op = .indexAddr 23 x y) (hx : a.eval x = .slice (some ⟨g, 0, none⟩) n c) (hy : a.eval y = .int .i64 (j : Int)) (hj : j < n) : (execOp a.eval o).run Tryz.prog w = .ok (.value (.pointer (some ⟨g, j * 3, none⟩))) w := by
  have h0 : (0 : Int) ≤ (j : Int) := by omega
  have h1 : (j : Int) < (n : Int) := by omega
  unfold execOp
  rw [ho]
  simp only [hx, hy]
  go_simp
theorem run_val {x : Operand} {g i : Nat} (ho : o.op = .fieldAddr 42 x 2) (hx : a.eval x = .pointer (some ⟨g, i, none⟩)) : (execOp a.eval o).run Tryz.prog w = .ok (.value (.pointer (some ⟨g, i + 2, none⟩))) w := by
  unfold execOp
  rw [ho]
  simp only [hx]
  go_simp
theorem run_len_sp {x : Operand} {A : Option Addr} {n c : Nat} (ho : o.op = .call { callee := .builtin .len, args := #[x], argTypes := #[23] }) (hx : a.eval x = .slice A n c) : (execOp a.eval o).run Tryz.prog w = .ok (.value (.int .i64 (n : Int))) w := by
  unfold execOp
  rw [ho]
  simp only [resolve, invoke, builtin, Sem.run_bind, Sem.run_pure, Result.andThen_ok, List.map_toArray, List.map_cons, List.map_nil, hx]
  go_simp
theorem run_store_int {x y : Operand} {b i : Nat} {n : Int} {u : Value} (ho : o.op = .store 3 x y) (hx : a.eval x = .pointer (some ⟨b, i, none⟩)) (hy : a.eval y = .int .i64 n) (h1 : w.cell? ⟨b, i, none⟩ = some u) (h2 : w.frozen? ⟨b, i, none⟩ = false) : (execOp a.eval o).run Tryz.prog w = .ok .skip (w.setCell ⟨b, i, none⟩ (.int .i64 n)) := by
  unfold execOp
  rw [ho]
  simp only [hx, hy]
  go_simp
end
theorem own_le {w : World} {base base' size n : Nat} {e : TypeId} {v : Value} {xs : List Value} (h : w.ownsRow base e size v n xs) (hb : base' ≤ base) : w.ownsRow base' e size v n xs :=
  ⟨h.1, h.2.imp id fun ⟨g, cap, cur, hv, h1, h2⟩ => ⟨g, cap, cur, hv, Nat.le_trans hb h1, h2⟩⟩
/-- Another value at j. -/
def setV (L : List Sp) (j : Nat) (p : Int) : List Sp := match L[j]? with
  | some s => L.set j (s.1, s.2.1, p)
  | none => L
theorem setV_len (L : List Sp) (j : Nat) (p : Int) : (setV L j p).length = L.length := by
  unfold setV; split <;> simp
theorem setV_cells : ∀ (L : List Sp) (j : Nat) (p : Int), j < L.length → (L.flatMap spCells).set (j * 3 + 2) (.int .i64 p) = (setV L j p).flatMap spCells := by
  intro L
  induction L with
  | nil => intro j p h; simp at h
  | cons s r ih =>
    intro j p h
    cases j with
    | zero => simp [setV, spCells]
    | succ j =>
      have h2 := ih j p (by simpa using h)
      have e : setV (s :: r) (j + 1) p = s :: setV r j p := by
        unfold setV
        rw [List.getElem?_cons_succ]
        cases r[j]? <;> rfl
      rw [e, List.flatMap_cons, List.flatMap_cons, ← h2]
      have e2 : (j + 1) * 3 + 2 = j * 3 + 2 + 3 := by omega
      rw [e2]
      simp [spCells]

section
variable {w0 w6 : World} {xb rb n base : Nat} {t : Tv} {T : Tab} {v6 : Value}
/-- The copy stands in its field. -/
theorem oth2' {D' : List Sp} (ht : TabR w0 w0.heap.size t T) (hn : ShortT n T) (hD : D'.length ≤ n + 2) (hb : Below w0.heap.size w0 w6) (hX : Blk w6 xb 26 #[t.c0, t.c1, v6, t.c3, t.c4, t.c5, t.c6, t.c7, t.c8, t.c9, t.c10, t.c11]) (hR : Blk w6 rb 26 nilCells) (hM : w6.ownsRow base 42 3 v6 D'.length (D'.flatMap spCells)) :
    OthR w0 xb rb n w6 := by
  have ht' := (ht.below hb).more hb.size
  exact ⟨{ t with c2 := v6 }, { T with joining := D' }, hX, { ht' with r2 := Spans.of_own hM }, { hn.more (Nat.le_add_right n 2) with c2 := hD }, hb, hR⟩
end

def CAt (W w : World) : Prop := w = W
def specs10 (xb : Nat) (g c len : Nat) (vv av : Int) (j : Nat) : List SpecM := [.val (.pointer (some ⟨xb, 2, none⟩)), .val (.slice (some ⟨g, 0, none⟩) len c), .val (.int .i64 av), .val (.pointer (some ⟨xb, 2, none⟩)), .val (.slice (some ⟨g, 0, none⟩) len c), .val (.int .i64 (len : Int)), .val (.int .i64 (j : Int)), .val (.int .i64 vv), .val (.int .i64 (pick vv 8)), .val (.pointer (some ⟨g, j * 3, none⟩)), .val (.pointer (some ⟨g, j * 3 + 2, none⟩))]
section
variable {w0 W : World} {xb rb n : Nat} {t : Tv} {T : Tab} {vv av : Int} {j g c len tb : Nat} {r : Nat → Value} {Q : Exit → Act → World → Prop}
def Ob10 (r : Nat → Value) (tb : Nat) (W : World) (xb g c len : Nat) (vv av : Int) (j : Nat) (Q : Exit → Act → World → Prop) (k : Nat) : Prop := ObA Tryz.prog (opsO 27) 194 [] (fixedO r tb xb vv av) (killM (specs10 xb g c len vv av j) 11) (CAt W) (RM xb (specs10 xb g c len vv av j)) Q k
theorem ob10_0 : Ob10 r tb W xb g c len vv av j Q 0 := by
  intro o ho a w hA hf hd K hK
  rw [if_pos (wanted_none _ (get_op (·.guard) ho (by kernel_rfl)))]
  exact ob_value (run_field2 (get_op (·.op) ho (by kernel_rfl)) (eval_tmp (hf.2.2 (9, _) (by simp [fixedO])))) (hK _ _ (rm_of rfl rfl) hA (fun _ _ _ _ h => h))
theorem ob10_3 : Ob10 r tb W xb g c len vv av j Q 3 := by
  intro o ho a w hA hf hd K hK
  rw [if_pos (wanted_none _ (get_op (·.guard) ho (by kernel_rfl)))]
  exact ob_value (run_field2 (get_op (·.op) ho (by kernel_rfl)) (eval_tmp (hf.2.2 (9, _) (by simp [fixedO])))) (hK _ _ (rm_of rfl rfl) hA (fun _ _ _ _ h => h))
theorem ob10_1 {cs : Array Value} (hX : Blk W xb 26 cs) (hc : cs[2]? = some (.slice (some ⟨g, 0, none⟩) len c)) : Ob10 r tb W xb g c len vv av j Q 1 := by
  intro o ho a w hA hf hd K hK
  rw [if_pos (wanted_none _ (get_op (·.guard) ho (by kernel_rfl)))]
  obtain ⟨v1, h1, e1⟩ := dep_m ho hd 0 182 (.val (.pointer (some ⟨xb, 2, none⟩))) (by kernel_rfl) (by kernel_rfl) rfl (by kernel_rfl)
  obtain rfl : v1 = _ := e1
  obtain rfl : w = W := hA
  exact ob_value (run_load_sp (get_op (·.op) ho (by kernel_rfl)) (eval_tmp h1) (hX.at_ hc)) (hK _ _ (rm_of rfl rfl) rfl (fun _ _ _ _ h => h))
theorem ob10_4 {cs : Array Value} (hX : Blk W xb 26 cs) (hc : cs[2]? = some (.slice (some ⟨g, 0, none⟩) len c)) : Ob10 r tb W xb g c len vv av j Q 4 := by
  intro o ho a w hA hf hd K hK
  rw [if_pos (wanted_none _ (get_op (·.guard) ho (by kernel_rfl)))]
  obtain ⟨v1, h1, e1⟩ := dep_m ho hd 3 185 (.val (.pointer (some ⟨xb, 2, none⟩))) (by kernel_rfl) (by kernel_rfl) rfl (by kernel_rfl)
  obtain rfl : v1 = _ := e1
  obtain rfl : w = W := hA
  exact ob_value (run_load_sp (get_op (·.op) ho (by kernel_rfl)) (eval_tmp h1) (hX.at_ hc)) (hK _ _ (rm_of rfl rfl) rfl (fun _ _ _ _ h => h))
theorem ob10_2 : Ob10 r tb W xb g c len vv av j Q 2 := by
  intro o ho a w hA hf hd K hK
  rw [if_pos (wanted_none _ (get_op (·.guard) ho (by kernel_rfl)))]
  exact ob_move (get_op (·.op) ho (by kernel_rfl)) (eval_tmp (hf.2.2 (2, _) (by simp [fixedO]))) (hK _ _ (rm_of rfl rfl) hA (fun _ _ _ _ h => h))
theorem ob10_7 : Ob10 r tb W xb g c len vv av j Q 7 := by
  intro o ho a w hA hf hd K hK
  rw [if_pos (wanted_none _ (get_op (·.guard) ho (by kernel_rfl)))]
  exact ob_move (get_op (·.op) ho (by kernel_rfl)) (eval_tmp (hf.2.2 (3, _) (by simp [fixedO]))) (hK _ _ (rm_of rfl rfl) hA (fun _ _ _ _ h => h))
theorem ob10_5 : Ob10 r tb W xb g c len vv av j Q 5 := by
  intro o ho a w hA hf hd K hK
  rw [if_pos (wanted_none _ (get_op (·.guard) ho (by kernel_rfl)))]
  obtain ⟨v1, h1, e1⟩ := dep_m ho hd 4 186 (.val (.slice (some ⟨g, 0, none⟩) len c)) (by kernel_rfl) (by kernel_rfl) rfl (by kernel_rfl)
  obtain rfl : v1 = _ := e1
  exact ob_value (run_len_sp (get_op (·.op) ho (by kernel_rfl)) (eval_tmp h1)) (hK _ _ (rm_of rfl rfl) hA (fun _ _ _ _ h => h))
theorem ob10_6 (hp : pick av (len : Int) = (j : Int)) (h0 : 0 < len) (hl : len ≤ 1000) : Ob10 r tb W xb g c len vv av j Q 6 := by
  intro o ho a w hA hf hd K hK
  rw [if_pos (wanted_none _ (get_op (·.guard) ho (by kernel_rfl)))]
  obtain ⟨v1, h1, e1⟩ := dep_m ho hd 2 184 (.val (.int .i64 av)) (by kernel_rfl) (by kernel_rfl) rfl (by kernel_rfl)
  obtain rfl : v1 = _ := e1
  obtain ⟨v2, h2, e2⟩ := dep_m ho hd 5 187 (.val (.int .i64 (len : Int))) (by kernel_rfl) (by kernel_rfl) rfl (by kernel_rfl)
  obtain rfl : v2 = _ := e2
  exact ob_enter (enter2 (tys := #[3, 3]) (get_op (·.op) ho (by kernel_rfl)) (eval_tmp h1) (eval_tmp h2) (fun args w => enters_of Tryz.func29 (by kernel_rfl) rfl args w)) (pick_any av (len : Int) w (by omega) (by omega)) fun e w' ⟨he, hw⟩ => ⟨_, he, by subst hw; exact hK _ _ (rm_of rfl (by rw [hp]; rfl)) hA (fun _ _ _ _ h => h)⟩
theorem ob10_8 : Ob10 r tb W xb g c len vv av j Q 8 := by
  intro o ho a w hA hf hd K hK
  rw [if_pos (wanted_none _ (get_op (·.guard) ho (by kernel_rfl)))]
  obtain ⟨v1, h1, e1⟩ := dep_m ho hd 7 189 (.val (.int .i64 vv)) (by kernel_rfl) (by kernel_rfl) rfl (by kernel_rfl)
  obtain rfl : v1 = _ := e1
  exact ob_enter (enter2 (y := .const (.int .i64 8)) (tys := #[3, 3]) (get_op (·.op) ho (by kernel_rfl)) (eval_tmp h1) rfl (fun args w => enters_of Tryz.func29 (by kernel_rfl) rfl args w)) (pick_any vv 8 w (by omega) (by omega)) fun e w' ⟨he, hw⟩ => ⟨_, he, by subst hw; exact hK _ _ (rm_of rfl rfl) hA (fun _ _ _ _ h => h)⟩
theorem ob10_9 (hj : j < len) : Ob10 r tb W xb g c len vv av j Q 9 := by
  intro o ho a w hA hf hd K hK
  rw [if_pos (wanted_none _ (get_op (·.guard) ho (by kernel_rfl)))]
  obtain ⟨v1, h1, e1⟩ := dep_m ho hd 1 183 (.val (.slice (some ⟨g, 0, none⟩) len c)) (by kernel_rfl) (by kernel_rfl) rfl (by kernel_rfl)
  obtain rfl : v1 = _ := e1
  obtain ⟨v2, h2, e2⟩ := dep_m ho hd 6 188 (.val (.int .i64 (j : Int))) (by kernel_rfl) (by kernel_rfl) rfl (by kernel_rfl)
  obtain rfl : v2 = _ := e2
  exact ob_value (run_at_sp (get_op (·.op) ho (by kernel_rfl)) (eval_tmp h1) (eval_tmp h2) hj) (hK _ _ (rm_of rfl rfl) hA (fun _ _ _ _ h => h))
theorem ob10_10 : Ob10 r tb W xb g c len vv av j Q 10 := by
  intro o ho a w hA hf hd K hK
  rw [if_pos (wanted_none _ (get_op (·.guard) ho (by kernel_rfl)))]
  obtain ⟨v1, h1, e1⟩ := dep_m ho hd 9 191 (.val (.pointer (some ⟨g, j * 3, none⟩))) (by kernel_rfl) (by kernel_rfl) rfl (by kernel_rfl)
  obtain rfl : v1 = _ := e1
  exact ob_value (run_val (get_op (·.op) ho (by kernel_rfl)) (eval_tmp h1)) (hK _ _ (rm_of rfl rfl) hA (fun _ _ _ _ h => h))
theorem ob10_11 (HX : Blk W xb 26 #[t.c0, t.c1, .slice (some ⟨g, 0, none⟩) T.joining.length c, t.c3, t.c4, t.c5, t.c6, t.c7, t.c8, t.c9, t.c10, t.c11]) (HR : Blk W rb 26 nilCells) (hrx : rb < xb) (ht : TabR w0 w0.heap.size t T) (hn : ShortT n T) (hb0 : Below w0.heap.size w0 W) (h0 : w0.heap.size ≤ xb)
    (hj : j < T.joining.length) (hM : W.ownsRow (xb + 1) 42 3 (.slice (some ⟨g, 0, none⟩) T.joining.length c) T.joining.length (T.joining.flatMap spCells)) : ObB Tryz.prog (opsO 27) 194 [] (fixedO r tb xb vv av) (killM (specs10 xb g c T.joining.length vv av j) 11) (CAt W) (OthR w0 xb rb n) (RM xb (specs10 xb g c T.joining.length vv av j)) Q 11 := by
  intro o ho a w hA hf hd K hK
  rw [if_pos (wanted_none _ (get_op (·.guard) ho (by kernel_rfl)))]
  obtain ⟨v1, h1, e1⟩ := dep_m ho hd 10 192 (.val (.pointer (some ⟨g, j * 3 + 2, none⟩))) (by kernel_rfl) (by kernel_rfl) rfl (by kernel_rfl)
  obtain rfl : v1 = _ := e1
  obtain ⟨v2, h2, e2⟩ := dep_m ho hd 8 190 (.val (.int .i64 (pick vv 8))) (by kernel_rfl) (by kernel_rfl) rfl (by kernel_rfl)
  obtain rfl : v2 = _ := e2
  obtain rfl : w = W := hA
  obtain ⟨s, hs⟩ : ∃ s, T.joining[j]? = some s := ⟨_, List.getElem?_eq_getElem hj⟩
  obtain ⟨_, _, c2⟩ := spCells_at hs
  have hlt := (hM.lt g rfl).1
  obtain ⟨q1, q2⟩ := hM.stored (j * 3 + 2) (.int .i64 (pick vv 8))
  rw [setV_cells _ _ _ hj] at q1
  refine ob_skip (run_store_int (get_op (·.op) ho (by kernel_rfl)) (eval_tmp h1) (eval_tmp h2) ((hM.cellAt (j * 3 + 2) (by omega)).trans c2) (hM.frozenAt _)) (hK _ _ ?_)
  refine oth2' (D' := setV T.joining j (pick vv 8)) (v6 := .slice (some ⟨g, 0, none⟩) T.joining.length c) (base := xb + 1) ht hn ?_ (hb0.setCell (p := ⟨g, j * 3 + 2, none⟩) (by show _ ≤ g; omega) _) (HX.far (by show xb ≠ g; omega) _) (HR.far (by show rb ≠ g; omega) _) ?_
  · rw [setV_len]; have := hn.c2; omega
  · rw [setV_len]; exact q1
end
/-- The region of case 10. -/
theorem other_case10 {w0 W : World} {a : Act} {tb rb xb n g c : Nat} {t : Tv} {T : Tab} {vv av : Int} {Q : Exit → Act → World → Prop} (ha : ActO a tb xb vv av) (HX : Blk W xb 26 #[t.c0, t.c1, .slice (some ⟨g, 0, none⟩) T.joining.length c, t.c3, t.c4, t.c5, t.c6, t.c7, t.c8, t.c9, t.c10, t.c11]) (HR : Blk W rb 26 nilCells) (hrx : rb < xb) (ht : TabR w0 w0.heap.size t T) (hn : ShortT n T) (hn2 : n ≤ 1000) (hb0 : Below w0.heap.size w0 W) (h0 : w0.heap.size ≤ xb)
    (hpos : 0 < T.joining.length) (hM : W.ownsRow (xb + 1) 42 3 (.slice (some ⟨g, 0, none⟩) T.joining.length c) T.joining.length (T.joining.flatMap spCells))
    (hend : ∀ (f : Nat → Value) w, OthR w0 xb rb n w → Q .normal ⟨(a.tmps.toList.take 12 ++ (List.range 182).map f).toArray, []⟩ w) : (Code.region 27 (opsO 27) true).wp Tryz.prog Q a W := by
  obtain ⟨p0, p1⟩ := pick_in av (n := (T.joining.length : Int)) (by omega)
  obtain ⟨j, hpj⟩ := Int.eq_ofNat_of_zero_le p0
  have hj : j < T.joining.length := by omega
  have hl : T.joining.length ≤ 1000 := Nat.le_trans hn.c2 hn2
  refine wp_region_store (ds := []) (fixed := fixedO (fun i => (a.tmps[i]?).getD undef) tb xb vv av) (n := 194) (killM (specs10 xb g c T.joining.length vv av j) 11) (CAt W.drew) (OthR w0 xb rb n) (RM xb (specs10 xb g c T.joining.length vv av j)) 11 (by kernel_rfl) (by kernel_rfl) (by kernel_rfl) (by kernel_rfl) (by kernel_rfl) (fun i j h => kill_lt h (by rw [show (opsO 27).size = 12 by kernel_rfl]; decide)) ha.fs rfl (fun i hi => ?_) (ob10_11 (W := W.drew) HX HR hrx ht hn hb0.drew h0 hj hM.drew) (fun a' w h hf => by obtain ⟨f, rfl⟩ := ha.split hf; exact hend f w h)
  match i, hi with
  | 0, _ => exact ob10_0
  | 1, _ => exact ob10_1 HX.drew rfl
  | 2, _ => exact ob10_2
  | 3, _ => exact ob10_3
  | 4, _ => exact ob10_4 HX.drew rfl
  | 5, _ => exact ob10_5
  | 6, _ => exact ob10_6 hpj hpos hl
  | 7, _ => exact ob10_7
  | 8, _ => exact ob10_8
  | 9, _ => exact ob10_9 hj
  | 10, _ => exact ob10_10
  | m + 11, h => exact absurd h (by omega)
end Go.Proofs.YtneinkpfhkojgaaGreatDoor
/-
  A region that draws its order, whose first operations can come up in one order alone: they are walked one by one; what is left is quiet.
-/
namespace Go.Proofs.YtneinkpfhkojgaaGreatDoor
open Go.RowKit

theorem wpAny_one {P : Program} {ops : Array Oper} {Q : Exit → Act → World → Prop} {md : Region.Mode} {fuel : Nat} {listed : Array Bool} {a : Act} {w : World} (i : Nat) (o : Oper) (hr : Region.ready md ops listed = [i]) (ho : ops[i]? = some o)
    (h : ∀ K : Act → World → Prop, (∀ a w, wpAny P md ops Q fuel (listed.setIfInBounds i true) a w → K a w) → if Region.wanted o (yielded ops a.tmps) = true then o.wp P a w K Q else K (a.put o.dst undef) w) :
    wpAny P md ops Q (fuel + 1) listed a w := by
  refine ⟨fun h0 => absurd (hr.symm.trans h0) (by simp), fun j hj => ?_⟩
  rw [hr, List.mem_singleton] at hj
  subst hj
  have h1 := h _ (fun _ _ h => h)
  unfold wpOp
  rw [ho]
  simp only
  split
  · rename_i hw; rw [if_pos hw] at h1; exact .inl h1
  · rename_i hw; rw [if_neg hw] at h1; exact h1

theorem wpAny_below {P : Program} {ops : Array Oper} {Q : Exit → Act → World → Prop} {listed : Array Bool} {a : Act} {w : World} {n : Nat} (k : Nat) (l : List Oper) (hl : l = ops.toList.drop k) (hn : l.length = n) (hs : Region.noSelect ops = true) (hB : Region.lexFrom .any ops n k listed = true)
    (h : wpQuiet P ops (fun w' => ∃ p : Regrown, w' = Go.Sort.grow (redrawn w p.d) p.os) (fun a' => ∀ w', (∃ p : Regrown, w' = Go.Sort.grow (redrawn w p.d) p.os) → Q .normal a' w') l a) : wpAny P .any ops Q n listed a w := by
  subst hn
  refine wpAny_of_quiet (C := fun w' => ∃ p : Regrown, w' = Go.Sort.grow (redrawn w p.d) p.os) (Q := fun a' => ∀ w', (∃ p : Regrown, w' = Go.Sort.grow (redrawn w p.d) p.os) → Q .normal a' w') (fun _ w' hw' h => h w' hw') _ _ _ _ ⟨⟨w.drawn, #[]⟩, by rw [Go.Sort.grow_empty]; rfl⟩ ?_
  refine wpAnyQ_lex hs l k _ _ (fun j => ?_) hB h
  subst hl
  simp [List.getElem?_drop]
end Go.Proofs.YtneinkpfhkojgaaGreatDoor
/-
  The walk through sort.Search, over whatever closure.
-/
namespace Go.Proofs.YtneinkpfhkojgaaGreatDoor
open Go.RowKit

/-- What a search hands back: the first place at which p holds. -/
def RetSearch (w : World) (n : Nat) (p : Nat → Bool) (e : Ending) (w' : World) : Prop :=
  ∃ k : Nat, e = .returned (.int .i64 k) ∧ k ≤ n ∧ (∀ i, i < k → p i = false) ∧ (k < n → p k = true) ∧ Below w.heap.size w w'
/-- A closure, called in whatever later world, says p. -/
def Says (P : Program) (w : World) (g : FuncId) (cb : Array Value) (n : Nat) (p : Nat → Bool) : Prop :=
  ∀ (W : World) (i : Nat), Below w.heap.size w W → i < n → Calls P g (#[.int .i64 i] ++ cb) W fun e W' => e = .returned (.bool (p i)) ∧ Below W.heap.size W W'

set_option maxRecDepth 100000 in
set_option maxHeartbeats 1000000 in
theorem search_any (g : Nat) (cb : Array Value) (n : Nat) (p : Nat → Bool) (w : World) (eg : ∀ args w, (callFunc g args).run Tryz.prog w = .ok (.enter g args) w) (hsz : n < 4611686018427387904)
    (hf : Says Tryz.prog w g cb n p) (hmono : ∀ a b, a ≤ b → b < n → p a = true → p b = true) :
    Calls Tryz.prog 58 #[.int .i64 n, .func (.func g) #[] cb] w (RetSearch w n p) := by
  have HF := Lib.hid hf
  have HM := Lib.hid hmono
  clear hf hmono
  go_enter Tryz.func58, Tryz.ntmps58
  go_wp2_with fail
  go_loopw [5, 6] (fun s5 s6 wr => ∃ (lo hi : Nat), s5 = .int .i64 lo ∧ s6 = .int .i64 hi ∧ lo ≤ hi ∧ hi ≤ n ∧ Below w.heap.size w wr ∧ Hid ((∀ t, t < lo → p t = false) ∧ (∀ t, hi ≤ t → t < n → p t = true))) (fun s5 s6 _ => (intOf s6).toNat - (intOf s5).toNat)
  case atStart => exact ⟨0, n, rfl, rfl, Nat.zero_le _, Nat.le_refl _, Below.refl _ _, Lib.hid ⟨fun t ht => absurd ht (Nat.not_lt_zero _), fun t h1 h2 => by omega⟩⟩
  case round =>
    obtain ⟨lo, hi, rfl, rfl, hlh, hin, hbel, HI⟩ := hrel
    by_cases hlt : lo < hi
    · have hc := HF.out wr ((lo + hi) / 2) hbel (by omega)
      rw [show (((lo + hi) / 2 : Nat) : Int) = ((lo : Int) + (hi : Int)) / 2 by omega] at hc
      cases hp : p ((lo + hi) / 2) <;> rw [hp] at hc
      · have HC := Lib.hid hc
        have HI2 : Hid ((∀ t, t < (lo + hi) / 2 + 1 → p t = false) ∧ (∀ t, hi ≤ t → t < n → p t = true)) := Lib.hid ⟨fun t ht => (by
            cases h : p t with
            | false => rfl
            | true => have := HM.out t ((lo + hi) / 2) (by omega) (by omega) h; rw [hp] at this; cases this), HI.out.2⟩
        clear hp hc HI
        go_wp2_with fail
        refine HC.out.mono ?_
        rintro e w1 ⟨rfl, b1⟩
        clear HC
        go_wp2_with fail
        have hbel2 := below_next hbel b1
        go_roundw
        case rel => exact ⟨(lo + hi) / 2 + 1, hi, by rw [show ((lo : Int) + (hi : Int)) / 2 + 1 = (((lo + hi) / 2 + 1 : Nat) : Int) by omega], rfl, by omega, hin, hbel2, HI2⟩
        case measure => simp [intOf]; omega
      · have HC := Lib.hid hc
        have HI2 : Hid ((∀ t, t < lo → p t = false) ∧ (∀ t, (lo + hi) / 2 ≤ t → t < n → p t = true)) := Lib.hid ⟨HI.out.1, fun t ht htn => HM.out ((lo + hi) / 2) t ht htn hp⟩
        clear hp hc HI
        go_wp2_with fail
        refine HC.out.mono ?_
        rintro e w1 ⟨rfl, b1⟩
        clear HC
        go_wp2_with fail
        have hbel2 := below_next hbel b1
        go_roundw
        case rel => exact ⟨lo, (lo + hi) / 2, rfl, by rw [show ((lo : Int) + (hi : Int)) / 2 = (((lo + hi) / 2 : Nat) : Int) by omega], by omega, by omega, hbel2, HI2⟩
        case measure => simp [intOf]; omega
    · obtain rfl : hi = lo := by omega
      go_wp2_with fail
      go_ret
      exact ⟨hi, rfl, hin, HI.out.1, fun h => HI.out.2 hi (Nat.le_refl _) h, hbel⟩
end Go.Proofs.YtneinkpfhkojgaaGreatDoor
/-
  The walks through table.value and table.find: binary searches over lists in order.
-/
namespace Go.Proofs.YtneinkpfhkojgaaGreatDoor
open Go.RowKit ND

/-- What the closure of value says of a place. -/
def pV (xs : List Sp) (c : Int) (i : Nat) : Bool := match xs[i]? with | some a => decide (c ≤ a.2.1) | none => true
theorem pV_some {xs : List Sp} {c : Int} {i : Nat} {a : Sp} (h : xs[i]? = some a) : pV xs c i = decide (c ≤ a.2.1) := by unfold pV; rw [h]
theorem pV_mono {xs : List Sp} {c lo hi : Int} (hs : okS lo hi (-1) xs = true) (a b : Nat) (hab : a ≤ b) (hb : b < xs.length) (h : pV xs c a = true) : pV xs c b = true := by
  rcases Nat.lt_or_ge a b with hlt | hge
  · have ha : xs[a]? = some (xs[a]'(by omega)) := List.getElem?_eq_getElem (by omega)
    have hb' : xs[b]? = some xs[b] := List.getElem?_eq_getElem hb
    rw [pV_some ha, decide_eq_true_eq] at h
    rw [pV_some hb', decide_eq_true_eq]
    have := okS_at hs hlt ha hb'
    have := okS_el hs hb'
    omega
  · obtain rfl : a = b := by omega
    exact h

theorem cell_new1 (W : World) (v : Value) (t : TypeId) : (W.alloc (.cells #[v] t)).cell? ⟨W.heap.size, 0, none⟩ = some v := by
  rw [cell_of_row _ _ _ _ _ _ (heap_alloc_new W _)]; rfl

set_option maxRecDepth 100000 in
set_option maxHeartbeats 400000 in
theorem valueClos (bl bc : Nat) (A : Option Addr) (cap : Nat) (xs : List Sp) (c : Int) (W : World) (i : Nat) (hi : i < xs.length) (hbl : W.cell? ⟨bl, 0, none⟩ = some (.slice A xs.length cap)) (hbc : W.cell? ⟨bc, 0, none⟩ = some (.int .i64 c)) (hv : Spans W W.heap.size (.slice A xs.length cap) xs) :
    Calls Tryz.prog 76 #[.int .i64 i, .pointer (some ⟨bl, 0, none⟩), .pointer (some ⟨bc, 0, none⟩)] W fun e W' => e = .returned (.bool (pV xs c i)) ∧ Below W.heap.size W W' := by
  obtain ⟨A', c', hA, _, _, _, hcell⟩ := hv
  cases hA
  obtain ⟨⟨f, t, x⟩, hxi, _⟩ := get_el hi
  obtain ⟨ad, rfl, ha, d0, d1, d2⟩ := hcell i _ hxi
  obtain ⟨e0, e1, e2⟩ := span_cells (Below.refl _ _) ha d0 d1 d2
  rw [pV_some hxi]
  simp only at e0 e1 e2 ⊢
  clear d0 d1 d2 hcell hxi e0 e2
  have k0 : (0 : Int) ≤ (i : Int) := by omega
  have k1 : (i : Int) < (xs.length : Int) := by omega
  go_enter Tryz.func76, Tryz.ntmps76
  go_wp2_with fail
  go_quiet (fail)
  go_wp2_with fail
  go_ret
  exact ⟨rfl, below_drewN (Below.refl _ _) nq⟩

set_option maxRecDepth 100000 in
set_option maxHeartbeats 1000000 in
theorem value_any (v : Value) (xs : List Sp) (c lo hi : Int) (w : World) (hv : Spans w w.heap.size v xs) (hs : okS lo hi (-1) xs = true) (hlen : xs.length ≤ 256) :
    Calls Tryz.prog 57 #[v, .int .i64 c] w fun e w' => e = .returned (.int .i64 (valueL xs c)) ∧ Below w.heap.size w w' := by
  have eg := enters_of Tryz.func76 (by kernel_rfl) rfl
  have HV := Lib.hid hv
  obtain ⟨A, cap, rfl, _, _, _, _⟩ := hv
  have hbw : Below w.heap.size w ((w.alloc (.cells #[.slice A xs.length cap] 23)).alloc (.cells #[.int .i64 c] 3)) := ((Below.refl _ _).alloc (Nat.le_refl _) _).alloc (by simp) _
  have hboxes : ∀ W, Below ((w.alloc (.cells #[.slice A xs.length cap] 23)).alloc (.cells #[.int .i64 c] 3)).heap.size ((w.alloc (.cells #[.slice A xs.length cap] 23)).alloc (.cells #[.int .i64 c] 3)) W →
      W.cell? ⟨w.heap.size, 0, none⟩ = some (.slice A xs.length cap) ∧ W.cell? ⟨w.heap.size + 1, 0, none⟩ = some (.int .i64 c) := by
    intro W hb
    have hsz : (w.alloc (.cells #[.slice A xs.length cap] 23)).heap.size = w.heap.size + 1 := by simp
    have h1 := cell_new1 w (.slice A xs.length cap) 23
    have h2 := cell_new1 (w.alloc (.cells #[.slice A xs.length cap] 23)) (.int .i64 c) 3
    rw [hsz] at h2
    have h1' := (World.cell?_alloc_lt (w.alloc (.cells #[.slice A xs.length cap] 23)) (.cells #[.int .i64 c] 3) ⟨w.heap.size, 0, none⟩ (by simp)).trans h1
    exact ⟨(hb.cell (p := ⟨w.heap.size, 0, none⟩) (by simp; omega)).trans h1', (hb.cell (p := ⟨w.heap.size + 1, 0, none⟩) (by simp)).trans h2⟩
  have HB := Lib.hid hboxes
  have HBW := Lib.hid hbw
  clear hboxes hbw
  have HSR := Lib.hid (search_any 76 #[.pointer (some ⟨w.heap.size, 0, none⟩), .pointer (some ⟨w.heap.size + 1, 0, none⟩)] xs.length (pV xs c) ((w.alloc (.cells #[.slice A xs.length cap] 23)).alloc (.cells #[.int .i64 c] 3)) eg (by omega) (by
    intro W i hb hi
    exact valueClos _ _ A cap xs c W i hi (HB.out W hb).1 (HB.out W hb).2 ((HV.out.later HBW.out).later hb)) (pV_mono hs))
  go_enter Tryz.func57, Tryz.ntmps57
  go_wp2_with fail
  refine HSR.out.mono ?_
  rintro e w2 ⟨k, rfl, hk, hlow, hhigh, b2⟩
  obtain ⟨q0, q1⟩ := HB.out w2 b2
  have hv2 := (HV.out.later HBW.out).later b2
  have hbel := HBW.out.trans (b2.mono HBW.out.size)
  have HL : Hid (∀ i a, i < k → xs[i]? = some a → a.2.1 < c) := Lib.hid (fun i a hi ha => by
    have := hlow i hi
    rw [pV_some ha, decide_eq_false_iff_not] at this
    omega)
  clear HSR HB HBW HV b2 hlow eg
  by_cases hkn : k < xs.length
  · obtain ⟨⟨f, t, x⟩, hxk, _⟩ := get_el hkn
    have hct := hhigh hkn
    rw [pV_some hxk, decide_eq_true_eq] at hct
    obtain ⟨A', c', hA, _, _, _, hcell⟩ := hv2
    cases hA
    obtain ⟨ad, rfl, ha, d0, d1, d2⟩ := hcell k _ hxk
    obtain ⟨e0, e1, e2⟩ := span_cells (Below.refl _ w2) ha d0 d1 d2
    simp only at e0 e1 e2 hct
    have HX := Lib.hid hxk
    clear d0 d1 d2 hcell hxk hhigh e1
    have k0 : (0 : Int) ≤ (k : Int) := by omega
    have k1 : (k : Int) < (xs.length : Int) := by omega
    have hb0 : ((k : Int) == (xs.length : Int)) = false := by rw [beq_eq_false_iff_ne]; omega
    by_cases hfc : f ≤ c
    · have hd : decide (c < f) = false := by rw [decide_eq_false_iff_not]; omega
      have HR := Lib.hid (valueL_at HL.out HX.out hfc hct)
      clear hfc hct
      go_wp2_with fail
      go_quiet (fail)
      go_wp2_with fail
      go_ret
      rw [HR.out]
      exact ⟨rfl, below_drewN hbel nq⟩
    · have hd : decide (c < f) = true := by rw [decide_eq_true_iff]; omega
      have HR := Lib.hid (valueL_miss hs HL.out (fun a ha => by rw [HX.out] at ha; cases ha; simp only; omega))
      clear hfc hct
      go_wp2_with fail
      go_quiet (fail)
      go_wp2_with fail
      go_ret
      rw [HR.out]
      exact ⟨rfl, below_drewN hbel nq⟩
  · have hb0 : ((k : Int) == (xs.length : Int)) = true := by rw [beq_iff_eq]; omega
    have HR := Lib.hid (valueL_miss hs HL.out (fun a ha => by have := (List.getElem?_eq_some_iff.1 ha).1; omega))
    clear hhigh hv2
    go_wp2_with fail
    go_quiet (fail)
    go_wp2_with fail
    go_ret
    rw [HR.out]
    exact ⟨rfl, below_drewN hbel nq⟩
end Go.Proofs.YtneinkpfhkojgaaGreatDoor
/-
  The walks through table.find and sort.SearchInts: binary searches over lists in order.
-/
namespace Go.Proofs.YtneinkpfhkojgaaGreatDoor
open Go.RowKit ND

/-- What the closure of find says of a place. -/
def pF (xs : List Mp) (c : Int) (i : Nat) : Bool := match xs[i]? with | some a => decide (c ≤ a.1) | none => true
theorem pF_some {xs : List Mp} {c : Int} {i : Nat} {a : Mp} (h : xs[i]? = some a) : pF xs c i = decide (c ≤ a.1) := by unfold pF; rw [h]
theorem pF_mono {xs : List Mp} {c : Int} (hs : sortM xs) (a b : Nat) (hab : a ≤ b) (hb : b < xs.length) (h : pF xs c a = true) : pF xs c b = true := by
  rcases Nat.lt_or_ge a b with hlt | hge
  · have ha : xs[a]? = some (xs[a]'(by omega)) := List.getElem?_eq_getElem (by omega)
    have hb' : xs[b]? = some xs[b] := List.getElem?_eq_getElem hb
    rw [pF_some ha, decide_eq_true_eq] at h
    rw [pF_some hb', decide_eq_true_eq]
    have := hs a b _ _ hlt ha hb'
    omega
  · obtain rfl : a = b := by omega
    exact h
/-- A sequence comes back: nil, if it is empty. -/
def RetSeq (w : World) (ys : List Int) (e : Ending) (w' : World) : Prop :=
  ∃ v, e = .returned v ∧ Ints w' w'.heap.size .i64 v ys ∧ (ys = [] → v = .slice none 0 0) ∧ Below w.heap.size w w'

set_option maxRecDepth 100000 in
set_option maxHeartbeats 400000 in
theorem findClos (bl bc : Nat) (A : Option Addr) (cap : Nat) (xs : List Mp) (c : Int) (W : World) (i : Nat) (hi : i < xs.length) (hbl : W.cell? ⟨bl, 0, none⟩ = some (.slice A xs.length cap)) (hbc : W.cell? ⟨bc, 0, none⟩ = some (.int .i64 c)) (hv : Mapps W W.heap.size (.slice A xs.length cap) xs) :
    Calls Tryz.prog 59 #[.int .i64 i, .pointer (some ⟨bl, 0, none⟩), .pointer (some ⟨bc, 0, none⟩)] W fun e W' => e = .returned (.bool (pF xs c i)) ∧ Below W.heap.size W W' := by
  obtain ⟨A', c', hA, _, _, _, hcell⟩ := hv
  cases hA
  obtain ⟨⟨f, ys⟩, hxi, _⟩ := get_el hi
  obtain ⟨ad, sv, rfl, ha, d0, d1, _⟩ := hcell i _ hxi
  obtain ⟨e0, e1⟩ := map_cells (Below.refl _ _) ha d0 d1
  rw [pF_some hxi]
  simp only at e0 e1 ⊢
  clear d0 d1 hcell hxi e1
  have k0 : (0 : Int) ≤ (i : Int) := by omega
  have k1 : (i : Int) < (xs.length : Int) := by omega
  go_enter Tryz.func59, Tryz.ntmps59
  go_wp2_with fail
  go_quiet (fail)
  go_wp2_with fail
  go_ret
  exact ⟨rfl, below_drewN (Below.refl _ _) nq⟩

set_option maxRecDepth 100000 in
set_option maxHeartbeats 1000000 in
theorem find_any (v : Value) (xs : List Mp) (c : Int) (w : World) (hv : Mapps w w.heap.size v xs) (hs : sortM xs) (hne : ∀ m ∈ xs, m.2 ≠ []) (hlen : xs.length ≤ 256) :
    Calls Tryz.prog 45 #[v, .int .i64 c] w (RetSeq w (findL xs c)) := by
  have eg := enters_of Tryz.func59 (by kernel_rfl) rfl
  have HV := Lib.hid hv
  obtain ⟨A, cap, rfl, _, _, _, _⟩ := hv
  have hbw : Below w.heap.size w ((w.alloc (.cells #[.slice A xs.length cap] 24)).alloc (.cells #[.int .i64 c] 3)) := ((Below.refl _ _).alloc (Nat.le_refl _) _).alloc (by simp) _
  have hboxes : ∀ W, Below ((w.alloc (.cells #[.slice A xs.length cap] 24)).alloc (.cells #[.int .i64 c] 3)).heap.size ((w.alloc (.cells #[.slice A xs.length cap] 24)).alloc (.cells #[.int .i64 c] 3)) W →
      W.cell? ⟨w.heap.size, 0, none⟩ = some (.slice A xs.length cap) ∧ W.cell? ⟨w.heap.size + 1, 0, none⟩ = some (.int .i64 c) := by
    intro W hb
    have hsz : (w.alloc (.cells #[.slice A xs.length cap] 24)).heap.size = w.heap.size + 1 := by simp
    have h1 := cell_new1 w (.slice A xs.length cap) 24
    have h2 := cell_new1 (w.alloc (.cells #[.slice A xs.length cap] 24)) (.int .i64 c) 3
    rw [hsz] at h2
    have h1' := (World.cell?_alloc_lt (w.alloc (.cells #[.slice A xs.length cap] 24)) (.cells #[.int .i64 c] 3) ⟨w.heap.size, 0, none⟩ (by simp)).trans h1
    exact ⟨(hb.cell (p := ⟨w.heap.size, 0, none⟩) (by simp; omega)).trans h1', (hb.cell (p := ⟨w.heap.size + 1, 0, none⟩) (by simp)).trans h2⟩
  have HB := Lib.hid hboxes
  have HBW := Lib.hid hbw
  clear hboxes hbw
  have HSR := Lib.hid (search_any 59 #[.pointer (some ⟨w.heap.size, 0, none⟩), .pointer (some ⟨w.heap.size + 1, 0, none⟩)] xs.length (pF xs c) ((w.alloc (.cells #[.slice A xs.length cap] 24)).alloc (.cells #[.int .i64 c] 3)) eg (by omega) (by
    intro W i hb hi
    exact findClos _ _ A cap xs c W i hi (HB.out W hb).1 (HB.out W hb).2 ((HV.out.later HBW.out).later hb)) (pF_mono hs))
  go_enter Tryz.func45, Tryz.ntmps45
  go_wp2_with fail
  refine HSR.out.mono ?_
  rintro e w2 ⟨k, rfl, hk, hlow, hhigh, b2⟩
  obtain ⟨q0, q1⟩ := HB.out w2 b2
  have hv2 := (HV.out.later HBW.out).later b2
  have hbel := HBW.out.trans (b2.mono HBW.out.size)
  have HL : Hid (∀ i a, i < k → xs[i]? = some a → a.1 < c) := Lib.hid (fun i a hi ha => by
    have := hlow i hi
    rw [pF_some ha, decide_eq_false_iff_not] at this
    omega)
  clear HSR HB HBW HV b2 hlow eg
  have HS := Lib.hid hs
  clear hs
  by_cases hkn : k < xs.length
  · obtain ⟨⟨f, ys⟩, hxk, hxm⟩ := get_el hkn
    have hct := hhigh hkn
    rw [pF_some hxk, decide_eq_true_eq] at hct
    have hysne := hne _ hxm
    obtain ⟨A', c', hA, _, _, _, hcell⟩ := hv2
    cases hA
    obtain ⟨ad, sv, rfl, ha, d0, d1, hsv⟩ := hcell k _ hxk
    obtain ⟨e0, e1⟩ := map_cells (Below.refl _ w2) ha d0 d1
    simp only at e0 e1 hct hysne hsv
    have HX := Lib.hid hxk
    have HSV := Lib.hid hsv
    have HNE := Lib.hid hysne
    clear d0 d1 hcell hxk hhigh hne hxm hysne hsv
    have k0 : (0 : Int) ≤ (k : Int) := by omega
    have k1 : (k : Int) < (xs.length : Int) := by omega
    have hb0 : ((k : Int) == (xs.length : Int)) = false := by rw [beq_eq_false_iff_ne]; omega
    by_cases hfc : f = c
    · have hd : (f != c) = false := by rw [hfc]; simp
      have HR := Lib.hid (findL_at HL.out HX.out hfc)
      clear hfc hct
      go_wp2_with fail
      go_quiet (fail)
      go_wp2_with fail
      go_ret
      rw [HR.out]
      exact ⟨_, rfl, (HSV.out.below (below_drewN (Below.refl _ w2) nq)).more (Nat.le_refl _), fun h => absurd h HNE.out, below_drewN hbel nq⟩
    · have hd : (f != c) = true := by rw [bne_iff_ne]; exact hfc
      have HR := Lib.hid (findL_miss HS.out HL.out (fun a ha => by rw [HX.out] at ha; cases ha; simp only; omega))
      clear hfc hct
      go_wp2_with fail
      go_quiet (fail)
      go_wp2_with fail
      go_ret
      rw [HR.out]
      exact ⟨_, rfl, Ints.none_, fun _ => rfl, below_drewN hbel nq⟩
  · have hb0 : ((k : Int) == (xs.length : Int)) = true := by rw [beq_iff_eq]; omega
    have HR := Lib.hid (findL_miss HS.out HL.out (fun a ha => by have := (List.getElem?_eq_some_iff.1 ha).1; omega))
    clear hhigh hv2
    go_wp2_with fail
    go_quiet (fail)
    go_wp2_with fail
    go_ret
    rw [HR.out]
    exact ⟨_, rfl, Ints.none_, fun _ => rfl, below_drewN hbel nq⟩
end Go.Proofs.YtneinkpfhkojgaaGreatDoor
/-
  The walks through the small functions on code points, of table and of its reference.
-/
namespace Go.Proofs.YtneinkpfhkojgaaGreatDoor
open Go.RowKit ND

set_option maxHeartbeats 400000 in
theorem syl_any (c : Int) (w : World) : Calls Tryz.prog 74 #[.int .i64 c] w fun e w' => e = .returned (.bool (sylB c)) ∧ w = w' := by
  go_enter Tryz.func74, Tryz.ntmps74
  go_wp2
  all_goals go_ret
  all_goals refine ⟨ret_bool (bool_eq ?_), rfl⟩
  all_goals rw [sylB_iff]
  all_goals simp
  all_goals omega
set_option maxHeartbeats 400000 in
theorem jamo_any (c : Int) (w : World) : Calls Tryz.prog 75 #[.int .i64 c] w fun e w' => e = .returned (.bool (jamoB c)) ∧ w = w' := by
  go_enter Tryz.func75, Tryz.ntmps75
  go_wp2
  all_goals go_ret
  all_goals refine ⟨ret_bool (bool_eq ?_), rfl⟩
  all_goals rw [jamoB_iff]
  all_goals simp
  all_goals omega
set_option maxHeartbeats 400000 in
theorem sur_any (c : Int) (w : World) : Calls Tryz.prog 73 #[.int .i64 c] w fun e w' => e = .returned (.bool (surB c)) ∧ w = w' := by
  go_enter Tryz.func73, Tryz.ntmps73
  go_wp2
  all_goals go_ret
  all_goals refine ⟨ret_bool (bool_eq ?_), rfl⟩
  all_goals rw [surB_iff]
  all_goals simp
  all_goals omega
set_option maxHeartbeats 400000 in
theorem name_any (c : Int) (w : World) : Calls Tryz.prog 89 #[.int .i64 c] w fun e w' => e = .returned (.bool (nameB c)) ∧ w = w' := by
  go_enter Tryz.func89, Tryz.ntmps89
  go_wp2
  all_goals go_ret
  all_goals refine ⟨ret_bool (bool_eq ?_), rfl⟩
  all_goals rw [nameB_iff]
  all_goals simp
  all_goals omega
set_option maxHeartbeats 400000 in
theorem refSyl_any (c : Int) (w : World) : Calls Tryz.prog 48 #[.int .i64 c] w fun e w' => e = .returned (.bool (sylB c)) ∧ w = w' := by
  go_enter Tryz.func48, Tryz.ntmps48
  go_wp2
  all_goals go_ret
  all_goals refine ⟨ret_bool (bool_eq ?_), rfl⟩
  all_goals rw [sylB_iff]
  all_goals simp
  all_goals omega
set_option maxHeartbeats 400000 in
theorem refJamo_any (c : Int) (w : World) : Calls Tryz.prog 99 #[.int .i64 c] w fun e w' => e = .returned (.bool (jamoB c)) ∧ w = w' := by
  go_enter Tryz.func99, Tryz.ntmps99
  go_wp2
  all_goals go_ret
  all_goals refine ⟨ret_bool (bool_eq ?_), rfl⟩
  all_goals rw [jamoB_iff]
  all_goals simp
  all_goals omega
set_option maxHeartbeats 400000 in
theorem latin_any (c : Int) (w : World) : Calls Tryz.prog 47 #[.int .i64 c] w fun e w' => e = .returned (.bool (nameB c)) ∧ w = w' := by
  go_enter Tryz.func47, Tryz.ntmps47
  go_wp2
  all_goals go_ret
  all_goals refine ⟨ret_bool (bool_eq ?_), rfl⟩
  all_goals rw [nameB_iff]
  all_goals simp
  all_goals omega

theorem resB_parts {c : Int} {a b d : Bool} (h1 : surB c = a) (h2 : sylB c = b) (h3 : jamoB c = d) : resB c = (decide (0 ≤ c ∧ c ≤ 127) || a || b || d) := by
  subst h1 h2 h3
  rw [Bool.eq_iff_iff, resB_iff]
  simp only [Bool.or_eq_true, decide_eq_true_eq, surB_iff, sylB_iff, jamoB_iff]
  omega

set_option maxHeartbeats 400000 in
theorem reserved_any (c : Int) (w : World) : Calls Tryz.prog 55 #[.int .i64 c] w fun e w' => e = .returned (.bool (resB c)) ∧ w = w' := by
  have h1 := Lib.hid (fun W => sur_any c W)
  have h2 := Lib.hid (fun W => syl_any c W)
  have h3 := Lib.hid (fun W => jamo_any c W)
  rw [resB_parts rfl rfl rfl]
  generalize surB c = b1 at *
  generalize sylB c = b2 at *
  generalize jamoB c = b3 at *
  rcases show (0 ≤ c ∧ c ≤ 127) ∨ ((c < 0 ∨ 127 < c) ∧ ¬(0 ≤ c ∧ c ≤ 127)) by omega with h | ⟨h, h'⟩
  · have hd : decide (0 ≤ c ∧ c ≤ 127) = true := decide_eq_true h
    rw [hd]
    obtain ⟨y0, y1⟩ := h
    go_enter Tryz.func55, Tryz.ntmps55
    go_wp2_with fail
    go_ret
    exact ⟨by simp, rfl⟩
  · have hd : decide (0 ≤ c ∧ c ≤ 127) = false := decide_eq_false h'
    rw [hd]
    clear h' hd
    rcases h with h | h
    all_goals
      cases b1
      · cases b2
        · go_enter Tryz.func55, Tryz.ntmps55
          go_wp2_with fail
          refine (h1.out _).mono ?_
          rintro e w' ⟨rfl, rfl⟩
          go_wp2_with fail
          refine (h2.out _).mono ?_
          rintro e w' ⟨rfl, rfl⟩
          go_wp2_with fail
          refine (h3.out _).mono ?_
          rintro e w' ⟨rfl, rfl⟩
          go_wp2_with fail
          go_ret
          exact ⟨by simp; try (intro h; omega), rfl⟩
        · go_enter Tryz.func55, Tryz.ntmps55
          go_wp2_with fail
          refine (h1.out _).mono ?_
          rintro e w' ⟨rfl, rfl⟩
          go_wp2_with fail
          refine (h2.out _).mono ?_
          rintro e w' ⟨rfl, rfl⟩
          go_wp2_with fail
          go_ret
          exact ⟨by simp, rfl⟩
      · go_enter Tryz.func55, Tryz.ntmps55
        go_wp2_with fail
        refine (h1.out _).mono ?_
        rintro e w' ⟨rfl, rfl⟩
        go_wp2_with fail
        go_ret
        exact ⟨by simp, rfl⟩

set_option maxHeartbeats 400000 in
theorem refReserved_any (c : Int) (w : World) : Calls Tryz.prog 98 #[.int .i64 c] w fun e w' => e = .returned (.bool (resB c)) ∧ w = w' := by
  have h2 := Lib.hid (fun W => refSyl_any c W)
  have h3 := Lib.hid (fun W => refJamo_any c W)
  rw [resB_parts rfl rfl rfl]
  generalize hb1 : surB c = b1
  generalize sylB c = b2 at *
  generalize jamoB c = b3 at *
  have hs : (b1 = true ∧ 55296 ≤ c ∧ c ≤ 57343) ∨ (b1 = false ∧ (c < 55296 ∨ 57343 < c)) := by
    subst hb1
    unfold surB
    by_cases h : 55296 ≤ c ∧ c ≤ 57343
    · exact .inl ⟨decide_eq_true h, h⟩
    · exact .inr ⟨decide_eq_false h, by omega⟩
  clear hb1
  rcases show (0 ≤ c ∧ c ≤ 127) ∨ ((c < 0 ∨ 127 < c) ∧ ¬(0 ≤ c ∧ c ≤ 127)) by omega with h | ⟨h, h'⟩
  · have hd : decide (0 ≤ c ∧ c ≤ 127) = true := decide_eq_true h
    rw [hd]
    obtain ⟨y0, y1⟩ := h
    go_enter Tryz.func98, Tryz.ntmps98
    go_wp2_with fail
    go_ret
    exact ⟨by simp, rfl⟩
  · have hd : decide (0 ≤ c ∧ c ≤ 127) = false := decide_eq_false h'
    rw [hd]
    clear h' hd
    rcases hs with ⟨rfl, y0, y1⟩ | ⟨rfl, hs⟩
    · have h1 : 127 < c := by omega
      clear h
      go_enter Tryz.func98, Tryz.ntmps98
      go_wp2_with fail
      go_ret
      exact ⟨by simp; try omega, rfl⟩
    · have hw : c < 0 ∨ (127 < c ∧ c < 55296) ∨ 57343 < c := by omega
      clear h hs
      rcases hw with h | ⟨h, hs⟩ | h
      all_goals
        cases b2
        · go_enter Tryz.func98, Tryz.ntmps98
          go_wp2_with fail
          refine (h2.out _).mono ?_
          rintro e w' ⟨rfl, rfl⟩
          go_wp2_with fail
          refine (h3.out _).mono ?_
          rintro e w' ⟨rfl, rfl⟩
          go_wp2_with fail
          go_ret
          exact ⟨by simp; try omega, rfl⟩
        · go_enter Tryz.func98, Tryz.ntmps98
          go_wp2_with fail
          refine (h2.out _).mono ?_
          rintro e w' ⟨rfl, rfl⟩
          go_wp2_with fail
          go_ret
          exact ⟨by simp; try omega, rfl⟩

/-- What a key may be behind another one. -/
def pointB (last c : Int) : Bool := decide (last < c ∧ c ≤ 1114111) && !resB c
set_option maxHeartbeats 400000 in
theorem point_any (last c : Int) (w : World) : Calls Tryz.prog 88 #[.int .i64 last, .int .i64 c] w fun e w' => e = .returned (.bool (pointB last c)) ∧ w = w' := by
  have h1 := Lib.hid (fun W => reserved_any c W)
  unfold pointB
  generalize resB c = b1 at *
  rcases show (last < c ∧ c ≤ 1114111) ∨ (c ≤ last ∧ ¬(last < c ∧ c ≤ 1114111)) ∨ (last < c ∧ 1114111 < c ∧ ¬(last < c ∧ c ≤ 1114111)) by omega with h | ⟨h, h'⟩ | ⟨h, h0, h'⟩
  · have hd : decide (last < c ∧ c ≤ 1114111) = true := decide_eq_true h
    rw [hd]
    clear hd
    obtain ⟨y0, y1⟩ := h
    go_enter Tryz.func88, Tryz.ntmps88
    go_wp2_with fail
    refine (h1.out _).mono ?_
    rintro e w' ⟨rfl, rfl⟩
    go_wp2_with fail
    go_ret
    exact ⟨by simp, rfl⟩
  · have hd : decide (last < c ∧ c ≤ 1114111) = false := decide_eq_false h'
    rw [hd]
    clear hd h'
    go_enter Tryz.func88, Tryz.ntmps88
    go_wp2_with fail
    go_ret
    exact ⟨by simp, rfl⟩
  · have hd : decide (last < c ∧ c ≤ 1114111) = false := decide_eq_false h'
    rw [hd]
    clear hd h'
    go_enter Tryz.func88, Tryz.ntmps88
    go_wp2_with fail
    go_ret
    exact ⟨by simp, rfl⟩
end Go.Proofs.YtneinkpfhkojgaaGreatDoor
/-
  The walks through utf.scalar and utf.Length.
-/
namespace Go.Proofs.YtneinkpfhkojgaaGreatDoor
open Go.RowKit ND

set_option maxHeartbeats 400000 in
theorem scalar_any (c : Int) (w : World) : Calls Tryz.prog 72 #[.int .i64 c] w fun e w' => e = .returned (.bool (scalarB c)) ∧ w = w' := by
  go_enter Tryz.func72, Tryz.ntmps72
  go_wp2
  all_goals go_ret
  all_goals refine ⟨ret_bool (bool_eq ?_), rfl⟩
  all_goals rw [scalarB_iff]
  all_goals simp
  all_goals omega
theorem lenC_no {c : Int} (h : scalarB c = false) : lenC c = 0 := by unfold lenC; rw [h]; rfl
theorem lenC_yes {c : Int} (h : scalarB c = true) : lenC c = if c ≤ 127 then 1 else if c ≤ 2047 then 2 else if c ≤ 65535 then 3 else 4 := by unfold lenC; rw [if_pos h]
set_option maxHeartbeats 400000 in
theorem length_any (c : Int) (w : World) : Calls Tryz.prog 53 #[.int .i64 c] w fun e w' => e = .returned (.int .i64 (lenC c : Int)) ∧ w = w' := by
  cases h : scalarB c
  · have hc := Lib.hid (fun w => scalar_any c w)
    rw [h] at hc
    rw [lenC_no h]
    clear h
    go_enter Tryz.func53, Tryz.ntmps53
    go_wp2_with (go_at_call 72; refine (hc.out _).mono ?_; rintro e w' ⟨rfl, rfl⟩)
    go_ret
    exact ⟨rfl, rfl⟩
  · have hc := Lib.hid (fun w => scalar_any c w)
    rw [h] at hc
    rw [lenC_yes h]
    clear h
    go_enter Tryz.func53, Tryz.ntmps53
    go_wp2_with (go_at_call 72; refine (hc.out _).mono ?_; rintro e w' ⟨rfl, rfl⟩)
    all_goals go_ret
    all_goals refine ⟨ret_int ?_, rfl⟩
    all_goals (repeat (first | rfl | rw [if_pos (by omega)] | rw [if_neg (by omega)]))
end Go.Proofs.YtneinkpfhkojgaaGreatDoor
/-
  The walks through table.fixed, table.pick and the properties of a code point.
-/
namespace Go.Proofs.YtneinkpfhkojgaaGreatDoor
open Go.RowKit ND

def fixV (q : Int × Int × Int × Int) : Value := .agg #[.int .i64 q.1, .int .i64 q.2.1, .int .i64 q.2.2.1, .int .i64 q.2.2.2]

/-- The ways through fixed at a reserved code point. -/
theorem fix_ways (c : Int) (h : resB c = true) :
    (97 ≤ c ∧ c ≤ 122 ∧ fixC c = (1, 0, 3, 1)) ∨ (65 ≤ c ∧ c ≤ 90 ∧ fixC c = (1, 0, 3, 3)) ∨ (48 ≤ c ∧ c ≤ 57 ∧ fixC c = (3, 4, 1, 1)) ∨ (c = 45 ∧ fixC c = (5, 5, 1, 1)) ∨ (c = 46 ∧ fixC c = (5, 6, 1, 1)) ∨ (c = 32 ∧ fixC c = (7, 11, 1, 0)) ∨
    (0 ≤ c ∧ c < 32 ∧ fixC c = (8, 11, 1, 0)) ∨ (c = 127 ∧ fixC c = (8, 11, 1, 0)) ∨
    (c < 127 ∧ 32 < c ∧ (c == 45) = false ∧ (c == 46) = false ∧ (c < 48 ∨ 57 < c ∧ c < 65 ∨ 90 < c ∧ c < 97 ∨ 122 < c) ∧ fixC c = (5, 8, 1, 0)) ∨
    (44032 ≤ c ∧ sylB c = true ∧ fixC c = (1, 0, 9, 1)) ∨ (128 ≤ c ∧ sylB c = false ∧ jamoB c = true ∧ fixC c = (1, 0, 9, 0)) ∨ (55296 ≤ c ∧ sylB c = false ∧ jamoB c = false ∧ fixC c = (0, 0, 0, 0)) := by
  have h' := (resB_iff c).1 h
  have e1 : (sylB c = true ↔ 44032 ≤ c ∧ c ≤ 55203) := sylB_iff c
  have e2 := jamoB_iff c
  have e1' : sylB c = false ↔ ¬(44032 ≤ c ∧ c ≤ 55203) := by rw [← e1]; simp
  have e2' : jamoB c = false ↔ ¬(4352 ≤ c ∧ c ≤ 4370 ∨ 4449 ≤ c ∧ c ≤ 4469 ∨ 4520 ≤ c ∧ c ≤ 4546) := by rw [← e2]; simp
  rw [e1, e1', e2, e2', beq_eq_false_iff_ne, beq_eq_false_iff_ne]
  unfold fixC
  by_cases a1 : 97 ≤ c ∧ c ≤ 122
  · exact .inl ⟨a1.1, a1.2, if_pos a1⟩
  rw [if_neg a1]
  by_cases a2 : 65 ≤ c ∧ c ≤ 90
  · exact .inr (.inl ⟨a2.1, a2.2, if_pos a2⟩)
  rw [if_neg a2]
  by_cases a3 : 48 ≤ c ∧ c ≤ 57
  · exact .inr (.inr (.inl ⟨a3.1, a3.2, if_pos a3⟩))
  rw [if_neg a3]
  by_cases a4 : c = 45
  · exact .inr (.inr (.inr (.inl ⟨a4, if_pos a4⟩)))
  rw [if_neg a4]
  by_cases a5 : c = 46
  · exact .inr (.inr (.inr (.inr (.inl ⟨a5, if_pos a5⟩))))
  rw [if_neg a5]
  by_cases a6 : c = 32
  · exact .inr (.inr (.inr (.inr (.inr (.inl ⟨a6, if_pos a6⟩)))))
  rw [if_neg a6]
  by_cases a7 : c < 32 ∨ c = 127
  · rw [if_pos a7]
    rcases a7 with a7 | a7
    · exact .inr (.inr (.inr (.inr (.inr (.inr (.inl ⟨by omega, a7, rfl⟩))))))
    · exact .inr (.inr (.inr (.inr (.inr (.inr (.inr (.inl ⟨a7, rfl⟩)))))))
  rw [if_neg a7]
  by_cases a8 : c < 127
  · rw [if_pos a8]
    exact .inr (.inr (.inr (.inr (.inr (.inr (.inr (.inr (.inl ⟨a8, by omega, a4, a5, by omega, rfl⟩))))))))
  rw [if_neg a8]
  by_cases a9 : 44032 ≤ c ∧ c ≤ 55203
  · rw [if_pos a9]
    exact .inr (.inr (.inr (.inr (.inr (.inr (.inr (.inr (.inr (.inl ⟨a9.1, a9, rfl⟩)))))))))
  rw [if_neg a9]
  by_cases a10 : 4352 ≤ c ∧ c ≤ 4370 ∨ 4449 ≤ c ∧ c ≤ 4469 ∨ 4520 ≤ c ∧ c ≤ 4546
  · rw [if_pos a10]
    exact .inr (.inr (.inr (.inr (.inr (.inr (.inr (.inr (.inr (.inr (.inl ⟨by omega, a9, a10, rfl⟩))))))))))
  rw [if_neg a10]
  exact .inr (.inr (.inr (.inr (.inr (.inr (.inr (.inr (.inr (.inr (.inr ⟨by omega, a9, a10, rfl⟩))))))))))

set_option maxRecDepth 100000 in
set_option maxHeartbeats 1000000 in
theorem fixed_any (c : Int) (h : resB c = true) (w : World) : Calls Tryz.prog 56 #[.int .i64 c] w fun e w' => e = .returned (fixV (fixC c)) ∧ Below w.heap.size w w' := by
  have h1 := Lib.hid (fun W => syl_any c W)
  have h2 := Lib.hid (fun W => jamo_any c W)
  have hb := ((Below.refl w.heap.size w).alloc (Nat.le_refl _) (.cells #[.int .i64 0, .int .i64 0, .int .i64 0, .int .i64 0] 69))
  rcases fix_ways c h with ⟨y0, y1, hf⟩ | ⟨y0, y1, hf⟩ | ⟨y0, y1, hf⟩ | ⟨rfl, hf⟩ | ⟨rfl, hf⟩ | ⟨rfl, hf⟩ | ⟨y0, y1, hf⟩ | ⟨rfl, hf⟩ | ⟨y0, y1, y2, y3, y4, hf⟩ | ⟨y0, y1, hf⟩ | ⟨y0, y1, y2, hf⟩ | ⟨y0, y1, y2, hf⟩
  · rw [hf]
    clear hf h
    go_enter Tryz.func56, Tryz.ntmps56
    go_wp2_with fail
    refine bodyPost_ret (v := .agg #[.int .i64 1, .int .i64 0, .int .i64 3, .int .i64 1]) (by simp [results, Tryz.results56, go_sem]) rfl ⟨rfl, ?_⟩
    repeat (first | exact Below.refl _ _ | refine Below.setCell ?_ (by simp) _ | refine Below.alloc ?_ (by simp) _)
  · rw [hf]
    clear hf h
    go_enter Tryz.func56, Tryz.ntmps56
    go_wp2_with fail
    refine bodyPost_ret (v := .agg #[.int .i64 1, .int .i64 0, .int .i64 3, .int .i64 3]) (by simp [results, Tryz.results56, go_sem]) rfl ⟨rfl, ?_⟩
    repeat (first | exact Below.refl _ _ | refine Below.setCell ?_ (by simp) _ | refine Below.alloc ?_ (by simp) _)
  · rw [hf]
    clear hf h
    go_enter Tryz.func56, Tryz.ntmps56
    go_wp2_with fail
    refine bodyPost_ret (v := .agg #[.int .i64 3, .int .i64 4, .int .i64 1, .int .i64 1]) (by simp [results, Tryz.results56, go_sem]) rfl ⟨rfl, ?_⟩
    repeat (first | exact Below.refl _ _ | refine Below.setCell ?_ (by simp) _ | refine Below.alloc ?_ (by simp) _)
  · rw [hf]
    clear hf h
    go_enter Tryz.func56, Tryz.ntmps56
    go_wp2_with fail
    refine bodyPost_ret (v := .agg #[.int .i64 5, .int .i64 5, .int .i64 1, .int .i64 1]) (by simp [results, Tryz.results56, go_sem]) rfl ⟨rfl, ?_⟩
    repeat (first | exact Below.refl _ _ | refine Below.setCell ?_ (by simp) _ | refine Below.alloc ?_ (by simp) _)
  · rw [hf]
    clear hf h
    go_enter Tryz.func56, Tryz.ntmps56
    go_wp2_with fail
    refine bodyPost_ret (v := .agg #[.int .i64 5, .int .i64 6, .int .i64 1, .int .i64 1]) (by simp [results, Tryz.results56, go_sem]) rfl ⟨rfl, ?_⟩
    repeat (first | exact Below.refl _ _ | refine Below.setCell ?_ (by simp) _ | refine Below.alloc ?_ (by simp) _)
  · rw [hf]
    clear hf h
    go_enter Tryz.func56, Tryz.ntmps56
    go_wp2_with fail
    refine bodyPost_ret (v := .agg #[.int .i64 7, .int .i64 11, .int .i64 1, .int .i64 0]) (by simp [results, Tryz.results56, go_sem]) rfl ⟨rfl, ?_⟩
    repeat (first | exact Below.refl _ _ | refine Below.setCell ?_ (by simp) _ | refine Below.alloc ?_ (by simp) _)
  · rw [hf]
    clear hf h
    go_enter Tryz.func56, Tryz.ntmps56
    go_wp2_with fail
    refine bodyPost_ret (v := .agg #[.int .i64 8, .int .i64 11, .int .i64 1, .int .i64 0]) (by simp [results, Tryz.results56, go_sem]) rfl ⟨rfl, ?_⟩
    repeat (first | exact Below.refl _ _ | refine Below.setCell ?_ (by simp) _ | refine Below.alloc ?_ (by simp) _)
  · rw [hf]
    clear hf h
    go_enter Tryz.func56, Tryz.ntmps56
    go_wp2_with fail
    refine bodyPost_ret (v := .agg #[.int .i64 8, .int .i64 11, .int .i64 1, .int .i64 0]) (by simp [results, Tryz.results56, go_sem]) rfl ⟨rfl, ?_⟩
    repeat (first | exact Below.refl _ _ | refine Below.setCell ?_ (by simp) _ | refine Below.alloc ?_ (by simp) _)
  · rw [hf]
    clear hf h
    have q3 : (c == 32) = false := by rw [beq_eq_false_iff_ne]; omega
    have q4 : (c == 127) = false := by rw [beq_eq_false_iff_ne]; omega
    rcases y4 with y4 | ⟨y4, y5⟩ | ⟨y4, y5⟩ | y4
    all_goals
      go_enter Tryz.func56, Tryz.ntmps56
      go_wp2_with fail
      refine bodyPost_ret (v := .agg #[.int .i64 5, .int .i64 8, .int .i64 1, .int .i64 0]) (by simp [results, Tryz.results56, go_sem]) rfl ⟨rfl, ?_⟩
      repeat (first | exact Below.refl _ _ | refine Below.setCell ?_ (by simp) _ | refine Below.alloc ?_ (by simp) _)
  · rw [hf]
    clear hf h
    have q1 : (c == 45) = false := by rw [beq_eq_false_iff_ne]; omega
    have q2 : (c == 46) = false := by rw [beq_eq_false_iff_ne]; omega
    have q3 : (c == 32) = false := by rw [beq_eq_false_iff_ne]; omega
    have q4 : (c == 127) = false := by rw [beq_eq_false_iff_ne]; omega
    have h1' := Lib.hid h1.out
    rw [y1] at h1'
    clear y1
    go_enter Tryz.func56, Tryz.ntmps56
    go_wp2_with fail
    refine (h1'.out _).mono ?_
    rintro e w' ⟨rfl, rfl⟩
    go_wp2_with fail
    refine bodyPost_ret (v := .agg #[.int .i64 1, .int .i64 0, .int .i64 9, .int .i64 1]) (by simp [results, Tryz.results56, go_sem]) rfl ⟨rfl, ?_⟩
    repeat (first | exact Below.refl _ _ | refine Below.setCell ?_ (by simp) _ | refine Below.alloc ?_ (by simp) _)
  · rw [hf]
    clear hf h
    have q1 : (c == 45) = false := by rw [beq_eq_false_iff_ne]; omega
    have q2 : (c == 46) = false := by rw [beq_eq_false_iff_ne]; omega
    have q3 : (c == 32) = false := by rw [beq_eq_false_iff_ne]; omega
    have q4 : (c == 127) = false := by rw [beq_eq_false_iff_ne]; omega
    have h1' := Lib.hid h1.out
    rw [y1] at h1'
    have h2' := Lib.hid h2.out
    rw [y2] at h2'
    clear y1 y2
    go_enter Tryz.func56, Tryz.ntmps56
    go_wp2_with fail
    refine (h1'.out _).mono ?_
    rintro e w' ⟨rfl, rfl⟩
    go_wp2_with fail
    refine (h2'.out _).mono ?_
    rintro e w' ⟨rfl, rfl⟩
    go_wp2_with fail
    refine bodyPost_ret (v := .agg #[.int .i64 1, .int .i64 0, .int .i64 9, .int .i64 0]) (by simp [results, Tryz.results56, go_sem]) rfl ⟨rfl, ?_⟩
    repeat (first | exact Below.refl _ _ | refine Below.setCell ?_ (by simp) _ | refine Below.alloc ?_ (by simp) _)
  · rw [hf]
    clear hf h
    have q1 : (c == 45) = false := by rw [beq_eq_false_iff_ne]; omega
    have q2 : (c == 46) = false := by rw [beq_eq_false_iff_ne]; omega
    have q3 : (c == 32) = false := by rw [beq_eq_false_iff_ne]; omega
    have q4 : (c == 127) = false := by rw [beq_eq_false_iff_ne]; omega
    have h1' := Lib.hid h1.out
    rw [y1] at h1'
    have h2' := Lib.hid h2.out
    rw [y2] at h2'
    clear y1 y2
    go_enter Tryz.func56, Tryz.ntmps56
    go_wp2_with fail
    refine (h1'.out _).mono ?_
    rintro e w' ⟨rfl, rfl⟩
    go_wp2_with fail
    refine (h2'.out _).mono ?_
    rintro e w' ⟨rfl, rfl⟩
    go_wp2_with fail
    refine bodyPost_ret (v := .agg #[.int .i64 0, .int .i64 0, .int .i64 0, .int .i64 0]) (by simp [results, Tryz.results56, go_sem]) rfl ⟨rfl, ?_⟩
    repeat (first | exact Below.refl _ _ | refine Below.setCell ?_ (by simp) _ | refine Below.alloc ?_ (by simp) _)
end Go.Proofs.YtneinkpfhkojgaaGreatDoor
/-
  Properties out of a list of spans: the walk through table.pick.
-/
namespace Go.Proofs.YtneinkpfhkojgaaGreatDoor
open Go.RowKit ND

theorem propL_zero {l : List Sp} {own c : Int} (h : lenC c = 0) : propL l own c = 0 := by unfold propL; rw [if_pos h]
theorem propL_own {l : List Sp} {own c : Int} (h : lenC c ≠ 0) (h2 : resB c = true) : propL l own c = own := by unfold propL; rw [if_neg h, if_pos h2]
theorem propL_list {l : List Sp} {own c : Int} (h : lenC c ≠ 0) (h2 : resB c = false) : propL l own c = valueL l c := by unfold propL; rw [if_neg h, if_neg (by rw [h2]; simp)]

set_option maxRecDepth 100000 in
set_option maxHeartbeats 1000000 in
theorem pick_prop (g : Nat) (sel : Int × Int × Int × Int → Int) (v : Value) (xs : List Sp) (c lo hi : Int) (w : World) (eg : ∀ args w, (callFunc g args).run Tryz.prog w = .ok (.enter g args) w)
    (hown : ∀ W q, Calls Tryz.prog g #[fixV q] W fun e W' => e = .returned (.int .i64 (sel q)) ∧ Below W.heap.size W W')
    (hv : Spans w w.heap.size v xs) (hs : okS lo hi (-1) xs = true) (hlen : xs.length ≤ 256) :
    Calls Tryz.prog 42 #[v, .int .i64 c, .func (.func g) #[] #[]] w fun e w' => e = .returned (.int .i64 (propL xs (sel (fixC c)) c)) ∧ Below w.heap.size w w' := by
  have HL := Lib.hid (fun W => length_any c W)
  have HRS := Lib.hid (fun W => reserved_any c W)
  have HO := Lib.hid hown
  have HV := Lib.hid (fun W (h : Spans W W.heap.size v xs) => value_any v xs c lo hi W h hs hlen)
  have HW := Lib.hid hv
  clear hown hv hs hlen
  obtain ⟨n, hn⟩ : ∃ n, n = lenC c := ⟨_, rfl⟩
  rw [← hn] at HL
  by_cases h0 : n = 0
  · rw [propL_zero (hn.symm.trans h0)]
    have hb : ((n : Int) == 0) = true := by rw [beq_iff_eq]; omega
    clear hn h0 HO HV HW HRS eg
    go_enter Tryz.func42, Tryz.ntmps42
    go_wp2_with fail
    refine (HL.out _).mono ?_
    rintro e w1 ⟨rfl, rfl⟩
    go_wp2_with fail
    go_ret
    exact ⟨rfl, Below.refl _ _⟩
  · have hb : ((n : Int) == 0) = false := by rw [beq_eq_false_iff_ne]; omega
    have hn0 : lenC c ≠ 0 := by rw [← hn]; exact h0
    clear hn h0
    cases hr : resB c
    · rw [propL_list hn0 hr]
      rw [hr] at HRS
      clear hn0 hr HO eg
      go_enter Tryz.func42, Tryz.ntmps42
      go_wp2_with fail
      refine (HL.out _).mono ?_
      rintro e w1 ⟨rfl, rfl⟩
      go_wp2_with fail
      refine (HRS.out _).mono ?_
      rintro e w1 ⟨rfl, rfl⟩
      go_wp2_with fail
      refine (HV.out _ HW.out).mono ?_
      rintro e w1 ⟨rfl, b1⟩
      go_wp2_with fail
      go_ret
      exact ⟨rfl, b1⟩
    · rw [propL_own hn0 hr]
      have HF := Lib.hid (fun W => fixed_any c hr W)
      rw [hr] at HRS
      generalize fixC c = q at *
      clear hn0 hr HV HW
      go_enter Tryz.func42, Tryz.ntmps42
      go_wp2_with fail
      refine (HL.out _).mono ?_
      rintro e w1 ⟨rfl, rfl⟩
      go_wp2_with fail
      refine (HRS.out _).mono ?_
      rintro e w1 ⟨rfl, rfl⟩
      go_wp2_with fail
      refine (HF.out _).mono ?_
      rintro e w1 ⟨rfl, b1⟩
      have hq : fixV q = fixV q := rfl
      clear hq
      go_wp2_with fail
      refine (HO.out w1 q).mono ?_
      rintro e w2 ⟨rfl, b2⟩
      go_wp2_with fail
      go_ret
      exact ⟨rfl, below_next b1 b2⟩
end Go.Proofs.YtneinkpfhkojgaaGreatDoor
/-
  The walks through the reference's value, find, Class, Joining, Ignorable, Status, Excluded, and through table.Excluded.
-/
namespace Go.Proofs.YtneinkpfhkojgaaGreatDoor
open Go.RowKit ND

theorem value_go {l : List Sp} {k : Nat} {s : Sp} {c R : Int} (hx : l[k]? = some s) (h : valueL (l.drop k) c = R) (h1 : ¬(s.1 ≤ c ∧ c ≤ s.2.1)) : valueL (l.drop (k + 1)) c = R := by
  rw [drop_of_get hx, valueL, if_neg h1] at h; exact h
theorem value_hit {l : List Sp} {k : Nat} {s : Sp} {c R : Int} (hx : l[k]? = some s) (h : valueL (l.drop k) c = R) (h1 : s.1 ≤ c ∧ c ≤ s.2.1) : R = s.2.2 := by
  rw [drop_of_get hx, valueL, if_pos h1] at h; exact h.symm
theorem value_end {l : List Sp} {k : Nat} {c R : Int} (hk : l.length ≤ k) (h : valueL (l.drop k) c = R) : R = 0 := by
  rw [List.drop_eq_nil_of_le hk] at h; exact h.symm

set_option maxRecDepth 100000 in
set_option maxHeartbeats 1000000 in
theorem refValue_any (v : Value) (xs : List Sp) (c : Int) (w : World) (hv : Spans w w.heap.size v xs) :
    Calls Tryz.prog 39 #[v, .int .i64 c] w fun e w' => e = .returned (.int .i64 (valueL xs c)) ∧ Below w.heap.size w w' := by
  obtain ⟨A, cp, rfl, hc1, hc2, _, hcell⟩ := hv
  have HC := Lib.hid hcell
  have hlm : xs.length ≤ 9223372036854775807 := by unfold maxLen at hc2; omega
  clear hcell hc1 hc2
  obtain ⟨R, hR⟩ : ∃ R, R = valueL xs c := ⟨_, rfl⟩
  rw [← hR]
  have HR : Hid (valueL (xs.drop 0) c = R) := Lib.hid hR.symm
  clear hR
  go_enter Tryz.func39, Tryz.ntmps39
  go_wp2_with fail
  go_loopw [9] (fun i wr => ∃ (j : Nat), j ≤ xs.length ∧ i = .int .i64 j ∧ Hid (valueL (xs.drop j) c = R) ∧ Below w.heap.size w wr) (fun i _ => xs.length - (intOf i).toNat)
  case atStart => exact ⟨0, by omega, rfl, HR, Below.refl _ _⟩
  case round =>
    obtain ⟨j, hj, rfl, HS, hbel⟩ := hrel
    clear HR
    by_cases hjl : j < xs.length
    · obtain ⟨⟨f, t, x⟩, hxj, _⟩ := get_el hjl
      obtain ⟨aj, rfl, ha, d0, d1, d2⟩ := HC.out j _ hxj
      simp only at d0 d1 d2
      obtain ⟨e0, e1, e2⟩ := span_cells hbel ha d0 d1 d2
      have HX := Lib.hid hxj
      clear d0 d1 d2 hxj ha
      have r0 : (0 : Int) ≤ (j : Int) := by omega
      have r1 : (j : Int) < (xs.length : Int) := by omega
      by_cases h1 : f ≤ c
      · by_cases h2 : c ≤ t
        · have HN := Lib.hid (value_hit HX.out HS.out ⟨h1, h2⟩)
          go_wp2_with fail
          go_ret
          rw [HN.out]
          exact ⟨rfl, hbel.alloc hbel.size _⟩
        · have HN := Lib.hid (value_go HX.out HS.out (fun h => h2 h.2))
          have p1 : decide (c ≤ t) = false := decide_eq_false h2
          clear h2
          go_wp2_with fail
          go_roundw
          case rel => exact ⟨j + 1, by omega, by go_num, HN, hbel.alloc hbel.size _⟩
          case measure => simp [intOf]; omega
      · have HN := Lib.hid (value_go HX.out HS.out (fun h => h1 h.1))
        have p1 : decide (f ≤ c) = false := decide_eq_false h1
        clear h1
        go_wp2_with fail
        go_roundw
        case rel => exact ⟨j + 1, by omega, by go_num, HN, hbel.alloc hbel.size _⟩
        case measure => simp [intOf]; omega
    · have HN := Lib.hid (value_end (by omega) HS.out)
      go_wp2_with fail
      go_ret
      rw [HN.out]
      exact ⟨rfl, hbel⟩

theorem find_go {l : List Mp} {k : Nat} {m : Mp} {c : Int} {R : List Int} (hx : l[k]? = some m) (h : findL (l.drop k) c = R) (h1 : m.1 ≠ c) : findL (l.drop (k + 1)) c = R := by
  rw [drop_of_get hx, findL, if_neg h1] at h; exact h
theorem find_hit {l : List Mp} {k : Nat} {m : Mp} {c : Int} {R : List Int} (hx : l[k]? = some m) (h : findL (l.drop k) c = R) (h1 : m.1 = c) : R = m.2 := by
  rw [drop_of_get hx, findL, if_pos h1] at h; exact h.symm
theorem find_end {l : List Mp} {k : Nat} {c : Int} {R : List Int} (hk : l.length ≤ k) (h : findL (l.drop k) c = R) : R = [] := by
  rw [List.drop_eq_nil_of_le hk] at h; exact h.symm
/-- A sequence comes back. -/
def RetInts (w : World) (ys : List Int) (e : Ending) (w' : World) : Prop := ∃ v, e = .returned v ∧ Ints w' w'.heap.size .i64 v ys ∧ Below w.heap.size w w'

set_option maxRecDepth 100000 in
set_option maxHeartbeats 1000000 in
theorem refFind_any (v : Value) (xs : List Mp) (c : Int) (w : World) (hv : Mapps w w.heap.size v xs) :
    Calls Tryz.prog 49 #[v, .int .i64 c] w (RetInts w (findL xs c)) := by
  obtain ⟨A, cp, rfl, hc1, hc2, _, hcell⟩ := hv
  have HC := Lib.hid hcell
  have hlm : xs.length ≤ 9223372036854775807 := by unfold maxLen at hc2; omega
  clear hcell hc1 hc2
  obtain ⟨R, hR⟩ : ∃ R, R = findL xs c := ⟨_, rfl⟩
  rw [← hR]
  have HR : Hid (findL (xs.drop 0) c = R) := Lib.hid hR.symm
  clear hR
  go_enter Tryz.func49, Tryz.ntmps49
  go_wp2_with fail
  go_loopw [9] (fun i wr => ∃ (j : Nat), j ≤ xs.length ∧ i = .int .i64 j ∧ Hid (findL (xs.drop j) c = R) ∧ Below w.heap.size w wr) (fun i _ => xs.length - (intOf i).toNat)
  case atStart => exact ⟨0, by omega, rfl, HR, Below.refl _ _⟩
  case round =>
    obtain ⟨j, hj, rfl, HS, hbel⟩ := hrel
    clear HR
    by_cases hjl : j < xs.length
    · obtain ⟨⟨f, tg⟩, hxj, _⟩ := get_el hjl
      obtain ⟨aj, sv, rfl, ha, d0, d1, hto⟩ := HC.out j _ hxj
      simp only at d0 d1 hto
      obtain ⟨A', c', rfl, _⟩ := id hto
      obtain ⟨e0, e1⟩ := map_cells hbel ha d0 d1
      have HX := Lib.hid hxj
      have HTO := Lib.hid (((hto.below hbel).more hbel.size).later ((Below.refl _ _).alloc (Nat.le_refl _) (.cells #[.int .i64 f, .slice A' tg.length c'] 49)))
      clear d0 d1 hxj ha hto
      have r0 : (0 : Int) ≤ (j : Int) := by omega
      have r1 : (j : Int) < (xs.length : Int) := by omega
      by_cases h1 : f = c
      · have HN := Lib.hid (find_hit HX.out HS.out h1)
        have p1 : (f == c) = true := by rw [beq_iff_eq]; exact h1
        clear h1
        go_wp2_with fail
        go_ret
        rw [HN.out]
        exact ⟨_, rfl, HTO.out, hbel.alloc hbel.size _⟩
      · have HN := Lib.hid (find_go HX.out HS.out h1)
        have p1 : (f == c) = false := by rw [beq_eq_false_iff_ne]; exact h1
        clear h1 HTO
        go_wp2_with fail
        go_roundw
        case rel => exact ⟨j + 1, by omega, by go_num, HN, hbel.alloc hbel.size _⟩
        case measure => simp [intOf]; omega
    · have HN := Lib.hid (find_end (by omega) HS.out)
      go_wp2_with fail
      go_ret
      rw [HN.out]
      exact ⟨_, rfl, Ints.none_, hbel⟩

set_option maxRecDepth 100000 in
set_option maxHeartbeats 400000 in
theorem refClass_any (t : Tv) (T : Tab) (c : Int) (w : World) (ht : TabR w w.heap.size t T) :
    Calls Tryz.prog 102 #[t.val, .int .i64 c] w fun e w' => e = .returned (.int .i64 (T.classOf c)) ∧ Below w.heap.size w w' := by
  have HR := Lib.hid (fun o : Obj => ht.r1.later ((Below.refl _ _).alloc (Nat.le_refl _) o))
  clear ht
  go_enter Tryz.func102, Tryz.ntmps102
  go_wp2_with fail
  refine (refValue_any t.c1 T.cls c _ (HR.out _)).mono ?_
  rintro e w1 ⟨rfl, b1⟩
  go_wp2_with fail
  go_ret
  exact ⟨rfl, below_next ((Below.refl _ _).alloc (Nat.le_refl _) _) b1⟩

set_option maxRecDepth 100000 in
set_option maxHeartbeats 400000 in
theorem refIgnorable_any (t : Tv) (T : Tab) (c : Int) (w : World) (ht : TabR w w.heap.size t T) :
    Calls Tryz.prog 30 #[t.val, .int .i64 c] w fun e w' => e = .returned (.bool (T.ignB c)) ∧ Below w.heap.size w w' := by
  have HR := Lib.hid (fun o : Obj => ht.r6.later ((Below.refl _ _).alloc (Nat.le_refl _) o))
  clear ht
  go_enter Tryz.func30, Tryz.ntmps30
  go_wp2_with fail
  refine (refValue_any t.c6 T.ignorable c _ (HR.out _)).mono ?_
  rintro e w1 ⟨rfl, b1⟩
  go_wp2_with fail
  go_ret
  exact ⟨rfl, below_next ((Below.refl _ _).alloc (Nat.le_refl _) _) b1⟩

theorem status_ref {T : Tab} (h : GoodS T.status) (c : Int) : T.statusOf c = if nameB c = true ∨ c = 46 ∨ sylB c = true then 1 else if 65 ≤ c ∧ c ≤ 90 then 3 else valueL T.status c := by
  unfold Tab.statusOf
  rw [propL_ref h.1 h.2.2]
  simp only [nameB_iff, sylB_iff]
  have hz : resB c = true → valueL T.status c = 0 := value_res h.2.2
  by_cases hr : resB c = true ∧ surB c = false
  · rw [if_pos hr]
    have h0 := hz hr.1
    obtain ⟨h1, h2⟩ := hr
    rw [resB_iff] at h1
    have h2' : ¬(55296 ≤ c ∧ c ≤ 57343) := by unfold surB at h2; rw [decide_eq_false_iff_not] at h2; exact h2
    clear hz h2
    unfold fixC
    repeat' split
    all_goals try simp only [h0]
    all_goals omega
  · rw [if_neg hr]
    have h1 : ¬(97 ≤ c ∧ c ≤ 122 ∨ 48 ≤ c ∧ c ≤ 57 ∨ c = 45) ∧ c ≠ 46 ∧ ¬(44032 ≤ c ∧ c ≤ 55203) ∧ ¬(65 ≤ c ∧ c ≤ 90) := by
      by_cases hs : surB c = false
      · have hr' : resB c = false := by
          cases hh : resB c
          · rfl
          · exact absurd ⟨hh, hs⟩ hr
        rw [resB_not] at hr'
        omega
      · have hs' : surB c = true := by simpa using hs
        rw [surB_iff] at hs'
        omega
    rw [if_neg (by omega), if_neg h1.2.2.2]

set_option maxRecDepth 100000 in
set_option maxHeartbeats 1000000 in
theorem refStatus_any (t : Tv) (T : Tab) (c : Int) (w : World) (ht : TabR w w.heap.size t T) (hg : GoodS T.status) :
    Calls Tryz.prog 35 #[t.val, .int .i64 c] w fun e w' => e = .returned (.int .i64 (T.statusOf c)) ∧ Below w.heap.size w w' := by
  have HR := Lib.hid (fun o : Obj => ht.r5.later ((Below.refl _ _).alloc (Nat.le_refl _) o))
  have HN := Lib.hid (fun W => latin_any c W)
  have HS := Lib.hid (fun W => refSyl_any c W)
  rw [status_ref hg]
  clear ht hg
  cases hn : nameB c
  · rw [hn] at HN
    by_cases h46 : c = 46
    · subst h46
      rw [if_pos (.inr (.inl rfl))]
      clear hn
      go_enter Tryz.func35, Tryz.ntmps35
      go_wp2_with fail
      refine (HN.out _).mono ?_
      rintro e w1 ⟨rfl, rfl⟩
      go_wp2_with fail
      go_ret
      exact ⟨rfl, (Below.refl _ _).alloc (Nat.le_refl _) _⟩
    · have hb : (c == 46) = false := by rw [beq_eq_false_iff_ne]; exact h46
      cases hs : sylB c
      · rw [hs] at HS
        rw [if_neg (by
          rintro (h | h | h)
          · cases h
          · exact h46 h
          · cases h)]
        by_cases hA : 65 ≤ c ∧ c ≤ 90
        · rw [if_pos hA]
          obtain ⟨a1, a2⟩ := hA
          clear hn hs h46
          go_enter Tryz.func35, Tryz.ntmps35
          go_wp2_with fail
          refine (HN.out _).mono ?_
          rintro e w1 ⟨rfl, rfl⟩
          go_wp2_with fail
          refine (HS.out _).mono ?_
          rintro e w1 ⟨rfl, rfl⟩
          go_wp2_with fail
          go_ret
          exact ⟨rfl, (Below.refl _ _).alloc (Nat.le_refl _) _⟩
        · rw [if_neg hA]
          rcases show c < 65 ∨ (65 ≤ c ∧ 90 < c) by omega with a1 | ⟨a1, a2⟩
          all_goals
            clear hn hs h46 hA
            go_enter Tryz.func35, Tryz.ntmps35
            go_wp2_with fail
            refine (HN.out _).mono ?_
            rintro e w1 ⟨rfl, rfl⟩
            go_wp2_with fail
            refine (HS.out _).mono ?_
            rintro e w1 ⟨rfl, rfl⟩
            go_wp2_with fail
            refine (refValue_any t.c5 T.status c _ (HR.out _)).mono ?_
            rintro e w1 ⟨rfl, b1⟩
            go_wp2_with fail
            go_ret
            exact ⟨rfl, below_next ((Below.refl _ _).alloc (Nat.le_refl _) _) b1⟩
      · rw [hs] at HS
        rw [if_pos (.inr (.inr rfl))]
        clear hn hs h46
        go_enter Tryz.func35, Tryz.ntmps35
        go_wp2_with fail
        refine (HN.out _).mono ?_
        rintro e w1 ⟨rfl, rfl⟩
        go_wp2_with fail
        refine (HS.out _).mono ?_
        rintro e w1 ⟨rfl, rfl⟩
        go_wp2_with fail
        go_ret
        exact ⟨rfl, (Below.refl _ _).alloc (Nat.le_refl _) _⟩
  · rw [hn] at HN
    rw [if_pos (.inl rfl)]
    clear hn
    go_enter Tryz.func35, Tryz.ntmps35
    go_wp2_with fail
    refine (HN.out _).mono ?_
    rintro e w1 ⟨rfl, rfl⟩
    go_wp2_with fail
    go_ret
    exact ⟨rfl, (Below.refl _ _).alloc (Nat.le_refl _) _⟩

theorem mem_go {xs : List Int} {k : Nat} {x c : Int} {R : Bool} (hx : xs[k]? = some x) (h : decide (c ∈ xs.drop k) = R) (h1 : x ≠ c) : decide (c ∈ xs.drop (k + 1)) = R := by
  rw [drop_of_get hx] at h
  rw [← h, decide_eq_decide, List.mem_cons]
  exact ⟨.inr, fun h => h.resolve_left (fun e => h1 e.symm)⟩
theorem mem_hit {xs : List Int} {k : Nat} {x c : Int} {R : Bool} (hx : xs[k]? = some x) (h : decide (c ∈ xs.drop k) = R) (h1 : x = c) : R = true := by
  rw [drop_of_get hx] at h
  rw [← h, decide_eq_true_eq, h1]; exact List.mem_cons_self
theorem mem_end {xs : List Int} {k : Nat} {c : Int} {R : Bool} (hk : xs.length ≤ k) (h : decide (c ∈ xs.drop k) = R) : R = false := by
  rw [List.drop_eq_nil_of_le hk] at h; rw [← h]; rfl

set_option maxRecDepth 100000 in
set_option maxHeartbeats 1000000 in
theorem refExcluded_any (t : Tv) (T : Tab) (c : Int) (w : World) (ht : TabR w w.heap.size t T) :
    Calls Tryz.prog 101 #[t.val, .int .i64 c] w fun e w' => e = .returned (.bool (T.excB c)) ∧ Below w.heap.size w w' := by
  obtain ⟨A0, A1, A2, A3, A4, A5, A6, A7, A8, A9, A10, A11, k0, k1, k2, k3, k4, k5, k6, k7, k8, k9, k10, k11, rfl⟩ := ht.shape
  obtain ⟨A, cp, hA, hc1, hc2, _, hcell⟩ := ht.r10
  cases hA
  have HC := Lib.hid hcell
  have hlm : T.excluded.length ≤ 9223372036854775807 := by unfold maxLen at hc2; omega
  clear hcell hc1 hc2 ht
  obtain ⟨R, hR⟩ : ∃ R, R = T.excB c := ⟨_, rfl⟩
  rw [← hR]
  have HR : Hid (decide (c ∈ T.excluded.drop 0) = R) := Lib.hid hR.symm
  clear hR
  go_enter Tryz.func101, Tryz.ntmps101
  go_wp2_with fail
  go_loop [10] (fun i => ∃ (j : Nat), j ≤ T.excluded.length ∧ i = .int .i64 j ∧ Hid (decide (c ∈ T.excluded.drop j) = R)) (fun i => T.excluded.length - (intOf i).toNat)
  case atStart => exact ⟨0, by omega, rfl, HR⟩
  case round =>
    obtain ⟨j, hj, rfl, HS⟩ := hrel
    clear HR
    by_cases hjl : j < T.excluded.length
    · obtain ⟨x, hxj, _⟩ := get_el hjl
      obtain ⟨aj, rfl, ha, d0⟩ := HC.out j _ hxj
      have e0 := fun o : Obj => (World.cell?_alloc_lt w o (aj.add j) (World.block_lt_of_cell? _ _ d0)).trans d0
      have HX := Lib.hid hxj
      clear hxj ha d0
      have r0 : (0 : Int) ≤ (j : Int) := by omega
      have r1 : (j : Int) < (T.excluded.length : Int) := by omega
      by_cases h1 : x = c
      · have HN := Lib.hid (mem_hit HX.out HS.out h1)
        have p1 : (x == c) = true := by rw [beq_iff_eq]; exact h1
        clear h1
        go_wp2_with fail
        go_ret
        rw [HN.out]
        exact ⟨rfl, (Below.refl _ _).alloc (Nat.le_refl _) _⟩
      · have HN := Lib.hid (mem_go HX.out HS.out h1)
        have p1 : (x == c) = false := by rw [beq_eq_false_iff_ne]; exact h1
        clear h1
        go_wp2_with fail
        go_round
        case rel => exact ⟨j + 1, by omega, by go_num, HN⟩
        case measure => simp [intOf]; omega
    · have HN := Lib.hid (mem_end (by omega) HS.out)
      go_wp2_with fail
      go_ret
      rw [HN.out]
      exact ⟨rfl, (Below.refl _ _).alloc (Nat.le_refl _) _⟩
end Go.Proofs.YtneinkpfhkojgaaGreatDoor
/-
  The walk through one property of table.
-/
namespace Go.Proofs.YtneinkpfhkojgaaGreatDoor
open Go.RowKit ND

set_option maxRecDepth 100000 in
set_option maxHeartbeats 400000 in
theorem ownStatus (W : World) (q : Int × Int × Int × Int) : Calls Tryz.prog 43 #[fixV q] W fun e W' => e = .returned (.int .i64 (q.2.2.2)) ∧ Below W.heap.size W W' := by
  unfold fixV
  go_enter Tryz.func43, Tryz.ntmps43
  go_wp2_with fail
  go_ret
  exact ⟨rfl, (Below.refl _ _).alloc (Nat.le_refl _) _⟩

set_option maxRecDepth 100000 in
set_option maxHeartbeats 400000 in
theorem status_any (t : Tv) (T : Tab) (c lo hi : Int) (w : World) (ht : TabR w w.heap.size t T) (hs : okS lo hi (-1) T.status = true) (hlen : T.status.length ≤ 256) :
    Calls Tryz.prog 32 #[t.val, .int .i64 c] w fun e w' => e = .returned (.int .i64 (T.statusOf c)) ∧ Below w.heap.size w w' := by
  have HP := Lib.hid (fun W (h : Spans W W.heap.size t.c5 T.status) => pick_prop 43 (fun q => q.2.2.2) t.c5 T.status c lo hi W (enters_of Tryz.func43 (by kernel_rfl) rfl) ownStatus h hs hlen)
  have hr := ht.r5
  have HR := Lib.hid (fun o : Obj => hr.later ((Below.refl _ _).alloc (Nat.le_refl _) o))
  clear hr ht hs hlen
  go_enter Tryz.func32, Tryz.ntmps32
  go_wp2_with fail
  refine (HP.out _ (HR.out _)).mono ?_
  rintro e w1 ⟨rfl, b1⟩
  go_wp2_with fail
  go_ret
  exact ⟨rfl, below_next ((Below.refl _ _).alloc (Nat.le_refl _) _) b1⟩
end Go.Proofs.YtneinkpfhkojgaaGreatDoor
