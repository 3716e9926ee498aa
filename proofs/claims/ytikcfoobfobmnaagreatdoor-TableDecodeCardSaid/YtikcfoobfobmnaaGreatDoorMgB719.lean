/-
  Merged texts: lemmas and walks that the last text of this claim leans on.
-/
import Derived.Test.YtikcfoobfobmnaaGreatDoorMgB718
/-
  keep.Other, case 10: one value in a copy of the joining types.
-/
namespace Go.Proofs.YtikcfoobfobmnaaGreatDoor
open Go.RowKit ND

section
variable {w : World} {a : Act} {o : Oper}
theorem run_field2 {x : Operand} {b : Nat} (ho : o.op = .fieldAddr 29 x 2) (hx : a.eval x = .pointer (some ⟨b, 0, none⟩)) : (execOp a.eval o).run Tryz.prog w = .ok (.value (.pointer (some ⟨b, 2, none⟩))) w := by
  unfold execOp
  rw [ho]
  simp only [hx]
  go_simp
theorem run_at_sp {x y : Operand} {g j n c : Nat} (ho : o.op = .indexAddr 26 x y) (hx : a.eval x = .slice (some ⟨g, 0, none⟩) n c) (hy : a.eval y = .int .i64 (j : Int)) (hj : j < n) : (execOp a.eval o).run Tryz.prog w = .ok (.value (.pointer (some ⟨g, j * 3, none⟩))) w := by
  have h0 : (0 : Int) ≤ (j : Int) := by omega
  have h1 : (j : Int) < (n : Int) := by omega
  unfold execOp
  rw [ho]
  simp only [hx, hy]
  go_simp
theorem run_val {x : Operand} {g i : Nat} (ho : o.op = .fieldAddr 61 x 2) (hx : a.eval x = .pointer (some ⟨g, i, none⟩)) : (execOp a.eval o).run Tryz.prog w = .ok (.value (.pointer (some ⟨g, i + 2, none⟩))) w := by
  unfold execOp
  rw [ho]
  simp only [hx]
  go_simp
theorem run_len_sp {x : Operand} {A : Option Addr} {n c : Nat} (ho : o.op = .call { callee := .builtin .len, args := #[x], argTypes := #[26] }) (hx : a.eval x = .slice A n c) : (execOp a.eval o).run Tryz.prog w = .ok (.value (.int .i64 (n : Int))) w := by
  unfold execOp
  rw [ho]
  simp only [resolve, invoke, builtin, Sem.run_bind, Sem.run_pure, Result.andThen_ok, List.map_toArray, List.map_cons, List.map_nil, hx]
  go_simp
theorem run_store_int {x y : Operand} {b i : Nat} {n : Int} {u : Value} (ho : o.op = .store 3 x y) (hx : a.eval x = .pointer (some ⟨b, i, none⟩)) (hy : a.eval y = .int .i64 n) (h1 : w.cell? ⟨b, i, none⟩ = some u) (h2 : w.frozen? ⟨b, i, none⟩ = false) : (execOp a.eval o).run Tryz.prog w = .ok .skip (w.setCell ⟨b, i, none⟩ (.int .i64 n)) := by
  unfold execOp
  rw [ho]
  simp only [hx, hy]
  go_simp
end
theorem own_le {w : World} {base base' size n : Nat} {e : TypeId} {v : Value} {xs : List Value} (h : w.ownsRow base e size v n xs) (hb : base' ≤ base) : w.ownsRow base' e size v n xs :=
  ⟨h.1, h.2.imp id fun ⟨g, cap, cur, hv, h1, h2⟩ => ⟨g, cap, cur, hv, Nat.le_trans hb h1, h2⟩⟩
/-- Another value at j. -/
def setV (L : List Sp) (j : Nat) (p : Int) : List Sp := match L[j]? with
  | some s => L.set j (s.1, s.2.1, p)
  | none => L
theorem setV_len (L : List Sp) (j : Nat) (p : Int) : (setV L j p).length = L.length := by
  unfold setV; split <;> simp
theorem setV_cells : ∀ (L : List Sp) (j : Nat) (p : Int), j < L.length → (L.flatMap spCells).set (j * 3 + 2) (.int .i64 p) = (setV L j p).flatMap spCells := by
  intro L
  induction L with
  | nil => intro j p h; simp at h
  | cons s r ih =>
    intro j p h
    cases j with
    | zero => simp [setV, spCells]
    | succ j =>
      have h2 := ih j p (by simpa using h)
      have e : setV (s :: r) (j + 1) p = s :: setV r j p := by
        unfold setV
        rw [List.getElem?_cons_succ]
        cases r[j]? <;> rfl
      rw [e, List.flatMap_cons, List.flatMap_cons, ← h2]
      have e2 : (j + 1) * 3 + 2 = j * 3 + 2 + 3 := by omega
      rw [e2]
      simp [spCells]

section
variable {w0 w6 : World} {xb rb n base : Nat} {t : Tv} {T : Tab} {v6 : Value}
/-- The copy stands in its field. -/
theorem oth2' {D' : List Sp} (ht : TabR w0 w0.heap.size t T) (hn : ShortT n T) (hD : D'.length ≤ n + 2) (hb : Below w0.heap.size w0 w6) (hX : Blk w6 xb 29 #[t.c0, t.c1, v6, t.c3, t.c4, t.c5, t.c6, t.c7, t.c8, t.c9, t.c10, t.c11]) (hR : Blk w6 rb 29 nilCells) (hM : w6.ownsRow base 61 3 v6 D'.length (D'.flatMap spCells)) :
    OthR w0 xb rb n w6 := by
  have ht' := (ht.below hb).more hb.size
  exact ⟨{ t with c2 := v6 }, { T with joining := D' }, hX, { ht' with r2 := Spans.of_own hM }, { hn.more (Nat.le_add_right n 2) with c2 := hD }, hb, hR⟩
end

def CAt (W w : World) : Prop := w = W
def specs10 (xb : Nat) (g c len : Nat) (vv av : Int) (j : Nat) : List SpecM := [.val (.pointer (some ⟨xb, 2, none⟩)), .val (.slice (some ⟨g, 0, none⟩) len c), .val (.int .i64 av), .val (.pointer (some ⟨xb, 2, none⟩)), .val (.slice (some ⟨g, 0, none⟩) len c), .val (.int .i64 (len : Int)), .val (.int .i64 (j : Int)), .val (.int .i64 vv), .val (.int .i64 (pick vv 8)), .val (.pointer (some ⟨g, j * 3, none⟩)), .val (.pointer (some ⟨g, j * 3 + 2, none⟩))]
section
variable {w0 W : World} {xb rb n : Nat} {t : Tv} {T : Tab} {vv av : Int} {j g c len tb : Nat} {r : Nat → Value} {Q : Exit → Act → World → Prop}
def Ob10 (r : Nat → Value) (tb : Nat) (W : World) (xb g c len : Nat) (vv av : Int) (j : Nat) (Q : Exit → Act → World → Prop) (k : Nat) : Prop := ObA Tryz.prog (opsO 27) 194 [] (fixedO r tb xb vv av) (killM (specs10 xb g c len vv av j) 11) (CAt W) (RM xb (specs10 xb g c len vv av j)) Q k
theorem ob10_0 : Ob10 r tb W xb g c len vv av j Q 0 := by
  intro o ho a w hA hf hd K hK
  rw [if_pos (wanted_none _ (get_op (·.guard) ho (by kernel_rfl)))]
  exact ob_value (run_field2 (get_op (·.op) ho (by kernel_rfl)) (eval_tmp (hf.2.2 (9, _) (by simp [fixedO])))) (hK _ _ (rm_of rfl rfl) hA (fun _ _ _ _ h => h))
theorem ob10_3 : Ob10 r tb W xb g c len vv av j Q 3 := by
  intro o ho a w hA hf hd K hK
  rw [if_pos (wanted_none _ (get_op (·.guard) ho (by kernel_rfl)))]
  exact ob_value (run_field2 (get_op (·.op) ho (by kernel_rfl)) (eval_tmp (hf.2.2 (9, _) (by simp [fixedO])))) (hK _ _ (rm_of rfl rfl) hA (fun _ _ _ _ h => h))
theorem ob10_1 {cs : Array Value} (hX : Blk W xb 29 cs) (hc : cs[2]? = some (.slice (some ⟨g, 0, none⟩) len c)) : Ob10 r tb W xb g c len vv av j Q 1 := by
  intro o ho a w hA hf hd K hK
  rw [if_pos (wanted_none _ (get_op (·.guard) ho (by kernel_rfl)))]
  obtain ⟨v1, h1, e1⟩ := dep_m ho hd 0 182 (.val (.pointer (some ⟨xb, 2, none⟩))) (by kernel_rfl) (by kernel_rfl) rfl (by kernel_rfl)
  obtain rfl : v1 = _ := e1
  obtain rfl : w = W := hA
  exact ob_value (run_load_sp (get_op (·.op) ho (by kernel_rfl)) (eval_tmp h1) (hX.at_ hc)) (hK _ _ (rm_of rfl rfl) rfl (fun _ _ _ _ h => h))
theorem ob10_4 {cs : Array Value} (hX : Blk W xb 29 cs) (hc : cs[2]? = some (.slice (some ⟨g, 0, none⟩) len c)) : Ob10 r tb W xb g c len vv av j Q 4 := by
  intro o ho a w hA hf hd K hK
  rw [if_pos (wanted_none _ (get_op (·.guard) ho (by kernel_rfl)))]
  obtain ⟨v1, h1, e1⟩ := dep_m ho hd 3 185 (.val (.pointer (some ⟨xb, 2, none⟩))) (by kernel_rfl) (by kernel_rfl) rfl (by kernel_rfl)
  obtain rfl : v1 = _ := e1
  obtain rfl : w = W := hA
  exact ob_value (run_load_sp (get_op (·.op) ho (by kernel_rfl)) (eval_tmp h1) (hX.at_ hc)) (hK _ _ (rm_of rfl rfl) rfl (fun _ _ _ _ h => h))
theorem ob10_2 : Ob10 r tb W xb g c len vv av j Q 2 := by
  intro o ho a w hA hf hd K hK
  rw [if_pos (wanted_none _ (get_op (·.guard) ho (by kernel_rfl)))]
  exact ob_move (get_op (·.op) ho (by kernel_rfl)) (eval_tmp (hf.2.2 (2, _) (by simp [fixedO]))) (hK _ _ (rm_of rfl rfl) hA (fun _ _ _ _ h => h))
theorem ob10_7 : Ob10 r tb W xb g c len vv av j Q 7 := by
  intro o ho a w hA hf hd K hK
  rw [if_pos (wanted_none _ (get_op (·.guard) ho (by kernel_rfl)))]
  exact ob_move (get_op (·.op) ho (by kernel_rfl)) (eval_tmp (hf.2.2 (3, _) (by simp [fixedO]))) (hK _ _ (rm_of rfl rfl) hA (fun _ _ _ _ h => h))
theorem ob10_5 : Ob10 r tb W xb g c len vv av j Q 5 := by
  intro o ho a w hA hf hd K hK
  rw [if_pos (wanted_none _ (get_op (·.guard) ho (by kernel_rfl)))]
  obtain ⟨v1, h1, e1⟩ := dep_m ho hd 4 186 (.val (.slice (some ⟨g, 0, none⟩) len c)) (by kernel_rfl) (by kernel_rfl) rfl (by kernel_rfl)
  obtain rfl : v1 = _ := e1
  exact ob_value (run_len_sp (get_op (·.op) ho (by kernel_rfl)) (eval_tmp h1)) (hK _ _ (rm_of rfl rfl) hA (fun _ _ _ _ h => h))
theorem ob10_6 (hp : pick av (len : Int) = (j : Int)) (h0 : 0 < len) (hl : len ≤ 1000) : Ob10 r tb W xb g c len vv av j Q 6 := by
  intro o ho a w hA hf hd K hK
  rw [if_pos (wanted_none _ (get_op (·.guard) ho (by kernel_rfl)))]
  obtain ⟨v1, h1, e1⟩ := dep_m ho hd 2 184 (.val (.int .i64 av)) (by kernel_rfl) (by kernel_rfl) rfl (by kernel_rfl)
  obtain rfl : v1 = _ := e1
  obtain ⟨v2, h2, e2⟩ := dep_m ho hd 5 187 (.val (.int .i64 (len : Int))) (by kernel_rfl) (by kernel_rfl) rfl (by kernel_rfl)
  obtain rfl : v2 = _ := e2
  exact ob_enter (enter2 (tys := #[3, 3]) (get_op (·.op) ho (by kernel_rfl)) (eval_tmp h1) (eval_tmp h2) (fun args w => enters_of Tryz.func7 (by kernel_rfl) rfl args w)) (pick_any av (len : Int) w (by omega) (by omega)) fun e w' ⟨he, hw⟩ => ⟨_, he, by subst hw; exact hK _ _ (rm_of rfl (by rw [hp]; rfl)) hA (fun _ _ _ _ h => h)⟩
theorem ob10_8 : Ob10 r tb W xb g c len vv av j Q 8 := by
  intro o ho a w hA hf hd K hK
  rw [if_pos (wanted_none _ (get_op (·.guard) ho (by kernel_rfl)))]
  obtain ⟨v1, h1, e1⟩ := dep_m ho hd 7 189 (.val (.int .i64 vv)) (by kernel_rfl) (by kernel_rfl) rfl (by kernel_rfl)
  obtain rfl : v1 = _ := e1
  exact ob_enter (enter2 (y := .const (.int .i64 8)) (tys := #[3, 3]) (get_op (·.op) ho (by kernel_rfl)) (eval_tmp h1) rfl (fun args w => enters_of Tryz.func7 (by kernel_rfl) rfl args w)) (pick_any vv 8 w (by omega) (by omega)) fun e w' ⟨he, hw⟩ => ⟨_, he, by subst hw; exact hK _ _ (rm_of rfl rfl) hA (fun _ _ _ _ h => h)⟩
theorem ob10_9 (hj : j < len) : Ob10 r tb W xb g c len vv av j Q 9 := by
  intro o ho a w hA hf hd K hK
  rw [if_pos (wanted_none _ (get_op (·.guard) ho (by kernel_rfl)))]
  obtain ⟨v1, h1, e1⟩ := dep_m ho hd 1 183 (.val (.slice (some ⟨g, 0, none⟩) len c)) (by kernel_rfl) (by kernel_rfl) rfl (by kernel_rfl)
  obtain rfl : v1 = _ := e1
  obtain ⟨v2, h2, e2⟩ := dep_m ho hd 6 188 (.val (.int .i64 (j : Int))) (by kernel_rfl) (by kernel_rfl) rfl (by kernel_rfl)
  obtain rfl : v2 = _ := e2
  exact ob_value (run_at_sp (get_op (·.op) ho (by kernel_rfl)) (eval_tmp h1) (eval_tmp h2) hj) (hK _ _ (rm_of rfl rfl) hA (fun _ _ _ _ h => h))
theorem ob10_10 : Ob10 r tb W xb g c len vv av j Q 10 := by
  intro o ho a w hA hf hd K hK
  rw [if_pos (wanted_none _ (get_op (·.guard) ho (by kernel_rfl)))]
  obtain ⟨v1, h1, e1⟩ := dep_m ho hd 9 191 (.val (.pointer (some ⟨g, j * 3, none⟩))) (by kernel_rfl) (by kernel_rfl) rfl (by kernel_rfl)
  obtain rfl : v1 = _ := e1
  exact ob_value (run_val (get_op (·.op) ho (by kernel_rfl)) (eval_tmp h1)) (hK _ _ (rm_of rfl rfl) hA (fun _ _ _ _ h => h))
theorem ob10_11 (HX : Blk W xb 29 #[t.c0, t.c1, .slice (some ⟨g, 0, none⟩) T.joining.length c, t.c3, t.c4, t.c5, t.c6, t.c7, t.c8, t.c9, t.c10, t.c11]) (HR : Blk W rb 29 nilCells) (hrx : rb < xb) (ht : TabR w0 w0.heap.size t T) (hn : ShortT n T) (hb0 : Below w0.heap.size w0 W) (h0 : w0.heap.size ≤ xb)
    (hj : j < T.joining.length) (hM : W.ownsRow (xb + 1) 61 3 (.slice (some ⟨g, 0, none⟩) T.joining.length c) T.joining.length (T.joining.flatMap spCells)) : ObB Tryz.prog (opsO 27) 194 [] (fixedO r tb xb vv av) (killM (specs10 xb g c T.joining.length vv av j) 11) (CAt W) (OthR w0 xb rb n) (RM xb (specs10 xb g c T.joining.length vv av j)) Q 11 := by
  intro o ho a w hA hf hd K hK
  rw [if_pos (wanted_none _ (get_op (·.guard) ho (by kernel_rfl)))]
  obtain ⟨v1, h1, e1⟩ := dep_m ho hd 10 192 (.val (.pointer (some ⟨g, j * 3 + 2, none⟩))) (by kernel_rfl) (by kernel_rfl) rfl (by kernel_rfl)
  obtain rfl : v1 = _ := e1
  obtain ⟨v2, h2, e2⟩ := dep_m ho hd 8 190 (.val (.int .i64 (pick vv 8))) (by kernel_rfl) (by kernel_rfl) rfl (by kernel_rfl)
  obtain rfl : v2 = _ := e2
  obtain rfl : w = W := hA
  obtain ⟨s, hs⟩ : ∃ s, T.joining[j]? = some s := ⟨_, List.getElem?_eq_getElem hj⟩
  obtain ⟨_, _, c2⟩ := spCells_at hs
  have hlt := (hM.lt g rfl).1
  obtain ⟨q1, q2⟩ := hM.stored (j * 3 + 2) (.int .i64 (pick vv 8))
  rw [setV_cells _ _ _ hj] at q1
  refine ob_skip (run_store_int (get_op (·.op) ho (by kernel_rfl)) (eval_tmp h1) (eval_tmp h2) ((hM.cellAt (j * 3 + 2) (by omega)).trans c2) (hM.frozenAt _)) (hK _ _ ?_)
  refine oth2' (D' := setV T.joining j (pick vv 8)) (v6 := .slice (some ⟨g, 0, none⟩) T.joining.length c) (base := xb + 1) ht hn ?_ (hb0.setCell (p := ⟨g, j * 3 + 2, none⟩) (by show _ ≤ g; omega) _) (HX.far (by show xb ≠ g; omega) _) (HR.far (by show rb ≠ g; omega) _) ?_
  · rw [setV_len]; have := hn.c2; omega
  · rw [setV_len]; exact q1
end
/-- The region of case 10. -/
theorem other_case10 {w0 W : World} {a : Act} {tb rb xb n g c : Nat} {t : Tv} {T : Tab} {vv av : Int} {Q : Exit → Act → World → Prop} (ha : ActO a tb xb vv av) (HX : Blk W xb 29 #[t.c0, t.c1, .slice (some ⟨g, 0, none⟩) T.joining.length c, t.c3, t.c4, t.c5, t.c6, t.c7, t.c8, t.c9, t.c10, t.c11]) (HR : Blk W rb 29 nilCells) (hrx : rb < xb) (ht : TabR w0 w0.heap.size t T) (hn : ShortT n T) (hn2 : n ≤ 1000) (hb0 : Below w0.heap.size w0 W) (h0 : w0.heap.size ≤ xb)
    (hpos : 0 < T.joining.length) (hM : W.ownsRow (xb + 1) 61 3 (.slice (some ⟨g, 0, none⟩) T.joining.length c) T.joining.length (T.joining.flatMap spCells))
    (hend : ∀ (f : Nat → Value) w, OthR w0 xb rb n w → Q .normal ⟨(a.tmps.toList.take 12 ++ (List.range 182).map f).toArray, []⟩ w) : (Code.region 27 (opsO 27) true).wp Tryz.prog Q a W := by
  obtain ⟨p0, p1⟩ := pick_in av (n := (T.joining.length : Int)) (by omega)
  obtain ⟨j, hpj⟩ := Int.eq_ofNat_of_zero_le p0
  have hj : j < T.joining.length := by omega
  have hl : T.joining.length ≤ 1000 := Nat.le_trans hn.c2 hn2
  refine wp_region_store (ds := []) (fixed := fixedO (fun i => (a.tmps[i]?).getD undef) tb xb vv av) (n := 194) (killM (specs10 xb g c T.joining.length vv av j) 11) (CAt W.drew) (OthR w0 xb rb n) (RM xb (specs10 xb g c T.joining.length vv av j)) 11 (by kernel_rfl) (by kernel_rfl) (by kernel_rfl) (by kernel_rfl) (by kernel_rfl) (fun i j h => kill_lt h (by rw [show (opsO 27).size = 12 by kernel_rfl]; decide)) ha.fs rfl (fun i hi => ?_) (ob10_11 (W := W.drew) HX HR hrx ht hn hb0.drew h0 hj hM.drew) (fun a' w h hf => by obtain ⟨f, rfl⟩ := ha.split hf; exact hend f w h)
  match i, hi with
  | 0, _ => exact ob10_0
  | 1, _ => exact ob10_1 HX.drew rfl
  | 2, _ => exact ob10_2
  | 3, _ => exact ob10_3
  | 4, _ => exact ob10_4 HX.drew rfl
  | 5, _ => exact ob10_5
  | 6, _ => exact ob10_6 hpj hpos hl
  | 7, _ => exact ob10_7
  | 8, _ => exact ob10_8
  | 9, _ => exact ob10_9 hj
  | 10, _ => exact ob10_10
  | m + 11, h => exact absurd h (by omega)
end Go.Proofs.YtikcfoobfobmnaaGreatDoor
