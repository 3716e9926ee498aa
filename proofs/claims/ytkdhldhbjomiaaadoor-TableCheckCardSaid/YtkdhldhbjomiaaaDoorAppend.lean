/-
  A list of integers is appended to an own row: append(v, u...), u any list that can be read.
-/
import Derived.Test.YtkdhldhbjomiaaaDoorMem
namespace Go.Proofs.YtkdhldhbjomiaaaDoor
open Go.RowKit

theorem run_append_none {P : Program} {w : World} {t ty e : TypeId} {i : TypeInfo} (ht : P.underlying t = some (.slice e)) (hi : P.info? e = some i) {base size : Nat} {v : Value} {n : Nat} {xs : List Value} (hown : w.ownsRow base e size v n xs) :
    (Builtin.append_ #[t, t] ty #[v, .slice none 0 0]).run P w = .ok v w := by
  rcases hown.2 with ⟨rfl, _⟩ | ⟨g, cap, cur, rfl, _, _, hnc, _, _, _⟩
  · simp [Builtin.append_, run_underlying ht, sizeOf, typeInfo, hi, Builtin.lenOf, Builtin.firstCells]
  · simp [Builtin.append_, run_underlying ht, sizeOf, typeInfo, hi, Builtin.lenOf, Builtin.firstCells, hnc, storeCells]

theorem wpList_append_ints {P : Program} {ops : Array Oper} {rest : List Oper} {o : Oper} {a : Act} {w : World} {Q : Exit → Act → World → Prop} {T e : TypeId} {i0 : TypeInfo} (hw : Region.wanted o (yielded ops a.tmps) = true) (s x : Operand)
    (ho : o.op = .call { callee := .builtin .append, args := #[s, x], argTypes := #[T, T] }) (ht : P.underlying T = some (.slice e)) (hi : P.info? e = some i0) (hz : i0.zero = some (.int .i64 0)) (h1 : i0.size = 1) (h2 : i0.bytes = 8)
    (B base : Nat) (v : Value) (acc : List Int) (u : Value) (ys : List Int) (hs : a.eval s = v) (hown : w.ownsRow base e 1 v acc.length (acc.map (Value.int .i64))) (hx : a.eval x = u) (hu : Ints w B .i64 u ys) (hl : acc.length + ys.length ≤ 1000000) (hb : base ≤ w.heap.size)
    (h : ∀ v' w', w'.ownsRow base e 1 v' (acc ++ ys).length ((acc ++ ys).map (Value.int .i64)) → w.grownBy w' v.ownBlock → (ys = [] → v = .slice none 0 0 → v' = .slice none 0 0) → wpList P ops Q rest (a.put o.dst v') w') : wpList P ops Q (o :: rest) a w := by
  refine wpList_step fun K hK => ?_
  rw [if_pos hw]
  have key : ∀ v' w', w'.ownsRow base e 1 v' (acc ++ ys).length ((acc ++ ys).map (Value.int .i64)) → w.grownBy w' v.ownBlock → (ys = [] → v = .slice none 0 0 → v' = .slice none 0 0) → K (a.put o.dst v') w' := fun v' w' p q r => hK _ _ (h v' w' p q r)
  obtain ⟨A, c, rfl, hc1, hc2, hA, hcell⟩ := hu
  cases A with
  | none =>
    obtain rfl : c = 0 := hA rfl
    obtain rfl : ys = [] := List.eq_nil_of_length_eq_zero (by omega)
    have hr := run_append_none (P := P) (ty := o.type) ht hi hown
    have h3 := key v w (by simpa using hown) (grown_refl w _) (fun _ e => e)
    unfold Oper.wp execOp
    simp only [ho, resolve, invoke, builtin, Sem.run_bind, Sem.run_pure, Result.andThen_ok, List.map_toArray, List.map_cons, List.map_nil, hs, hx, List.length_nil, hr]
    exact h3
  | some ad =>
    refine wp_append_own w s x T ho base e i0 (.int .i64 0) 1 8 ht hi hz h1 h2 rfl (by omega) v acc.length _ hs hown ad ys.length c (ys.map (Value.int .i64)) hx (by simp) ?_ ?_ (by unfold maxLen; omega) (by omega) hb ?_
    · intro j q hq
      rw [List.getElem?_map] at hq
      cases hy : ys[j]? with
      | none => rw [hy] at hq; cases hq
      | some y =>
        rw [hy] at hq; cases hq
        obtain ⟨ad', e1, _, e2⟩ := hcell j y hy
        cases e1; exact e2
    · intro q hq
      obtain ⟨y, _, rfl⟩ := List.mem_map.1 hq
      rfl
    · intro v' w' p q r
      exact key v' w' (by simpa using p) q (fun e1 e2 => r.2 ⟨e2, by rw [e1]; rfl⟩)
end Go.Proofs.YtkdhldhbjomiaaaDoor
