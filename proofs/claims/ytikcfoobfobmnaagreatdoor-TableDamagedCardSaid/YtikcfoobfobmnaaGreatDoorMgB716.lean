/-
  Merged texts: lemmas and walks that the last text of this claim leans on.
-/
import Derived.Test.YtikcfoobfobmnaaGreatDoorMgB76
import Derived.Test.YtikcfoobfobmnaaGreatDoorMgB73
import Derived.Test.YtikcfoobfobmnaaGreatDoorMgB71
/-
  Laws for keep.Other: a copy of a list of mappings; mappings appended to an own row; spans likewise.
-/
namespace Go.Proofs.YtikcfoobfobmnaaGreatDoor
open Go.RowKit ND

theorem mpCells_len (ps : List (Int × Value)) : (mpCells ps).length = ps.length * 2 := by
  induction ps with
  | nil => rfl
  | cons a r ih => simp only [mpCells, List.flatMap_cons, List.length_append] at ih ⊢; rw [ih]; simp; omega
theorem mpCells_app (ps qs : List (Int × Value)) : mpCells (ps ++ qs) = mpCells ps ++ mpCells qs := by simp [mpCells]
/-- What a list of mappings reads as, cell by cell. -/
theorem mapps_cells {X : World} {B : Nat} {u : Value} {D : List Mp} (hu : Mapps X B u D) : ∃ ps : List (Int × Value), ps.map (·.1) = D.map (·.1) ∧ ps.length = D.length ∧
    (∀ ad, (∃ n c, u = .slice (some ad) n c) → ∀ j y, (mpCells ps)[j]? = some y → X.cell? (ad.add j) = some y) ∧ ∀ (i : Nat) (p : Int × Value) (d : Mp), ps[i]? = some p → D[i]? = some d → Ints X B .i64 p.2 d.2 := by
  obtain ⟨A, c, rfl, _, _, _, h4⟩ := hu
  have key : ∀ i : Nat, ∃ p : Int × Value, ∀ d, D[i]? = some d → ∃ ad, A = some ad ∧ p.1 = d.1 ∧ X.cell? (ad.add (i * 2)) = some (.int .i64 p.1) ∧ X.cell? (ad.add (i * 2 + 1)) = some p.2 ∧ Ints X B .i64 p.2 d.2 := by
    intro i
    cases hd : D[i]? with
    | none => exact ⟨(0, undef), fun d h => by cases h⟩
    | some d =>
      obtain ⟨ad, sv, e, _, c0, c1, hI⟩ := h4 i d hd
      exact ⟨(d.1, sv), fun d' h => by cases h; exact ⟨ad, e, rfl, c0, c1, hI⟩⟩
  let f : Nat → Int × Value := fun i => (key i).choose
  have hf := fun i => (key i).choose_spec
  have hget : ∀ i, i < D.length → ((List.range D.length).map f)[i]? = some (f i) := fun i hi => by simp [hi]
  refine ⟨(List.range D.length).map f, ?_, by simp, ?_, ?_⟩
  · refine List.ext_getElem? fun i => ?_
    by_cases hi : i < D.length
    · obtain ⟨d, hd⟩ : ∃ d, D[i]? = some d := ⟨_, List.getElem?_eq_getElem hi⟩
      obtain ⟨_, _, e, _⟩ := hf i d hd
      rw [List.getElem?_map, hget i hi, List.getElem?_map, hd]
      exact congrArg some e
    · rw [List.getElem?_eq_none (by simpa using hi), List.getElem?_eq_none (by simpa using hi)]
  · rintro ad ⟨n, c', e⟩ j y hj
    cases e
    have hlt := (List.getElem?_eq_some_iff.1 hj).1
    rw [mpCells_len, List.length_map, List.length_range] at hlt
    have hi : j / 2 < D.length := by omega
    obtain ⟨d, hd⟩ : ∃ d, D[j / 2]? = some d := ⟨_, List.getElem?_eq_getElem hi⟩
    obtain ⟨ad', e, _, c0, c1, _⟩ := hf (j / 2) d hd
    cases e
    obtain ⟨a0, a1⟩ := mpCells_at (hget (j / 2) hi)
    have hc : j = j / 2 * 2 ∨ j = j / 2 * 2 + 1 := by omega
    rcases hc with e | e
    · rw [e] at hj ⊢; rw [a0] at hj; cases hj; exact c0
    · rw [e] at hj ⊢; rw [a1] at hj; cases hj; exact c1
  · intro i p d hp hd
    have hi := (List.getElem?_eq_some_iff.1 hd).1
    rw [hget i hi] at hp
    cases hp
    obtain ⟨_, _, _, _, _, hI⟩ := hf i d hd
    exact hI

section
variable {P : Program} {ops : Array Oper} {o : Oper} {a : Act} {X : World} {K : Act → World → Prop} {Q : Exit → Act → World → Prop} {E : Prop} {T : TypeId} {i0 : TypeInfo}
/-- append(nil, u): a copy in a row of the call's own. -/
theorem step_copy_map (hgd : o.guard = none) (s x : Operand)
    (ho : o.op = .call { callee := .builtin .append, args := #[s, x], argTypes := #[T, T] }) (ht : P.underlying T = some (.slice 51)) (hi : P.info? 51 = some i0) (z : Value) (hz : i0.zero = some z) (h1 : i0.size = 2) (h2 : i0.bytes = 32) (hzs : z.cells.size = 2)
    (S : List Nat) (base B : Nat) (u : Value) (D : List Mp) (hS : ∀ x ∈ S, B ≤ x) (hs : a.eval s = .slice none 0 0) (hx : a.eval x = u) (hu : Mapps X B u D) (hB : B ≤ X.heap.size) (hn : D.length ≤ 1000000) (hb : base ≤ X.heap.size)
    (h : ∀ v' w', OwnM S w' base v' D → X.grownBy w' none → K (a.put o.dst v') w') :
    if Region.wanted o (yielded ops a.tmps) = true then Oper.wp P o a X K Q else E := by
  have hw : Region.wanted o (yielded ops a.tmps) = true := by simp [Region.wanted, hgd]
  obtain ⟨ps, hm, hlen, hcl, hI⟩ := mapps_cells hu
  obtain ⟨A, c, rfl, hc1, hc2, hA, h4⟩ := id hu
  by_cases h0 : D = []
  · subst h0
    rw [if_pos hw]
    have hown : X.ownsRow base 51 2 (.slice none 0 0) 0 [] := World.ownsRow_nil _ _ _ _
    cases A with
    | none =>
      obtain rfl : c = 0 := hA rfl
      have hr := run_append_none (P := P) (ty := o.type) ht hi hown
      have h3 := h (.slice none 0 0) X (OwnM.nil _ _ _) (grown_refl X none)
      unfold Oper.wp execOp
      simp only [ho, resolve, invoke, builtin, Sem.run_bind, Sem.run_pure, Result.andThen_ok, List.map_toArray, List.map_cons, List.map_nil, hs, hx, List.length_nil, hr]
      exact h3
    | some ad =>
      refine wp_append_own X s x T ho base 51 i0 z 2 32 ht hi hz h1 h2 hzs (by omega) (.slice none 0 0) 0 [] hs hown ad 0 c [] hx rfl (by simp) (by simp) (by unfold maxLen; omega) (by omega) hb ?_
      intro v' w' p q r
      refine h v' w' ⟨[], rfl, rfl, by simpa [mpCells] using p, fun i p d hp => by simp at hp⟩ q
  · have hpos : 0 < D.length := List.length_pos_iff.2 h0
    obtain ⟨d0, hd0⟩ : ∃ d, D[0]? = some d := ⟨_, List.getElem?_eq_getElem hpos⟩
    obtain ⟨ad, sv0, rfl, _⟩ := h4 0 d0 hd0
    have hown : X.ownsRow base 51 2 (.slice none 0 0) 0 [] := World.ownsRow_nil _ _ _ _
    refine step_append_lies _ hgd s x T ho base 51 i0 z 2 32 ht hi hz h1 h2 hzs (by omega) (.slice none 0 0) 0 [] hs hown ad D.length c (mpCells ps) hx (by rw [mpCells_len, hlen]) (hcl ad ⟨_, _, rfl⟩) ?_ hpos (by unfold maxLen; omega) (by omega) hb X.heap.size rfl ?_
    · intro y hy
      obtain ⟨p, hp, hy⟩ := List.mem_flatMap.1 hy
      obtain ⟨i, hi⟩ := List.mem_iff_getElem?.1 hp
      have hil := (List.getElem?_eq_some_iff.1 hi).1
      obtain ⟨d, hd⟩ : ∃ d, D[i]? = some d := ⟨_, List.getElem?_eq_getElem (by omega)⟩
      obtain ⟨A', c', e, _⟩ := hI i p d hi hd
      simp at hy
      rcases hy with rfl | rfl
      · rfl
      · rw [e]; rfl
    · intro g cap w' p q r _
      rcases r with r | r
      · cases r
      · subst r
        refine h _ w' ⟨ps, hm, hlen, by rw [hlen]; simpa using p, fun i p' d hp hd => ?_⟩ q
        refine (Ints.reveil (S := []) (w := X) (S' := S ++ [X.heap.size]) (w' := w') (B := B) ?_ fun pp xx hpb _ hpc => ⟨fun hx => (List.mem_append.1 hx).elim (fun hx => by have := hS _ hx; omega) (fun hx => by simp at hx; omega), ?_⟩).more (Nat.le_trans hB q.size)
        · obtain ⟨A', c', e, f1, f2, f3, f4⟩ := hI i p' d hp hd
          exact ⟨A', c', e, f1, f2, f3, fun i x hi => by
            obtain ⟨a1, e1, e2, e3⟩ := f4 i x hi
            exact ⟨a1, e1, e2, by rw [cell_veil (by simp)]; exact e3⟩⟩
        · have e := q.block pp.block (by omega) (by intro e; cases e)
          unfold World.cell? at hpc ⊢
          rw [e]; exact hpc
/-- append(v, E..): mappings behind an own row. -/
theorem step_app_maps (hgd : o.guard = none) (s x : Operand)
    (ho : o.op = .call { callee := .builtin .append, args := #[s, x], argTypes := #[T, T] }) (ht : P.underlying T = some (.slice 51)) (hi : P.info? 51 = some i0) (z : Value) (hz : i0.zero = some z) (h1 : i0.size = 2) (h2 : i0.bytes = 32) (hzs : z.cells.size = 2)
    (S : List Nat) (base : Nat) (v : Value) (D F : List Mp) (k : Nat) (qs : List (Int × Value)) (hs : a.eval s = v) (hx : a.eval x = .slice (some ⟨k, 0, none⟩) F.length F.length) (hown : OwnM S X base v D) (hk : Blk X k 51 (mpCells qs).toArray) (hqm : qs.map (·.1) = F.map (·.1))
    (hq : ∀ (i : Nat) (p : Int × Value) (d : Mp), qs[i]? = some p → F[i]? = some d → Ints (veil (S ++ v.ownBlock.toList) X) X.heap.size .i64 p.2 d.2)
    (hF : 0 < F.length) (hn : D.length + F.length ≤ 1000000) (hb : base ≤ X.heap.size)
    (h : ∀ v' w', OwnM S w' base v' (D ++ F) → X.grownBy w' v.ownBlock → (∀ g, v'.ownBlock = some g → v.ownBlock = some g ∨ g = X.heap.size) → (∃ A m c, v' = .slice A m c) → K (a.put o.dst v') w') :
    if Region.wanted o (yielded ops a.tmps) = true then Oper.wp P o a X K Q else E := by
  obtain ⟨ps, hm, hlen, ho', hr⟩ := hown
  have hql : qs.length = F.length := by have := congrArg List.length hqm; simpa using this
  refine step_append_lies _ hgd s x T ho base 51 i0 z 2 32 ht hi hz h1 h2 hzs (by omega) v ps.length (mpCells ps) hs ho' ⟨k, 0, none⟩ F.length F.length (mpCells qs) hx (by rw [mpCells_len, hql]) (fun j u hj => ?_) ?_ hF (by unfold maxLen; omega) (by omega) hb X.heap.size rfl ?_
  · have e : Addr.add ⟨k, 0, none⟩ j = ⟨k, j, none⟩ := by cases j <;> simp [Addr.add]
    rw [e]; exact hk.at_ (by simpa using hj)
  · intro y hy
    obtain ⟨p, hp, hy⟩ := List.mem_flatMap.1 hy
    obtain ⟨i, hi⟩ := List.mem_iff_getElem?.1 hp
    have hil := (List.getElem?_eq_some_iff.1 hi).1
    obtain ⟨d, hd⟩ : ∃ d, F[i]? = some d := ⟨_, List.getElem?_eq_getElem (by omega)⟩
    obtain ⟨A', c', e, _⟩ := hq i p d hi hd
    simp at hy
    rcases hy with rfl | rfl
    · rfl
    · rw [e]; rfl
  · intro g cap w' p q r _
    have hr' : ∀ g', (Value.slice (some ⟨g, 0, none⟩) (ps.length + F.length) cap).ownBlock = some g' → v.ownBlock = some g' ∨ g' = X.heap.size := fun g' hg' => by
      simp only [Value.ownBlock, Option.some.injEq] at hg'
      subst hg'; exact r
    refine h _ w' ⟨ps ++ qs, by simp [hm, hqm], by simp [hlen, hql], by rw [mpCells_app]; simpa [hql] using p, ?_⟩ q hr' ⟨_, _, _, rfl⟩
    intro i p' d hp hd
    have key : ∀ sv l, Ints (veil (S ++ v.ownBlock.toList) X) X.heap.size .i64 sv l → Ints (veil (S ++ (Value.slice (some ⟨g, 0, none⟩) (ps.length + F.length) cap).ownBlock.toList) w') w'.heap.size .i64 sv l :=
      fun sv l hI => Ints.more (hI.reveil (grown_reveil q hr')) q.size
    by_cases hil : i < ps.length
    · rw [List.getElem?_append_left hil] at hp
      rw [List.getElem?_append_left (by omega)] at hd
      exact key _ _ (hr i p' d hp hd)
    · rw [List.getElem?_append_right (by omega)] at hp
      rw [List.getElem?_append_right (by omega), ← hlen] at hd
      exact key _ _ (hq _ p' d hp hd)
theorem wpList_copy_map {rest : List Oper} (hgd : o.guard = none) (s x : Operand)
    (ho : o.op = .call { callee := .builtin .append, args := #[s, x], argTypes := #[T, T] }) (ht : P.underlying T = some (.slice 51)) (hi : P.info? 51 = some i0) (z : Value) (hz : i0.zero = some z) (h1 : i0.size = 2) (h2 : i0.bytes = 32) (hzs : z.cells.size = 2)
    (S : List Nat) (base B : Nat) (u : Value) (D : List Mp) (hS : ∀ x ∈ S, B ≤ x) (hs : a.eval s = .slice none 0 0) (hx : a.eval x = u) (hu : Mapps X B u D) (hB : B ≤ X.heap.size) (hn : D.length ≤ 1000000) (hb : base ≤ X.heap.size)
    (h : ∀ v' w', OwnM S w' base v' D → X.grownBy w' none → wpList P ops Q rest (a.put o.dst v') w') : wpList P ops Q (o :: rest) a X :=
  wpList_step fun _ hK => step_copy_map hgd s x ho ht hi z hz h1 h2 hzs S base B u D hS hs hx hu hB hn hb fun v' w' p q => hK _ _ (h v' w' p q)
theorem wpList_app_maps {rest : List Oper} (hgd : o.guard = none) (s x : Operand)
    (ho : o.op = .call { callee := .builtin .append, args := #[s, x], argTypes := #[T, T] }) (ht : P.underlying T = some (.slice 51)) (hi : P.info? 51 = some i0) (z : Value) (hz : i0.zero = some z) (h1 : i0.size = 2) (h2 : i0.bytes = 32) (hzs : z.cells.size = 2)
    (S : List Nat) (base : Nat) (v : Value) (D F : List Mp) (k : Nat) (qs : List (Int × Value)) (hs : a.eval s = v) (hx : a.eval x = .slice (some ⟨k, 0, none⟩) F.length F.length) (hown : OwnM S X base v D) (hk : Blk X k 51 (mpCells qs).toArray) (hqm : qs.map (·.1) = F.map (·.1))
    (hq : ∀ (i : Nat) (p : Int × Value) (d : Mp), qs[i]? = some p → F[i]? = some d → Ints (veil (S ++ v.ownBlock.toList) X) X.heap.size .i64 p.2 d.2)
    (hF : 0 < F.length) (hn : D.length + F.length ≤ 1000000) (hb : base ≤ X.heap.size)
    (h : ∀ v' w', OwnM S w' base v' (D ++ F) → X.grownBy w' v.ownBlock → (∃ A m c, v' = .slice A m c) → wpList P ops Q rest (a.put o.dst v') w') : wpList P ops Q (o :: rest) a X :=
  wpList_step fun _ hK => step_app_maps hgd s x ho ht hi z hz h1 h2 hzs S base v D F k qs hs hx hown hk hqm hq hF hn hb fun v' w' p q _ sl => hK _ _ (h v' w' p q sl)
end
theorem OwnM.later {S : List Nat} {w w' : World} {base : Nat} {v : Value} {D : List Mp} (h : OwnM S w base v D) (hb : Below w.heap.size w w') (hS : ∀ x ∈ S, x < base) : OwnM S w' base v D :=
  h.kept (onlyIn.of_below hb) fun q hq hx => by
    obtain ⟨ps, _, _, ho, _⟩ := h
    have h1 := (ho.lt q hq).1
    have h2 := hS q hx
    omega
/-- A new block of integers, read where an own row of mappings and the blocks S are not looked at. -/
theorem new_ints {S : List Nat} {w : World} {base : Nat} {v : Value} {D : List Mp} (h : OwnM S w base v D) (hS : ∀ x ∈ S, x < w.heap.size) (ys : List Int) (hl : ys.length ≤ 1000000) {w' : World} (hb : Below (w.alloc (.cells (ys.map (Value.int .i64)).toArray 3)).heap.size (w.alloc (.cells (ys.map (Value.int .i64)).toArray 3)) w') :
    Ints (veil (S ++ v.ownBlock.toList) w') w'.heap.size .i64 (.slice (some ⟨w.heap.size, 0, none⟩) ys.length ys.length) ys := by
  refine Ints.veil_own' (own_later (own_new w 3 ys hl) hb) fun q hq hx => ?_
  simp only [Value.ownBlock, Option.some.injEq] at hq
  subst hq
  rcases List.mem_append.1 hx with hx | hx
  · have := hS _ hx; omega
  · rw [Option.mem_toList] at hx
    obtain ⟨ps, _, _, ho, _⟩ := h
    have := (ho.lt _ hx).2; omega
/-- A part of a new block of integers. -/
theorem new_ints_off {S : List Nat} {w : World} {base : Nat} {v : Value} {D : List Mp} (h : OwnM S w base v D) (hS : ∀ x ∈ S, x < w.heap.size) (ys : List Int) (off n c : Nat) (_ : ys.length ≤ 1000000) (hn : off + n ≤ ys.length) (hc : n ≤ c) (hc2 : c ≤ 1000000) {w' : World} (hb : Below (w.alloc (.cells (ys.map (Value.int .i64)).toArray 3)).heap.size (w.alloc (.cells (ys.map (Value.int .i64)).toArray 3)) w') :
    Ints (veil (S ++ v.ownBlock.toList) w') w'.heap.size .i64 (.slice (some ⟨w.heap.size, off, none⟩) n c) ((ys.drop off).take n) := by
  have hk := (Blk.new w 3 (ys.map (Value.int .i64)).toArray).later hb
  have hlen : ((ys.drop off).take n).length = n := by simp; omega
  refine ⟨some ⟨w.heap.size, off, none⟩, c, by rw [hlen], by omega, by unfold maxLen; omega, (by intro h; cases h), fun i x hi => ⟨_, rfl, by have := hk.lt; simpa using this, ?_⟩⟩
  have hn' : w.heap.size ∉ S ++ v.ownBlock.toList := fun hx => by
    rcases List.mem_append.1 hx with hx | hx
    · have := hS _ hx; omega
    · rw [Option.mem_toList] at hx
      obtain ⟨ps, _, _, ho, _⟩ := h
      have := (ho.lt _ hx).2; omega
  have e : Addr.add ⟨w.heap.size, off, none⟩ i = ⟨w.heap.size, off + i, none⟩ := by cases i <;> simp [Addr.add]
  rw [e, cell_veil (by exact hn')]
  have hil := (List.getElem?_eq_some_iff.1 hi).1
  rw [List.getElem?_take, if_pos (by omega), List.getElem?_drop] at hi
  exact hk.at_ (by simp [hi])
end Go.Proofs.YtikcfoobfobmnaaGreatDoor
/-
  keep.Other: what stands behind the switch, out of the list that a way through it has put in place.
-/
namespace Go.Proofs.YtikcfoobfobmnaaGreatDoor
open Go.RowKit ND

theorem lit_at {l : List Int} {j : Nat} {x : Int} (h : l[j]? = some x) : (l.map (Value.int .i64)).toArray[j]? = some (.int .i64 x) := by
  rw [List.getElem?_toArray, List.getElem?_map, h]; rfl
theorem oth_below {W w5 X w6 : World} {xb : Nat} {S : List Nat} {v5 : Value} {D : List Mp} (hg5 : W.grownBy w5 none) (hsz : xb + 1 ≤ W.heap.size) (ho5 : OwnM S w5 (xb + 1) v5 D) (hX : Below w5.heap.size w5 X) (hg6 : X.grownBy w6 v5.ownBlock) : Below (xb + 1) W w6 := by
  have h1 : Below (xb + 1) W w5 := (Below.refl _ _).grown hg5 hsz (fun k hk => by cases hk)
  have h2 : Below (xb + 1) W X := h1.trans (hX.mono (Nat.le_trans hsz hg5.size))
  obtain ⟨ps, _, _, ho, _⟩ := ho5
  exact h2.grown hg6 (Nat.le_trans (Nat.le_trans hsz hg5.size) hX.size) (fun k hk => (ho.lt k hk).1)

theorem oth_below2 {W w5 X w6 : World} {xb : Nat} {v5 : Value} (hg5 : W.grownBy w5 none) (hsz : xb + 1 ≤ W.heap.size) (ho5 : ∀ q, v5.ownBlock = some q → xb + 1 ≤ q) (hX : Below w5.heap.size w5 X) (hg6 : X.grownBy w6 v5.ownBlock) : Below (xb + 1) W w6 := by
  have h1 : Below (xb + 1) W w5 := (Below.refl _ _).grown hg5 hsz (fun k hk => by cases hk)
  have h2 : Below (xb + 1) W X := h1.trans (hX.mono (Nat.le_trans hsz hg5.size))
  exact h2.grown hg6 (Nat.le_trans (Nat.le_trans hsz hg5.size) hX.size) (fun k hk => ho5 k hk)
section
variable {P : Program} {ops : Array Oper} {rest : List Oper} {o : Oper} {a : Act} {X : World} {Q : Exit → Act → World → Prop} {T e : TypeId} {i0 : TypeInfo}
theorem wpList_copy_spans (hgd : o.guard = none) (s x : Operand)
    (ho : o.op = .call { callee := .builtin .append, args := #[s, x], argTypes := #[T, T] }) (ht : P.underlying T = some (.slice e)) (hi : P.info? e = some i0) (hz : i0.zero = some (.agg #[.int .i64 0, .int .i64 0, .int .i64 0])) (h1 : i0.size = 3) (h2 : i0.bytes = 24)
    (R : World) (u : Value) (L : List Sp) (B : Nat) (hs : a.eval s = .slice none 0 0) (hx : a.eval x = u) (hu : Spans X B u L) (hl : L.length ≤ 1000000) (hb : R.heap.size ≤ X.heap.size)
    (h : ∀ v' w', w'.ownsRow R.heap.size e 3 v' L.length (L.flatMap spCells) → X.grownBy w' none → wpList P ops Q rest (a.put o.dst v') w') : wpList P ops Q (o :: rest) a X :=
  wpList_step fun _ hK => step_app_nil hgd s x ho ht hi hz h1 h2 R u L B hs hx hu hl hb fun v' w' p q => hK _ _ (h v' w' p q)
theorem wpList_app_span (hgd : o.guard = none) (s x : Operand)
    (ho : o.op = .call { callee := .builtin .append, args := #[s, x], argTypes := #[T, T] }) (ht : P.underlying T = some (.slice e)) (hi : P.info? e = some i0) (hz : i0.zero = some (.agg #[.int .i64 0, .int .i64 0, .int .i64 0])) (h1 : i0.size = 3) (h2 : i0.bytes = 24)
    (R : World) (v : Value) (k : Nat) (L : List Sp) (f t u : Int) (hs : a.eval s = v) (hx : a.eval x = .slice (some ⟨k, 0, none⟩) 1 1) (hown : X.ownsRow R.heap.size e 3 v L.length (L.flatMap spCells)) (hk : Blk X k e #[.int .i64 f, .int .i64 t, .int .i64 u]) (hl : L.length ≤ 1000000) (hb : R.heap.size ≤ X.heap.size)
    (h : ∀ v' w', w'.ownsRow R.heap.size e 3 v' (L ++ [(f, t, u)]).length ((L ++ [(f, t, u)]).flatMap spCells) → X.grownBy w' v.ownBlock → wpList P ops Q rest (a.put o.dst v') w') : wpList P ops Q (o :: rest) a X :=
  wpList_step fun _ hK => step_app_one hgd s x ho ht hi hz h1 h2 R v k L f t u hs hx hown hk hl hb fun v' w' p q => hK _ _ (h v' w' p q)
end

/-- No list is longer than n. -/
structure ShortT (n : Nat) (T : Tab) : Prop where
  c0 : T.category.length ≤ n
  c1 : T.cls.length ≤ n
  c2 : T.joining.length ≤ n
  c3 : T.bidi.length ≤ n
  c4 : T.script.length ≤ n
  c5 : T.status.length ≤ n
  c6 : T.ignorable.length ≤ n
  c7 : T.extensions.length ≤ n
  c8 : T.maps.length ≤ n
  c9 : T.decomps.length ≤ n
  c10 : T.excluded.length ≤ n
  c11 : T.prototypes.length ≤ n
theorem ShortT.more {n m : Nat} {T : Tab} (h : ShortT n T) (hm : n ≤ m) : ShortT m T :=
  ⟨Nat.le_trans h.c0 hm, Nat.le_trans h.c1 hm, Nat.le_trans h.c2 hm, Nat.le_trans h.c3 hm, Nat.le_trans h.c4 hm, Nat.le_trans h.c5 hm, Nat.le_trans h.c6 hm, Nat.le_trans h.c7 hm, Nat.le_trans h.c8 hm, Nat.le_trans h.c9 hm, Nat.le_trans h.c10 hm, Nat.le_trans h.c11 hm⟩
/-- What stands behind the switch. -/
def OthR (w0 : World) (xb rb n : Nat) (wx : World) : Prop := ∃ (t' : Tv) (T' : Tab), Blk wx xb 29 #[t'.c0, t'.c1, t'.c2, t'.c3, t'.c4, t'.c5, t'.c6, t'.c7, t'.c8, t'.c9, t'.c10, t'.c11] ∧ TabR wx wx.heap.size t' T' ∧ ShortT (n + 2) T' ∧ Below w0.heap.size w0 wx ∧ Blk wx rb 29 #[.slice none 0 0, .slice none 0 0, .slice none 0 0, .slice none 0 0, .slice none 0 0, .slice none 0 0, .slice none 0 0, .slice none 0 0, .slice none 0 0, .slice none 0 0, .slice none 0 0, .slice none 0 0]
section
variable {w0 w6 : World} {xb rb n base : Nat} {t : Tv} {T : Tab} {v6 : Value}
theorem oth_same (ht : TabR w0 w0.heap.size t T) (hn : ShortT n T) (hb : Below w0.heap.size w0 w6) (hX : Blk w6 xb 29 #[t.c0, t.c1, t.c2, t.c3, t.c4, t.c5, t.c6, t.c7, t.c8, t.c9, t.c10, t.c11]) (hR : Blk w6 rb 29 #[.slice none 0 0, .slice none 0 0, .slice none 0 0, .slice none 0 0, .slice none 0 0, .slice none 0 0, .slice none 0 0, .slice none 0 0, .slice none 0 0, .slice none 0 0, .slice none 0 0, .slice none 0 0]) : OthR w0 xb rb n w6 :=
  ⟨t, T, hX, (ht.below hb).more hb.size, hn.more (by omega), hb, hR⟩
theorem oth7 {D' : List Mp} (ht : TabR w0 w0.heap.size t T) (hn : ShortT n T) (hD : D'.length ≤ n + 2) (hb : Below w0.heap.size w0 w6) (hx : w0.heap.size ≤ xb) (hX : Blk w6 xb 29 #[t.c0, t.c1, t.c2, t.c3, t.c4, t.c5, t.c6, t.c7, t.c8, t.c9, t.c10, t.c11]) (hR : Blk w6 rb 29 #[.slice none 0 0, .slice none 0 0, .slice none 0 0, .slice none 0 0, .slice none 0 0, .slice none 0 0, .slice none 0 0, .slice none 0 0, .slice none 0 0, .slice none 0 0, .slice none 0 0, .slice none 0 0]) (hne : rb ≠ xb) (hM : OwnM [xb] w6 base v6 D') (hbase : xb < base) :
    OthR w0 xb rb n (w6.setCell ⟨xb, 7, none⟩ v6) := by
  have hb' : Below w0.heap.size w0 (w6.setCell ⟨xb, 7, none⟩ v6) := hb.setCell (p := ⟨xb, 7, none⟩) hx _
  have ht' := (ht.below hb').more hb'.size
  have hset : onlyIn [xb] w6 (w6.setCell ⟨xb, 7, none⟩ v6) := onlyIn.of_grown (grown_setCell (grown_refl w6 (some xb)) 7 v6) (by simp)
  have hM' := (hM.kept hset fun q hq hx => by
    obtain ⟨ps, _, _, ho, _⟩ := hM
    have := (ho.lt q hq).1
    simp at hx; omega).mapps (by intro q hq; simp at hq; omega)
  rw [veil_size] at hM'
  exact ⟨{ t with c7 := v6 }, { T with extensions := D' }, by simpa using hX.put 7 v6, { ht' with r7 := hM'.unveil }, { hn.more (Nat.le_add_right n 2) with c7 := hD }, hb', hR.far (by simpa using hne) _⟩
theorem oth8 {D' : List Mp} (ht : TabR w0 w0.heap.size t T) (hn : ShortT n T) (hD : D'.length ≤ n + 2) (hb : Below w0.heap.size w0 w6) (hx : w0.heap.size ≤ xb) (hX : Blk w6 xb 29 #[t.c0, t.c1, t.c2, t.c3, t.c4, t.c5, t.c6, t.c7, t.c8, t.c9, t.c10, t.c11]) (hR : Blk w6 rb 29 #[.slice none 0 0, .slice none 0 0, .slice none 0 0, .slice none 0 0, .slice none 0 0, .slice none 0 0, .slice none 0 0, .slice none 0 0, .slice none 0 0, .slice none 0 0, .slice none 0 0, .slice none 0 0]) (hne : rb ≠ xb) (hM : OwnM [xb] w6 base v6 D') (hbase : xb < base) :
    OthR w0 xb rb n (w6.setCell ⟨xb, 8, none⟩ v6) := by
  have hb' : Below w0.heap.size w0 (w6.setCell ⟨xb, 8, none⟩ v6) := hb.setCell (p := ⟨xb, 8, none⟩) hx _
  have ht' := (ht.below hb').more hb'.size
  have hset : onlyIn [xb] w6 (w6.setCell ⟨xb, 8, none⟩ v6) := onlyIn.of_grown (grown_setCell (grown_refl w6 (some xb)) 8 v6) (by simp)
  have hM' := (hM.kept hset fun q hq hx => by
    obtain ⟨ps, _, _, ho, _⟩ := hM
    have := (ho.lt q hq).1
    simp at hx; omega).mapps (by intro q hq; simp at hq; omega)
  rw [veil_size] at hM'
  exact ⟨{ t with c8 := v6 }, { T with maps := D' }, by simpa using hX.put 8 v6, { ht' with r8 := hM'.unveil }, { hn.more (Nat.le_add_right n 2) with c8 := hD }, hb', hR.far (by simpa using hne) _⟩
theorem oth9 {D' : List Mp} (ht : TabR w0 w0.heap.size t T) (hn : ShortT n T) (hD : D'.length ≤ n + 2) (hb : Below w0.heap.size w0 w6) (hx : w0.heap.size ≤ xb) (hX : Blk w6 xb 29 #[t.c0, t.c1, t.c2, t.c3, t.c4, t.c5, t.c6, t.c7, t.c8, t.c9, t.c10, t.c11]) (hR : Blk w6 rb 29 #[.slice none 0 0, .slice none 0 0, .slice none 0 0, .slice none 0 0, .slice none 0 0, .slice none 0 0, .slice none 0 0, .slice none 0 0, .slice none 0 0, .slice none 0 0, .slice none 0 0, .slice none 0 0]) (hne : rb ≠ xb) (hM : OwnM [xb] w6 base v6 D') (hbase : xb < base) :
    OthR w0 xb rb n (w6.setCell ⟨xb, 9, none⟩ v6) := by
  have hb' : Below w0.heap.size w0 (w6.setCell ⟨xb, 9, none⟩ v6) := hb.setCell (p := ⟨xb, 9, none⟩) hx _
  have ht' := (ht.below hb').more hb'.size
  have hset : onlyIn [xb] w6 (w6.setCell ⟨xb, 9, none⟩ v6) := onlyIn.of_grown (grown_setCell (grown_refl w6 (some xb)) 9 v6) (by simp)
  have hM' := (hM.kept hset fun q hq hx => by
    obtain ⟨ps, _, _, ho, _⟩ := hM
    have := (ho.lt q hq).1
    simp at hx; omega).mapps (by intro q hq; simp at hq; omega)
  rw [veil_size] at hM'
  exact ⟨{ t with c9 := v6 }, { T with decomps := D' }, by simpa using hX.put 9 v6, { ht' with r9 := hM'.unveil }, { hn.more (Nat.le_add_right n 2) with c9 := hD }, hb', hR.far (by simpa using hne) _⟩
theorem oth11 {D' : List Mp} (ht : TabR w0 w0.heap.size t T) (hn : ShortT n T) (hD : D'.length ≤ n + 2) (hb : Below w0.heap.size w0 w6) (hx : w0.heap.size ≤ xb) (hX : Blk w6 xb 29 #[t.c0, t.c1, t.c2, t.c3, t.c4, t.c5, t.c6, t.c7, t.c8, t.c9, t.c10, t.c11]) (hR : Blk w6 rb 29 #[.slice none 0 0, .slice none 0 0, .slice none 0 0, .slice none 0 0, .slice none 0 0, .slice none 0 0, .slice none 0 0, .slice none 0 0, .slice none 0 0, .slice none 0 0, .slice none 0 0, .slice none 0 0]) (hne : rb ≠ xb) (hM : OwnM [xb] w6 base v6 D') (hbase : xb < base) :
    OthR w0 xb rb n (w6.setCell ⟨xb, 11, none⟩ v6) := by
  have hb' : Below w0.heap.size w0 (w6.setCell ⟨xb, 11, none⟩ v6) := hb.setCell (p := ⟨xb, 11, none⟩) hx _
  have ht' := (ht.below hb').more hb'.size
  have hset : onlyIn [xb] w6 (w6.setCell ⟨xb, 11, none⟩ v6) := onlyIn.of_grown (grown_setCell (grown_refl w6 (some xb)) 11 v6) (by simp)
  have hM' := (hM.kept hset fun q hq hx => by
    obtain ⟨ps, _, _, ho, _⟩ := hM
    have := (ho.lt q hq).1
    simp at hx; omega).mapps (by intro q hq; simp at hq; omega)
  rw [veil_size] at hM'
  exact ⟨{ t with c11 := v6 }, { T with prototypes := D' }, by simpa using hX.put 11 v6, { ht' with r11 := hM'.unveil }, { hn.more (Nat.le_add_right n 2) with c11 := hD }, hb', hR.far (by simpa using hne) _⟩
theorem oth0 {D' : List Sp} (ht : TabR w0 w0.heap.size t T) (hn : ShortT n T) (hD : D'.length ≤ n + 2) (hb : Below w0.heap.size w0 w6) (hx : w0.heap.size ≤ xb) (hX : Blk w6 xb 29 #[t.c0, t.c1, t.c2, t.c3, t.c4, t.c5, t.c6, t.c7, t.c8, t.c9, t.c10, t.c11]) (hR : Blk w6 rb 29 #[.slice none 0 0, .slice none 0 0, .slice none 0 0, .slice none 0 0, .slice none 0 0, .slice none 0 0, .slice none 0 0, .slice none 0 0, .slice none 0 0, .slice none 0 0, .slice none 0 0, .slice none 0 0]) (hne : rb ≠ xb) (hM : w6.ownsRow base 61 3 v6 D'.length (D'.flatMap spCells)) (hbase : xb < base) :
    OthR w0 xb rb n (w6.setCell ⟨xb, 0, none⟩ v6) := by
  have hb' : Below w0.heap.size w0 (w6.setCell ⟨xb, 0, none⟩ v6) := hb.setCell (p := ⟨xb, 0, none⟩) hx _
  have ht' := (ht.below hb').more hb'.size
  have hM' := Spans.of_own (own_grown hM (grown_setCell (grown_refl w6 (some xb)) 0 v6) hbase)
  exact ⟨{ t with c0 := v6 }, { T with category := D' }, by simpa using hX.put 0 v6, { ht' with r0 := hM' }, { hn.more (Nat.le_add_right n 2) with c0 := hD }, hb', hR.far (by simpa using hne) _⟩
theorem oth1 {D' : List Sp} (ht : TabR w0 w0.heap.size t T) (hn : ShortT n T) (hD : D'.length ≤ n + 2) (hb : Below w0.heap.size w0 w6) (hx : w0.heap.size ≤ xb) (hX : Blk w6 xb 29 #[t.c0, t.c1, t.c2, t.c3, t.c4, t.c5, t.c6, t.c7, t.c8, t.c9, t.c10, t.c11]) (hR : Blk w6 rb 29 #[.slice none 0 0, .slice none 0 0, .slice none 0 0, .slice none 0 0, .slice none 0 0, .slice none 0 0, .slice none 0 0, .slice none 0 0, .slice none 0 0, .slice none 0 0, .slice none 0 0, .slice none 0 0]) (hne : rb ≠ xb) (hM : w6.ownsRow base 61 3 v6 D'.length (D'.flatMap spCells)) (hbase : xb < base) :
    OthR w0 xb rb n (w6.setCell ⟨xb, 1, none⟩ v6) := by
  have hb' : Below w0.heap.size w0 (w6.setCell ⟨xb, 1, none⟩ v6) := hb.setCell (p := ⟨xb, 1, none⟩) hx _
  have ht' := (ht.below hb').more hb'.size
  have hM' := Spans.of_own (own_grown hM (grown_setCell (grown_refl w6 (some xb)) 1 v6) hbase)
  exact ⟨{ t with c1 := v6 }, { T with cls := D' }, by simpa using hX.put 1 v6, { ht' with r1 := hM' }, { hn.more (Nat.le_add_right n 2) with c1 := hD }, hb', hR.far (by simpa using hne) _⟩
theorem oth2 {D' : List Sp} (ht : TabR w0 w0.heap.size t T) (hn : ShortT n T) (hD : D'.length ≤ n + 2) (hb : Below w0.heap.size w0 w6) (hx : w0.heap.size ≤ xb) (hX : Blk w6 xb 29 #[t.c0, t.c1, t.c2, t.c3, t.c4, t.c5, t.c6, t.c7, t.c8, t.c9, t.c10, t.c11]) (hR : Blk w6 rb 29 #[.slice none 0 0, .slice none 0 0, .slice none 0 0, .slice none 0 0, .slice none 0 0, .slice none 0 0, .slice none 0 0, .slice none 0 0, .slice none 0 0, .slice none 0 0, .slice none 0 0, .slice none 0 0]) (hne : rb ≠ xb) (hM : w6.ownsRow base 61 3 v6 D'.length (D'.flatMap spCells)) (hbase : xb < base) :
    OthR w0 xb rb n (w6.setCell ⟨xb, 2, none⟩ v6) := by
  have hb' : Below w0.heap.size w0 (w6.setCell ⟨xb, 2, none⟩ v6) := hb.setCell (p := ⟨xb, 2, none⟩) hx _
  have ht' := (ht.below hb').more hb'.size
  have hM' := Spans.of_own (own_grown hM (grown_setCell (grown_refl w6 (some xb)) 2 v6) hbase)
  exact ⟨{ t with c2 := v6 }, { T with joining := D' }, by simpa using hX.put 2 v6, { ht' with r2 := hM' }, { hn.more (Nat.le_add_right n 2) with c2 := hD }, hb', hR.far (by simpa using hne) _⟩
theorem oth5 {D' : List Sp} (ht : TabR w0 w0.heap.size t T) (hn : ShortT n T) (hD : D'.length ≤ n + 2) (hb : Below w0.heap.size w0 w6) (hx : w0.heap.size ≤ xb) (hX : Blk w6 xb 29 #[t.c0, t.c1, t.c2, t.c3, t.c4, t.c5, t.c6, t.c7, t.c8, t.c9, t.c10, t.c11]) (hR : Blk w6 rb 29 #[.slice none 0 0, .slice none 0 0, .slice none 0 0, .slice none 0 0, .slice none 0 0, .slice none 0 0, .slice none 0 0, .slice none 0 0, .slice none 0 0, .slice none 0 0, .slice none 0 0, .slice none 0 0]) (hne : rb ≠ xb) (hM : w6.ownsRow base 61 3 v6 D'.length (D'.flatMap spCells)) (hbase : xb < base) :
    OthR w0 xb rb n (w6.setCell ⟨xb, 5, none⟩ v6) := by
  have hb' : Below w0.heap.size w0 (w6.setCell ⟨xb, 5, none⟩ v6) := hb.setCell (p := ⟨xb, 5, none⟩) hx _
  have ht' := (ht.below hb').more hb'.size
  have hM' := Spans.of_own (own_grown hM (grown_setCell (grown_refl w6 (some xb)) 5 v6) hbase)
  exact ⟨{ t with c5 := v6 }, { T with status := D' }, by simpa using hX.put 5 v6, { ht' with r5 := hM' }, { hn.more (Nat.le_add_right n 2) with c5 := hD }, hb', hR.far (by simpa using hne) _⟩
theorem oth10 {D' : List Int} (ht : TabR w0 w0.heap.size t T) (hn : ShortT n T) (hD : D'.length ≤ n + 2) (hb : Below w0.heap.size w0 w6) (hx : w0.heap.size ≤ xb) (hX : Blk w6 xb 29 #[t.c0, t.c1, t.c2, t.c3, t.c4, t.c5, t.c6, t.c7, t.c8, t.c9, t.c10, t.c11]) (hR : Blk w6 rb 29 #[.slice none 0 0, .slice none 0 0, .slice none 0 0, .slice none 0 0, .slice none 0 0, .slice none 0 0, .slice none 0 0, .slice none 0 0, .slice none 0 0, .slice none 0 0, .slice none 0 0, .slice none 0 0]) (hne : rb ≠ xb) (hM : w6.ownsRow base 3 1 v6 D'.length (D'.map (Value.int .i64))) (hbase : xb < base) :
    OthR w0 xb rb n (w6.setCell ⟨xb, 10, none⟩ v6) := by
  have hb' : Below w0.heap.size w0 (w6.setCell ⟨xb, 10, none⟩ v6) := hb.setCell (p := ⟨xb, 10, none⟩) hx _
  have ht' := (ht.below hb').more hb'.size
  have hM' := Ints.of_own (own_grown hM (grown_setCell (grown_refl w6 (some xb)) 10 v6) hbase)
  exact ⟨{ t with c10 := v6 }, { T with excluded := D' }, by simpa using hX.put 10 v6, { ht' with r10 := hM' }, { hn.more (Nat.le_add_right n 2) with c10 := hD }, hb', hR.far (by simpa using hne) _⟩
end
end Go.Proofs.YtikcfoobfobmnaaGreatDoor
/-
  A region that draws its order, walked by what holds of each slot: one obligation for each operation serves every order.
-/
namespace Go.Proofs.YtikcfoobfobmnaaGreatDoor
open Go.RowKit

/-- How many operations are still to come. -/
def unl (n : Nat) (listed : Array Bool) : Nat := (List.range n).countP fun i => !listed.getD i true
theorem countP_one {l : List Nat} {p q : Nat → Bool} {i : Nat} (hnd : l.Nodup) (hi : i ∈ l) (hp : p i = true) (hq : q i = false) (he : ∀ j, j ≠ i → q j = p j) : l.countP q + 1 = l.countP p := by
  induction l with
  | nil => cases hi
  | cons a r ih =>
    rw [List.nodup_cons] at hnd
    rw [List.countP_cons, List.countP_cons]
    by_cases h : a = i
    · subst h
      rw [hp, hq]
      have : r.countP q = r.countP p := List.countP_congr fun j hj => by
        have hne : j ≠ a := fun e => hnd.1 (e ▸ hj)
        rw [he j hne]
      simp [this]
    · have hi' : i ∈ r := by
        rcases List.mem_cons.1 hi with e | e
        · exact absurd e.symm h
        · exact e
      have := ih hnd.2 hi'
      rw [he a h]
      omega
theorem unl_set {n i : Nat} {listed : Array Bool} (hi : i < n) (hs : i < listed.size) (hu : listed.getD i true = false) : unl n (listed.setIfInBounds i true) + 1 = unl n listed := by
  unfold unl
  refine countP_one List.nodup_range (List.mem_range.2 hi) (by rw [hu]; rfl) ?_ fun j hj => ?_
  · simp [Array.getD_eq_getD_getElem?, hs]
  · simp [Array.getD_eq_getD_getElem?, Ne.symm hj]

/-- What holds in the midst of the region. -/
structure InvS (ops : Array Oper) (F : Act → Prop) (C : World → Prop) (R : Nat → Value → World → Prop) (listed : Array Bool) (a : Act) (w : World) : Prop where
  size : listed.size = ops.size
  c : C w
  f : F a
  r : ∀ (i : Nat) (o : Oper) (d : Tmp), ops[i]? = some o → listed.getD i false = true → o.dst = some d → ∃ v, a.tmps[d]? = some v ∧ R i v w

/-- What an operation may lean on. -/
def Deps (md : Region.Mode) (ops : Array Oper) (R : Nat → Value → World → Prop) (o : Oper) (a : Act) (w : World) : Prop :=
  ∀ e ∈ o.after, Region.binds md e = true → ∀ (oe : Oper) (d : Tmp), ops[e.on]? = some oe → oe.dst = some d → ∃ v, a.tmps[d]? = some v ∧ R e.on v w

theorem ready_spec {md : Region.Mode} {ops : Array Oper} {listed : Array Bool} {i : Nat} (h : i ∈ Region.ready md ops listed) : i < ops.size ∧ listed.getD i true = false ∧ ∃ o, ops[i]? = some o ∧ ∀ e ∈ o.after, Region.binds md e = true → listed.getD e.on false = true := by
  unfold Region.ready at h
  obtain ⟨h1, h2⟩ := List.mem_filter.1 h
  have h1 := List.mem_range.1 h1
  rw [Bool.and_eq_true] at h2
  refine ⟨h1, by simpa using h2.1, ops[i], Array.getElem?_eq_getElem h1, fun e he hb => ?_⟩
  have h3 := h2.2
  rw [Array.getElem?_eq_getElem h1] at h3
  simp only [Option.map_some, Option.getD_some, Array.all_eq_true'] at h3
  have h4 := h3 e he
  rw [hb] at h4
  simpa using h4

/-- All operations are listed, if none may come up. -/
theorem ready_nil {md : Region.Mode} {ops : Array Oper} {listed : Array Bool} (hs : listed.size = ops.size) (hlow : ∀ (i : Nat) (o : Oper), ops[i]? = some o → ∀ e ∈ o.after, Region.binds md e = true → e.on < i) (h : Region.ready md ops listed = []) : ∀ i, i < ops.size → listed.getD i false = true := by
  intro i
  induction i using Nat.strongRecOn with
  | ind i ih =>
    intro hi
    cases hl : listed.getD i false with
    | true => rfl
    | false =>
      have hm : i ∈ Region.ready md ops listed := by
        unfold Region.ready
        refine List.mem_filter.2 ⟨List.mem_range.2 hi, ?_⟩
        rw [Bool.and_eq_true]
        refine ⟨?_, ?_⟩
        · have : listed.getD i true = false := by
            rw [Array.getD_eq_getD_getElem?, Array.getElem?_eq_getElem (by omega)] at hl ⊢
            simpa using hl
          rw [this]; rfl
        · rw [Array.getElem?_eq_getElem hi]
          simp only [Option.map_some, Option.getD_some, Array.all_eq_true']
          intro e he
          cases hb : Region.binds md e with
          | false => rfl
          | true =>
            have := hlow i _ (Array.getElem?_eq_getElem hi) e he hb
            simp [ih e.on this (by omega)]
      rw [h] at hm; cases hm

theorem wpAny_inv {P : Program} {md : Region.Mode} {ops : Array Oper} {Q : Exit → Act → World → Prop} {F : Act → Prop} {C : World → Prop} {R : Nat → Value → World → Prop}
    (hlow : ∀ (i : Nat) (o : Oper), ops[i]? = some o → ∀ e ∈ o.after, Region.binds md e = true → e.on < i)
    (hdst : ∀ (i j : Nat) (o o' : Oper) (d : Tmp), ops[i]? = some o → ops[j]? = some o' → i ≠ j → o.dst = some d → o'.dst ≠ some d)
    (hF : ∀ (i : Nat) (o : Oper) (a : Act) (v : Value), ops[i]? = some o → F a → F (a.put o.dst v))
    (hput : ∀ (i : Nat) (o : Oper) (d : Tmp) (a : Act), ops[i]? = some o → o.dst = some d → F a → d < a.tmps.size)
    (hst : ∀ i v w w', R i v w → Below w.heap.size w w' → R i v w')
    (hob : ∀ (i : Nat) (o : Oper), ops[i]? = some o → ∀ a w, C w → F a → Deps md ops R o a w → ∀ K : Act → World → Prop, (∀ v w', (∀ d, o.dst = some d → R i v w') → C w' → Below w.heap.size w w' → K (a.put o.dst v) w') →
      if Region.wanted o (yielded ops a.tmps) = true then o.wp P a w K Q else K (a.put o.dst undef) w)
    (hend : ∀ a w, C w → F a → (∀ (i : Nat) (o : Oper) (d : Tmp), ops[i]? = some o → o.dst = some d → ∃ v, a.tmps[d]? = some v ∧ R i v w) → Q .normal a w) :
    ∀ (fuel : Nat) (listed : Array Bool) (a : Act) (w : World), InvS ops F C R listed a w → unl ops.size listed ≤ fuel → wpAny P md ops Q fuel listed a w := by
  have fin : ∀ listed a w, InvS ops F C R listed a w → Region.ready md ops listed = [] → Q .normal a w := fun listed a w h hr =>
    hend a w h.c h.f fun i o d ho hd => h.r i o d ho (ready_nil h.size hlow hr i (Array.getElem?_eq_some_iff.1 ho).1) hd
  intro fuel
  induction fuel with
  | zero =>
    intro listed a w h hu
    have hr : Region.ready md ops listed = [] := by
      refine List.eq_nil_iff_forall_not_mem.2 fun i hi => ?_
      obtain ⟨h1, h2, _⟩ := ready_spec hi
      have := unl_set h1 (by rw [h.size]; exact h1) h2
      omega
    exact ⟨hr, fin _ _ _ h hr⟩
  | succ fuel ih =>
    intro listed a w h hu
    refine ⟨fin _ _ _ h, fun i hi => ?_⟩
    obtain ⟨h1, h2, o, ho, hdep⟩ := ready_spec hi
    have hsz := unl_set h1 (by rw [h.size]; exact h1) h2
    have hd : Deps md ops R o a w := fun e he hb oe d hoe hd => h.r e.on oe d hoe (hdep e he hb) hd
    have key : ∀ v w', (∀ d, o.dst = some d → R i v w') → C w' → Below w.heap.size w w' → wpAny P md ops Q fuel (listed.setIfInBounds i true) (a.put o.dst v) w' := fun v w' hv hc hb => by
      refine ih _ _ _ ⟨by simpa using h.size, hc, hF i o a v ho h.f, fun j oj d hj hlj hdj => ?_⟩ (by omega)
      by_cases hji : j = i
      · subst hji
        rw [ho] at hj; cases hj
        refine ⟨v, ?_, hv d hdj⟩
        rw [hdj]
        simp [Act.put, hput j o d a ho hdj h.f]
      · have hlj' : listed.getD j false = true := by
          rw [Array.getD_eq_getD_getElem?, Array.getElem?_setIfInBounds, if_neg (Ne.symm hji)] at hlj
          rw [Array.getD_eq_getD_getElem?]; exact hlj
        obtain ⟨u, hu1, hu2⟩ := h.r j oj d hj hlj' hdj
        refine ⟨u, ?_, hst j u w w' hu2 hb⟩
        cases hod : o.dst with
        | none => exact hu1
        | some d' =>
          have hne : d' ≠ d := fun e => hdst j i oj o d hj ho hji hdj (by rw [hod, e])
          simp [Act.put, hne, hu1]
    have h3 := hob i o ho a w h.c h.f hd (fun a' w' => wpAny P md ops Q fuel (listed.setIfInBounds i true) a' w') key
    unfold wpOp
    rw [ho]
    simp only
    split
    · rename_i hw; rw [if_pos hw] at h3; exact .inl h3
    · rename_i hw; rw [if_neg hw] at h3; exact h3
end Go.Proofs.YtikcfoobfobmnaaGreatDoor
/-
  A variable that holds tables.
-/
namespace Go.Proofs.YtikcfoobfobmnaaGreatDoor
open Go.RowKit ND

/-- A variable that holds tables. -/
def Tbl (W : World) (b : Nat) (t : Tv) (T : Tab) : Prop := Blk W b 29 #[t.c0, t.c1, t.c2, t.c3, t.c4, t.c5, t.c6, t.c7, t.c8, t.c9, t.c10, t.c11] ∧ TabR W W.heap.size t T
theorem Tbl.later {W W' : World} {b : Nat} {t : Tv} {T : Tab} (h : Tbl W b t T) (hb : Below W.heap.size W W') : Tbl W' b t T := ⟨h.1.later hb, h.2.later hb⟩
/-- Tables are laid into a variable. -/
theorem Tbl.new {w1 : World} {T : Tab} {A0 A1 A2 A3 A4 A5 A6 A7 A8 A9 A10 A11 : Option Addr} {k0 k1 k2 k3 k4 k5 k6 k7 k8 k9 k10 k11 : Nat} (h : TabR w1 w1.heap.size ⟨.slice A0 T.category.length k0, .slice A1 T.cls.length k1, .slice A2 T.joining.length k2, .slice A3 T.bidi.length k3, .slice A4 T.script.length k4, .slice A5 T.status.length k5, .slice A6 T.ignorable.length k6, .slice A7 T.extensions.length k7, .slice A8 T.maps.length k8, .slice A9 T.decomps.length k9, .slice A10 T.excluded.length k10, .slice A11 T.prototypes.length k11⟩ T) :
    ∃ t : Tv, t = ⟨.slice A0 T.category.length k0, .slice A1 T.cls.length k1, .slice A2 T.joining.length k2, .slice A3 T.bidi.length k3, .slice A4 T.script.length k4, .slice A5 T.status.length k5, .slice A6 T.ignorable.length k6, .slice A7 T.extensions.length k7, .slice A8 T.maps.length k8, .slice A9 T.decomps.length k9, .slice A10 T.excluded.length k10, .slice A11 T.prototypes.length k11⟩ ∧ Tbl (w1.alloc (.cells #[.slice A0 T.category.length k0, .slice A1 T.cls.length k1, .slice A2 T.joining.length k2, .slice A3 T.bidi.length k3, .slice A4 T.script.length k4, .slice A5 T.status.length k5, .slice A6 T.ignorable.length k6, .slice A7 T.extensions.length k7, .slice A8 T.maps.length k8, .slice A9 T.decomps.length k9, .slice A10 T.excluded.length k10, .slice A11 T.prototypes.length k11] 29)) w1.heap.size t T :=
  ⟨_, rfl, Blk.new _ _ _, h.later ((Below.refl _ _).alloc (Nat.le_refl _) _)⟩
end Go.Proofs.YtikcfoobfobmnaaGreatDoor
