/-
  Merged texts: lemmas and walks that the last text of this claim leans on.
-/
import Derived.Test.YtecpbicfiaifdaaGreatDoorMgB76
import Derived.Test.YtecpbicfiaifdaaGreatDoorMgB722
import Derived.Test.YtecpbicfiaifdaaGreatDoorMgB71
import Derived.Shelf.Abstract
/-
  Laws for keep.Other: a copy of a list of mappings; mappings appended to an own row; spans likewise.
-/
namespace Go.Proofs.YtecpbicfiaifdaaGreatDoor
open Go.RowKit ND

theorem mpCells_len (ps : List (Int × Value)) : (mpCells ps).length = ps.length * 2 := by
  induction ps with
  | nil => rfl
  | cons a r ih => simp only [mpCells, List.flatMap_cons, List.length_append] at ih ⊢; rw [ih]; simp; omega
theorem mpCells_app (ps qs : List (Int × Value)) : mpCells (ps ++ qs) = mpCells ps ++ mpCells qs := by simp [mpCells]
/-- What a list of mappings reads as, cell by cell. -/
theorem mapps_cells {X : World} {B : Nat} {u : Value} {D : List Mp} (hu : Mapps X B u D) : ∃ ps : List (Int × Value), ps.map (·.1) = D.map (·.1) ∧ ps.length = D.length ∧
    (∀ ad, (∃ n c, u = .slice (some ad) n c) → ∀ j y, (mpCells ps)[j]? = some y → X.cell? (ad.add j) = some y) ∧ ∀ (i : Nat) (p : Int × Value) (d : Mp), ps[i]? = some p → D[i]? = some d → Ints X B .i64 p.2 d.2 := by
  obtain ⟨A, c, rfl, _, _, _, h4⟩ := hu
  have key : ∀ i : Nat, ∃ p : Int × Value, ∀ d, D[i]? = some d → ∃ ad, A = some ad ∧ p.1 = d.1 ∧ X.cell? (ad.add (i * 2)) = some (.int .i64 p.1) ∧ X.cell? (ad.add (i * 2 + 1)) = some p.2 ∧ Ints X B .i64 p.2 d.2 := by
    intro i
    cases hd : D[i]? with
    | none => exact ⟨(0, undef), fun d h => by cases h⟩
    | some d =>
      obtain ⟨ad, sv, e, _, c0, c1, hI⟩ := h4 i d hd
      exact ⟨(d.1, sv), fun d' h => by cases h; exact ⟨ad, e, rfl, c0, c1, hI⟩⟩
  let f : Nat → Int × Value := fun i => (key i).choose
  have hf := fun i => (key i).choose_spec
  have hget : ∀ i, i < D.length → ((List.range D.length).map f)[i]? = some (f i) := fun i hi => by simp [hi]
  refine ⟨(List.range D.length).map f, ?_, by simp, ?_, ?_⟩
  · refine List.ext_getElem? fun i => ?_
    by_cases hi : i < D.length
    · obtain ⟨d, hd⟩ : ∃ d, D[i]? = some d := ⟨_, List.getElem?_eq_getElem hi⟩
      obtain ⟨_, _, e, _⟩ := hf i d hd
      rw [List.getElem?_map, hget i hi, List.getElem?_map, hd]
      exact congrArg some e
    · rw [List.getElem?_eq_none (by simpa using hi), List.getElem?_eq_none (by simpa using hi)]
  · rintro ad ⟨n, c', e⟩ j y hj
    cases e
    have hlt := (List.getElem?_eq_some_iff.1 hj).1
    rw [mpCells_len, List.length_map, List.length_range] at hlt
    have hi : j / 2 < D.length := by omega
    obtain ⟨d, hd⟩ : ∃ d, D[j / 2]? = some d := ⟨_, List.getElem?_eq_getElem hi⟩
    obtain ⟨ad', e, _, c0, c1, _⟩ := hf (j / 2) d hd
    cases e
    obtain ⟨a0, a1⟩ := mpCells_at (hget (j / 2) hi)
    have hc : j = j / 2 * 2 ∨ j = j / 2 * 2 + 1 := by omega
    rcases hc with e | e
    · rw [e] at hj ⊢; rw [a0] at hj; cases hj; exact c0
    · rw [e] at hj ⊢; rw [a1] at hj; cases hj; exact c1
  · intro i p d hp hd
    have hi := (List.getElem?_eq_some_iff.1 hd).1
    rw [hget i hi] at hp
    cases hp
    obtain ⟨_, _, _, _, _, hI⟩ := hf i d hd
    exact hI

section
variable {P : Program} {ops : Array Oper} {o : Oper} {a : Act} {X : World} {K : Act → World → Prop} {Q : Exit → Act → World → Prop} {E : Prop} {T : TypeId} {i0 : TypeInfo}
/-- append(nil, u): a copy in a row of the call's own. -/
theorem step_copy_map (hgd : o.guard = none) (s x : Operand)
    (ho : o.op = .call { callee := .builtin .append, args := #[s, x], argTypes := #[T, T] }) (ht : P.underlying T = some (.slice 71)) (hi : P.info? 71 = some i0) (z : Value) (hz : i0.zero = some z) (h1 : i0.size = 2) (h2 : i0.bytes = 32) (hzs : z.cells.size = 2)
    (S : List Nat) (base B : Nat) (u : Value) (D : List Mp) (hS : ∀ x ∈ S, B ≤ x) (hs : a.eval s = .slice none 0 0) (hx : a.eval x = u) (hu : Mapps X B u D) (hB : B ≤ X.heap.size) (hn : D.length ≤ 1000000) (hb : base ≤ X.heap.size)
    (h : ∀ v' w', OwnM S w' base v' D → X.grownBy w' none → K (a.put o.dst v') w') :
    if Region.wanted o (yielded ops a.tmps) = true then Oper.wp P o a X K Q else E := by
  have hw : Region.wanted o (yielded ops a.tmps) = true := by simp [Region.wanted, hgd]
  obtain ⟨ps, hm, hlen, hcl, hI⟩ := mapps_cells hu
  obtain ⟨A, c, rfl, hc1, hc2, hA, h4⟩ := id hu
  by_cases h0 : D = []
  · subst h0
    rw [if_pos hw]
    have hown : X.ownsRow base 71 2 (.slice none 0 0) 0 [] := World.ownsRow_nil _ _ _ _
    cases A with
    | none =>
      obtain rfl : c = 0 := hA rfl
      have hr := run_append_none (P := P) (ty := o.type) ht hi hown
      have h3 := h (.slice none 0 0) X (OwnM.nil _ _ _) (grown_refl X none)
      unfold Oper.wp execOp
      simp only [ho, resolve, invoke, builtin, Sem.run_bind, Sem.run_pure, Result.andThen_ok, List.map_toArray, List.map_cons, List.map_nil, hs, hx, List.length_nil, hr]
      exact h3
    | some ad =>
      refine wp_append_own X s x T ho base 71 i0 z 2 32 ht hi hz h1 h2 hzs (by omega) (.slice none 0 0) 0 [] hs hown ad 0 c [] hx rfl (by simp) (by simp) (by unfold maxLen; omega) (by omega) hb ?_
      intro v' w' p q r
      refine h v' w' ⟨[], rfl, rfl, by simpa [mpCells] using p, fun i p d hp => by simp at hp⟩ q
  · have hpos : 0 < D.length := List.length_pos_iff.2 h0
    obtain ⟨d0, hd0⟩ : ∃ d, D[0]? = some d := ⟨_, List.getElem?_eq_getElem hpos⟩
    obtain ⟨ad, sv0, rfl, _⟩ := h4 0 d0 hd0
    have hown : X.ownsRow base 71 2 (.slice none 0 0) 0 [] := World.ownsRow_nil _ _ _ _
    refine step_append_lies _ hgd s x T ho base 71 i0 z 2 32 ht hi hz h1 h2 hzs (by omega) (.slice none 0 0) 0 [] hs hown ad D.length c (mpCells ps) hx (by rw [mpCells_len, hlen]) (hcl ad ⟨_, _, rfl⟩) ?_ hpos (by unfold maxLen; omega) (by omega) hb X.heap.size rfl ?_
    · intro y hy
      obtain ⟨p, hp, hy⟩ := List.mem_flatMap.1 hy
      obtain ⟨i, hi⟩ := List.mem_iff_getElem?.1 hp
      have hil := (List.getElem?_eq_some_iff.1 hi).1
      obtain ⟨d, hd⟩ : ∃ d, D[i]? = some d := ⟨_, List.getElem?_eq_getElem (by omega)⟩
      obtain ⟨A', c', e, _⟩ := hI i p d hi hd
      simp at hy
      rcases hy with rfl | rfl
      · rfl
      · rw [e]; rfl
    · intro g cap w' p q r _
      rcases r with r | r
      · cases r
      · subst r
        refine h _ w' ⟨ps, hm, hlen, by rw [hlen]; simpa using p, fun i p' d hp hd => ?_⟩ q
        refine (Ints.reveil (S := []) (w := X) (S' := S ++ [X.heap.size]) (w' := w') (B := B) ?_ fun pp xx hpb _ hpc => ⟨fun hx => (List.mem_append.1 hx).elim (fun hx => by have := hS _ hx; omega) (fun hx => by simp at hx; omega), ?_⟩).more (Nat.le_trans hB q.size)
        · obtain ⟨A', c', e, f1, f2, f3, f4⟩ := hI i p' d hp hd
          exact ⟨A', c', e, f1, f2, f3, fun i x hi => by
            obtain ⟨a1, e1, e2, e3⟩ := f4 i x hi
            exact ⟨a1, e1, e2, by rw [cell_veil (by simp)]; exact e3⟩⟩
        · have e := q.block pp.block (by omega) (by intro e; cases e)
          unfold World.cell? at hpc ⊢
          rw [e]; exact hpc
/-- append(v, E..): mappings behind an own row. -/
theorem step_app_maps (hgd : o.guard = none) (s x : Operand)
    (ho : o.op = .call { callee := .builtin .append, args := #[s, x], argTypes := #[T, T] }) (ht : P.underlying T = some (.slice 71)) (hi : P.info? 71 = some i0) (z : Value) (hz : i0.zero = some z) (h1 : i0.size = 2) (h2 : i0.bytes = 32) (hzs : z.cells.size = 2)
    (S : List Nat) (base : Nat) (v : Value) (D F : List Mp) (k : Nat) (qs : List (Int × Value)) (hs : a.eval s = v) (hx : a.eval x = .slice (some ⟨k, 0, none⟩) F.length F.length) (hown : OwnM S X base v D) (hk : Blk X k 71 (mpCells qs).toArray) (hqm : qs.map (·.1) = F.map (·.1))
    (hq : ∀ (i : Nat) (p : Int × Value) (d : Mp), qs[i]? = some p → F[i]? = some d → Ints (veil (S ++ v.ownBlock.toList) X) X.heap.size .i64 p.2 d.2)
    (hF : 0 < F.length) (hn : D.length + F.length ≤ 1000000) (hb : base ≤ X.heap.size)
    (h : ∀ v' w', OwnM S w' base v' (D ++ F) → X.grownBy w' v.ownBlock → (∀ g, v'.ownBlock = some g → v.ownBlock = some g ∨ g = X.heap.size) → (∃ A m c, v' = .slice A m c) → K (a.put o.dst v') w') :
    if Region.wanted o (yielded ops a.tmps) = true then Oper.wp P o a X K Q else E := by
  obtain ⟨ps, hm, hlen, ho', hr⟩ := hown
  have hql : qs.length = F.length := by have := congrArg List.length hqm; simpa using this
  refine step_append_lies _ hgd s x T ho base 71 i0 z 2 32 ht hi hz h1 h2 hzs (by omega) v ps.length (mpCells ps) hs ho' ⟨k, 0, none⟩ F.length F.length (mpCells qs) hx (by rw [mpCells_len, hql]) (fun j u hj => ?_) ?_ hF (by unfold maxLen; omega) (by omega) hb X.heap.size rfl ?_
  · have e : Addr.add ⟨k, 0, none⟩ j = ⟨k, j, none⟩ := by cases j <;> simp [Addr.add]
    rw [e]; exact hk.at_ (by simpa using hj)
  · intro y hy
    obtain ⟨p, hp, hy⟩ := List.mem_flatMap.1 hy
    obtain ⟨i, hi⟩ := List.mem_iff_getElem?.1 hp
    have hil := (List.getElem?_eq_some_iff.1 hi).1
    obtain ⟨d, hd⟩ : ∃ d, F[i]? = some d := ⟨_, List.getElem?_eq_getElem (by omega)⟩
    obtain ⟨A', c', e, _⟩ := hq i p d hi hd
    simp at hy
    rcases hy with rfl | rfl
    · rfl
    · rw [e]; rfl
  · intro g cap w' p q r _
    have hr' : ∀ g', (Value.slice (some ⟨g, 0, none⟩) (ps.length + F.length) cap).ownBlock = some g' → v.ownBlock = some g' ∨ g' = X.heap.size := fun g' hg' => by
      simp only [Value.ownBlock, Option.some.injEq] at hg'
      subst hg'; exact r
    refine h _ w' ⟨ps ++ qs, by simp [hm, hqm], by simp [hlen, hql], by rw [mpCells_app]; simpa [hql] using p, ?_⟩ q hr' ⟨_, _, _, rfl⟩
    intro i p' d hp hd
    have key : ∀ sv l, Ints (veil (S ++ v.ownBlock.toList) X) X.heap.size .i64 sv l → Ints (veil (S ++ (Value.slice (some ⟨g, 0, none⟩) (ps.length + F.length) cap).ownBlock.toList) w') w'.heap.size .i64 sv l :=
      fun sv l hI => Ints.more (hI.reveil (grown_reveil q hr')) q.size
    by_cases hil : i < ps.length
    · rw [List.getElem?_append_left hil] at hp
      rw [List.getElem?_append_left (by omega)] at hd
      exact key _ _ (hr i p' d hp hd)
    · rw [List.getElem?_append_right (by omega)] at hp
      rw [List.getElem?_append_right (by omega), ← hlen] at hd
      exact key _ _ (hq _ p' d hp hd)
theorem wpList_copy_map {rest : List Oper} (hgd : o.guard = none) (s x : Operand)
    (ho : o.op = .call { callee := .builtin .append, args := #[s, x], argTypes := #[T, T] }) (ht : P.underlying T = some (.slice 71)) (hi : P.info? 71 = some i0) (z : Value) (hz : i0.zero = some z) (h1 : i0.size = 2) (h2 : i0.bytes = 32) (hzs : z.cells.size = 2)
    (S : List Nat) (base B : Nat) (u : Value) (D : List Mp) (hS : ∀ x ∈ S, B ≤ x) (hs : a.eval s = .slice none 0 0) (hx : a.eval x = u) (hu : Mapps X B u D) (hB : B ≤ X.heap.size) (hn : D.length ≤ 1000000) (hb : base ≤ X.heap.size)
    (h : ∀ v' w', OwnM S w' base v' D → X.grownBy w' none → wpList P ops Q rest (a.put o.dst v') w') : wpList P ops Q (o :: rest) a X :=
  wpList_step fun _ hK => step_copy_map hgd s x ho ht hi z hz h1 h2 hzs S base B u D hS hs hx hu hB hn hb fun v' w' p q => hK _ _ (h v' w' p q)
theorem wpList_app_maps {rest : List Oper} (hgd : o.guard = none) (s x : Operand)
    (ho : o.op = .call { callee := .builtin .append, args := #[s, x], argTypes := #[T, T] }) (ht : P.underlying T = some (.slice 71)) (hi : P.info? 71 = some i0) (z : Value) (hz : i0.zero = some z) (h1 : i0.size = 2) (h2 : i0.bytes = 32) (hzs : z.cells.size = 2)
    (S : List Nat) (base : Nat) (v : Value) (D F : List Mp) (k : Nat) (qs : List (Int × Value)) (hs : a.eval s = v) (hx : a.eval x = .slice (some ⟨k, 0, none⟩) F.length F.length) (hown : OwnM S X base v D) (hk : Blk X k 71 (mpCells qs).toArray) (hqm : qs.map (·.1) = F.map (·.1))
    (hq : ∀ (i : Nat) (p : Int × Value) (d : Mp), qs[i]? = some p → F[i]? = some d → Ints (veil (S ++ v.ownBlock.toList) X) X.heap.size .i64 p.2 d.2)
    (hF : 0 < F.length) (hn : D.length + F.length ≤ 1000000) (hb : base ≤ X.heap.size)
    (h : ∀ v' w', OwnM S w' base v' (D ++ F) → X.grownBy w' v.ownBlock → (∃ A m c, v' = .slice A m c) → wpList P ops Q rest (a.put o.dst v') w') : wpList P ops Q (o :: rest) a X :=
  wpList_step fun _ hK => step_app_maps hgd s x ho ht hi z hz h1 h2 hzs S base v D F k qs hs hx hown hk hqm hq hF hn hb fun v' w' p q _ sl => hK _ _ (h v' w' p q sl)
end
theorem OwnM.later {S : List Nat} {w w' : World} {base : Nat} {v : Value} {D : List Mp} (h : OwnM S w base v D) (hb : Below w.heap.size w w') (hS : ∀ x ∈ S, x < base) : OwnM S w' base v D :=
  h.kept (onlyIn.of_below hb) fun q hq hx => by
    obtain ⟨ps, _, _, ho, _⟩ := h
    have h1 := (ho.lt q hq).1
    have h2 := hS q hx
    omega
/-- A new block of integers, read where an own row of mappings and the blocks S are not looked at. -/
theorem new_ints {S : List Nat} {w : World} {base : Nat} {v : Value} {D : List Mp} (h : OwnM S w base v D) (hS : ∀ x ∈ S, x < w.heap.size) (ys : List Int) (hl : ys.length ≤ 1000000) {w' : World} (hb : Below (w.alloc (.cells (ys.map (Value.int .i64)).toArray 3)).heap.size (w.alloc (.cells (ys.map (Value.int .i64)).toArray 3)) w') :
    Ints (veil (S ++ v.ownBlock.toList) w') w'.heap.size .i64 (.slice (some ⟨w.heap.size, 0, none⟩) ys.length ys.length) ys := by
  refine Ints.veil_own' (own_later (own_new w 3 ys hl) hb) fun q hq hx => ?_
  simp only [Value.ownBlock, Option.some.injEq] at hq
  subst hq
  rcases List.mem_append.1 hx with hx | hx
  · have := hS _ hx; omega
  · rw [Option.mem_toList] at hx
    obtain ⟨ps, _, _, ho, _⟩ := h
    have := (ho.lt _ hx).2; omega
/-- A part of a new block of integers. -/
theorem new_ints_off {S : List Nat} {w : World} {base : Nat} {v : Value} {D : List Mp} (h : OwnM S w base v D) (hS : ∀ x ∈ S, x < w.heap.size) (ys : List Int) (off n c : Nat) (_ : ys.length ≤ 1000000) (hn : off + n ≤ ys.length) (hc : n ≤ c) (hc2 : c ≤ 1000000) {w' : World} (hb : Below (w.alloc (.cells (ys.map (Value.int .i64)).toArray 3)).heap.size (w.alloc (.cells (ys.map (Value.int .i64)).toArray 3)) w') :
    Ints (veil (S ++ v.ownBlock.toList) w') w'.heap.size .i64 (.slice (some ⟨w.heap.size, off, none⟩) n c) ((ys.drop off).take n) := by
  have hk := (Blk.new w 3 (ys.map (Value.int .i64)).toArray).later hb
  have hlen : ((ys.drop off).take n).length = n := by simp; omega
  refine ⟨some ⟨w.heap.size, off, none⟩, c, by rw [hlen], by omega, by unfold maxLen; omega, (by intro h; cases h), fun i x hi => ⟨_, rfl, by have := hk.lt; simpa using this, ?_⟩⟩
  have hn' : w.heap.size ∉ S ++ v.ownBlock.toList := fun hx => by
    rcases List.mem_append.1 hx with hx | hx
    · have := hS _ hx; omega
    · rw [Option.mem_toList] at hx
      obtain ⟨ps, _, _, ho, _⟩ := h
      have := (ho.lt _ hx).2; omega
  have e : Addr.add ⟨w.heap.size, off, none⟩ i = ⟨w.heap.size, off + i, none⟩ := by cases i <;> simp [Addr.add]
  rw [e, cell_veil (by exact hn')]
  have hil := (List.getElem?_eq_some_iff.1 hi).1
  rw [List.getElem?_take, if_pos (by omega), List.getElem?_drop] at hi
  exact hk.at_ (by simp [hi])
end Go.Proofs.YtecpbicfiaifdaaGreatDoor
/-
  keep.Other: what stands behind the switch, out of the list that a way through it has put in place.
-/
namespace Go.Proofs.YtecpbicfiaifdaaGreatDoor
open Go.RowKit ND

theorem lit_at {l : List Int} {j : Nat} {x : Int} (h : l[j]? = some x) : (l.map (Value.int .i64)).toArray[j]? = some (.int .i64 x) := by
  rw [List.getElem?_toArray, List.getElem?_map, h]; rfl
theorem oth_below {W w5 X w6 : World} {xb : Nat} {S : List Nat} {v5 : Value} {D : List Mp} (hg5 : W.grownBy w5 none) (hsz : xb + 1 ≤ W.heap.size) (ho5 : OwnM S w5 (xb + 1) v5 D) (hX : Below w5.heap.size w5 X) (hg6 : X.grownBy w6 v5.ownBlock) : Below (xb + 1) W w6 := by
  have h1 : Below (xb + 1) W w5 := (Below.refl _ _).grown hg5 hsz (fun k hk => by cases hk)
  have h2 : Below (xb + 1) W X := h1.trans (hX.mono (Nat.le_trans hsz hg5.size))
  obtain ⟨ps, _, _, ho, _⟩ := ho5
  exact h2.grown hg6 (Nat.le_trans (Nat.le_trans hsz hg5.size) hX.size) (fun k hk => (ho.lt k hk).1)

theorem oth_below2 {W w5 X w6 : World} {xb : Nat} {v5 : Value} (hg5 : W.grownBy w5 none) (hsz : xb + 1 ≤ W.heap.size) (ho5 : ∀ q, v5.ownBlock = some q → xb + 1 ≤ q) (hX : Below w5.heap.size w5 X) (hg6 : X.grownBy w6 v5.ownBlock) : Below (xb + 1) W w6 := by
  have h1 : Below (xb + 1) W w5 := (Below.refl _ _).grown hg5 hsz (fun k hk => by cases hk)
  have h2 : Below (xb + 1) W X := h1.trans (hX.mono (Nat.le_trans hsz hg5.size))
  exact h2.grown hg6 (Nat.le_trans (Nat.le_trans hsz hg5.size) hX.size) (fun k hk => ho5 k hk)
section
variable {P : Program} {ops : Array Oper} {rest : List Oper} {o : Oper} {a : Act} {X : World} {Q : Exit → Act → World → Prop} {T e : TypeId} {i0 : TypeInfo}
theorem wpList_copy_spans (hgd : o.guard = none) (s x : Operand)
    (ho : o.op = .call { callee := .builtin .append, args := #[s, x], argTypes := #[T, T] }) (ht : P.underlying T = some (.slice e)) (hi : P.info? e = some i0) (hz : i0.zero = some (.agg #[.int .i64 0, .int .i64 0, .int .i64 0])) (h1 : i0.size = 3) (h2 : i0.bytes = 24)
    (R : World) (u : Value) (L : List Sp) (B : Nat) (hs : a.eval s = .slice none 0 0) (hx : a.eval x = u) (hu : Spans X B u L) (hl : L.length ≤ 1000000) (hb : R.heap.size ≤ X.heap.size)
    (h : ∀ v' w', w'.ownsRow R.heap.size e 3 v' L.length (L.flatMap spCells) → X.grownBy w' none → wpList P ops Q rest (a.put o.dst v') w') : wpList P ops Q (o :: rest) a X :=
  wpList_step fun _ hK => step_app_nil hgd s x ho ht hi hz h1 h2 R u L B hs hx hu hl hb fun v' w' p q => hK _ _ (h v' w' p q)
theorem wpList_app_span (hgd : o.guard = none) (s x : Operand)
    (ho : o.op = .call { callee := .builtin .append, args := #[s, x], argTypes := #[T, T] }) (ht : P.underlying T = some (.slice e)) (hi : P.info? e = some i0) (hz : i0.zero = some (.agg #[.int .i64 0, .int .i64 0, .int .i64 0])) (h1 : i0.size = 3) (h2 : i0.bytes = 24)
    (R : World) (v : Value) (k : Nat) (L : List Sp) (f t u : Int) (hs : a.eval s = v) (hx : a.eval x = .slice (some ⟨k, 0, none⟩) 1 1) (hown : X.ownsRow R.heap.size e 3 v L.length (L.flatMap spCells)) (hk : Blk X k e #[.int .i64 f, .int .i64 t, .int .i64 u]) (hl : L.length ≤ 1000000) (hb : R.heap.size ≤ X.heap.size)
    (h : ∀ v' w', w'.ownsRow R.heap.size e 3 v' (L ++ [(f, t, u)]).length ((L ++ [(f, t, u)]).flatMap spCells) → X.grownBy w' v.ownBlock → wpList P ops Q rest (a.put o.dst v') w') : wpList P ops Q (o :: rest) a X :=
  wpList_step fun _ hK => step_app_one hgd s x ho ht hi hz h1 h2 R v k L f t u hs hx hown hk hl hb fun v' w' p q => hK _ _ (h v' w' p q)
end

/-- No list is longer than n. -/
structure ShortT (n : Nat) (T : Tab) : Prop where
  c0 : T.category.length ≤ n
  c1 : T.cls.length ≤ n
  c2 : T.joining.length ≤ n
  c3 : T.bidi.length ≤ n
  c4 : T.script.length ≤ n
  c5 : T.status.length ≤ n
  c6 : T.ignorable.length ≤ n
  c7 : T.extensions.length ≤ n
  c8 : T.maps.length ≤ n
  c9 : T.decomps.length ≤ n
  c10 : T.excluded.length ≤ n
  c11 : T.prototypes.length ≤ n
theorem ShortT.more {n m : Nat} {T : Tab} (h : ShortT n T) (hm : n ≤ m) : ShortT m T :=
  ⟨Nat.le_trans h.c0 hm, Nat.le_trans h.c1 hm, Nat.le_trans h.c2 hm, Nat.le_trans h.c3 hm, Nat.le_trans h.c4 hm, Nat.le_trans h.c5 hm, Nat.le_trans h.c6 hm, Nat.le_trans h.c7 hm, Nat.le_trans h.c8 hm, Nat.le_trans h.c9 hm, Nat.le_trans h.c10 hm, Nat.le_trans h.c11 hm⟩
/-- What stands behind the switch. -/
def OthR (w0 : World) (xb rb n : Nat) (wx : World) : Prop := ∃ (t' : Tv) (T' : Tab), Blk wx xb 26 #[t'.c0, t'.c1, t'.c2, t'.c3, t'.c4, t'.c5, t'.c6, t'.c7, t'.c8, t'.c9, t'.c10, t'.c11] ∧ TabR wx wx.heap.size t' T' ∧ ShortT (n + 2) T' ∧ Below w0.heap.size w0 wx ∧ Blk wx rb 26 #[.slice none 0 0, .slice none 0 0, .slice none 0 0, .slice none 0 0, .slice none 0 0, .slice none 0 0, .slice none 0 0, .slice none 0 0, .slice none 0 0, .slice none 0 0, .slice none 0 0, .slice none 0 0]
section
variable {w0 w6 : World} {xb rb n base : Nat} {t : Tv} {T : Tab} {v6 : Value}
theorem oth_same (ht : TabR w0 w0.heap.size t T) (hn : ShortT n T) (hb : Below w0.heap.size w0 w6) (hX : Blk w6 xb 26 #[t.c0, t.c1, t.c2, t.c3, t.c4, t.c5, t.c6, t.c7, t.c8, t.c9, t.c10, t.c11]) (hR : Blk w6 rb 26 #[.slice none 0 0, .slice none 0 0, .slice none 0 0, .slice none 0 0, .slice none 0 0, .slice none 0 0, .slice none 0 0, .slice none 0 0, .slice none 0 0, .slice none 0 0, .slice none 0 0, .slice none 0 0]) : OthR w0 xb rb n w6 :=
  ⟨t, T, hX, (ht.below hb).more hb.size, hn.more (by omega), hb, hR⟩
theorem oth7 {D' : List Mp} (ht : TabR w0 w0.heap.size t T) (hn : ShortT n T) (hD : D'.length ≤ n + 2) (hb : Below w0.heap.size w0 w6) (hx : w0.heap.size ≤ xb) (hX : Blk w6 xb 26 #[t.c0, t.c1, t.c2, t.c3, t.c4, t.c5, t.c6, t.c7, t.c8, t.c9, t.c10, t.c11]) (hR : Blk w6 rb 26 #[.slice none 0 0, .slice none 0 0, .slice none 0 0, .slice none 0 0, .slice none 0 0, .slice none 0 0, .slice none 0 0, .slice none 0 0, .slice none 0 0, .slice none 0 0, .slice none 0 0, .slice none 0 0]) (hne : rb ≠ xb) (hM : OwnM [xb] w6 base v6 D') (hbase : xb < base) :
    OthR w0 xb rb n (w6.setCell ⟨xb, 7, none⟩ v6) := by
  have hb' : Below w0.heap.size w0 (w6.setCell ⟨xb, 7, none⟩ v6) := hb.setCell (p := ⟨xb, 7, none⟩) hx _
  have ht' := (ht.below hb').more hb'.size
  have hset : onlyIn [xb] w6 (w6.setCell ⟨xb, 7, none⟩ v6) := onlyIn.of_grown (grown_setCell (grown_refl w6 (some xb)) 7 v6) (by simp)
  have hM' := (hM.kept hset fun q hq hx => by
    obtain ⟨ps, _, _, ho, _⟩ := hM
    have := (ho.lt q hq).1
    simp at hx; omega).mapps (by intro q hq; simp at hq; omega)
  rw [veil_size] at hM'
  exact ⟨{ t with c7 := v6 }, { T with extensions := D' }, by simpa using hX.put 7 v6, { ht' with r7 := hM'.unveil }, { hn.more (Nat.le_add_right n 2) with c7 := hD }, hb', hR.far (by simpa using hne) _⟩
theorem oth8 {D' : List Mp} (ht : TabR w0 w0.heap.size t T) (hn : ShortT n T) (hD : D'.length ≤ n + 2) (hb : Below w0.heap.size w0 w6) (hx : w0.heap.size ≤ xb) (hX : Blk w6 xb 26 #[t.c0, t.c1, t.c2, t.c3, t.c4, t.c5, t.c6, t.c7, t.c8, t.c9, t.c10, t.c11]) (hR : Blk w6 rb 26 #[.slice none 0 0, .slice none 0 0, .slice none 0 0, .slice none 0 0, .slice none 0 0, .slice none 0 0, .slice none 0 0, .slice none 0 0, .slice none 0 0, .slice none 0 0, .slice none 0 0, .slice none 0 0]) (hne : rb ≠ xb) (hM : OwnM [xb] w6 base v6 D') (hbase : xb < base) :
    OthR w0 xb rb n (w6.setCell ⟨xb, 8, none⟩ v6) := by
  have hb' : Below w0.heap.size w0 (w6.setCell ⟨xb, 8, none⟩ v6) := hb.setCell (p := ⟨xb, 8, none⟩) hx _
  have ht' := (ht.below hb').more hb'.size
  have hset : onlyIn [xb] w6 (w6.setCell ⟨xb, 8, none⟩ v6) := onlyIn.of_grown (grown_setCell (grown_refl w6 (some xb)) 8 v6) (by simp)
  have hM' := (hM.kept hset fun q hq hx => by
    obtain ⟨ps, _, _, ho, _⟩ := hM
    have := (ho.lt q hq).1
    simp at hx; omega).mapps (by intro q hq; simp at hq; omega)
  rw [veil_size] at hM'
  exact ⟨{ t with c8 := v6 }, { T with maps := D' }, by simpa using hX.put 8 v6, { ht' with r8 := hM'.unveil }, { hn.more (Nat.le_add_right n 2) with c8 := hD }, hb', hR.far (by simpa using hne) _⟩
theorem oth9 {D' : List Mp} (ht : TabR w0 w0.heap.size t T) (hn : ShortT n T) (hD : D'.length ≤ n + 2) (hb : Below w0.heap.size w0 w6) (hx : w0.heap.size ≤ xb) (hX : Blk w6 xb 26 #[t.c0, t.c1, t.c2, t.c3, t.c4, t.c5, t.c6, t.c7, t.c8, t.c9, t.c10, t.c11]) (hR : Blk w6 rb 26 #[.slice none 0 0, .slice none 0 0, .slice none 0 0, .slice none 0 0, .slice none 0 0, .slice none 0 0, .slice none 0 0, .slice none 0 0, .slice none 0 0, .slice none 0 0, .slice none 0 0, .slice none 0 0]) (hne : rb ≠ xb) (hM : OwnM [xb] w6 base v6 D') (hbase : xb < base) :
    OthR w0 xb rb n (w6.setCell ⟨xb, 9, none⟩ v6) := by
  have hb' : Below w0.heap.size w0 (w6.setCell ⟨xb, 9, none⟩ v6) := hb.setCell (p := ⟨xb, 9, none⟩) hx _
  have ht' := (ht.below hb').more hb'.size
  have hset : onlyIn [xb] w6 (w6.setCell ⟨xb, 9, none⟩ v6) := onlyIn.of_grown (grown_setCell (grown_refl w6 (some xb)) 9 v6) (by simp)
  have hM' := (hM.kept hset fun q hq hx => by
    obtain ⟨ps, _, _, ho, _⟩ := hM
    have := (ho.lt q hq).1
    simp at hx; omega).mapps (by intro q hq; simp at hq; omega)
  rw [veil_size] at hM'
  exact ⟨{ t with c9 := v6 }, { T with decomps := D' }, by simpa using hX.put 9 v6, { ht' with r9 := hM'.unveil }, { hn.more (Nat.le_add_right n 2) with c9 := hD }, hb', hR.far (by simpa using hne) _⟩
theorem oth11 {D' : List Mp} (ht : TabR w0 w0.heap.size t T) (hn : ShortT n T) (hD : D'.length ≤ n + 2) (hb : Below w0.heap.size w0 w6) (hx : w0.heap.size ≤ xb) (hX : Blk w6 xb 26 #[t.c0, t.c1, t.c2, t.c3, t.c4, t.c5, t.c6, t.c7, t.c8, t.c9, t.c10, t.c11]) (hR : Blk w6 rb 26 #[.slice none 0 0, .slice none 0 0, .slice none 0 0, .slice none 0 0, .slice none 0 0, .slice none 0 0, .slice none 0 0, .slice none 0 0, .slice none 0 0, .slice none 0 0, .slice none 0 0, .slice none 0 0]) (hne : rb ≠ xb) (hM : OwnM [xb] w6 base v6 D') (hbase : xb < base) :
    OthR w0 xb rb n (w6.setCell ⟨xb, 11, none⟩ v6) := by
  have hb' : Below w0.heap.size w0 (w6.setCell ⟨xb, 11, none⟩ v6) := hb.setCell (p := ⟨xb, 11, none⟩) hx _
  have ht' := (ht.below hb').more hb'.size
  have hset : onlyIn [xb] w6 (w6.setCell ⟨xb, 11, none⟩ v6) := onlyIn.of_grown (grown_setCell (grown_refl w6 (some xb)) 11 v6) (by simp)
  have hM' := (hM.kept hset fun q hq hx => by
    obtain ⟨ps, _, _, ho, _⟩ := hM
    have := (ho.lt q hq).1
    simp at hx; omega).mapps (by intro q hq; simp at hq; omega)
  rw [veil_size] at hM'
  exact ⟨{ t with c11 := v6 }, { T with prototypes := D' }, by simpa using hX.put 11 v6, { ht' with r11 := hM'.unveil }, { hn.more (Nat.le_add_right n 2) with c11 := hD }, hb', hR.far (by simpa using hne) _⟩
theorem oth0 {D' : List Sp} (ht : TabR w0 w0.heap.size t T) (hn : ShortT n T) (hD : D'.length ≤ n + 2) (hb : Below w0.heap.size w0 w6) (hx : w0.heap.size ≤ xb) (hX : Blk w6 xb 26 #[t.c0, t.c1, t.c2, t.c3, t.c4, t.c5, t.c6, t.c7, t.c8, t.c9, t.c10, t.c11]) (hR : Blk w6 rb 26 #[.slice none 0 0, .slice none 0 0, .slice none 0 0, .slice none 0 0, .slice none 0 0, .slice none 0 0, .slice none 0 0, .slice none 0 0, .slice none 0 0, .slice none 0 0, .slice none 0 0, .slice none 0 0]) (hne : rb ≠ xb) (hM : w6.ownsRow base 64 3 v6 D'.length (D'.flatMap spCells)) (hbase : xb < base) :
    OthR w0 xb rb n (w6.setCell ⟨xb, 0, none⟩ v6) := by
  have hb' : Below w0.heap.size w0 (w6.setCell ⟨xb, 0, none⟩ v6) := hb.setCell (p := ⟨xb, 0, none⟩) hx _
  have ht' := (ht.below hb').more hb'.size
  have hM' := Spans.of_own (own_grown hM (grown_setCell (grown_refl w6 (some xb)) 0 v6) hbase)
  exact ⟨{ t with c0 := v6 }, { T with category := D' }, by simpa using hX.put 0 v6, { ht' with r0 := hM' }, { hn.more (Nat.le_add_right n 2) with c0 := hD }, hb', hR.far (by simpa using hne) _⟩
theorem oth1 {D' : List Sp} (ht : TabR w0 w0.heap.size t T) (hn : ShortT n T) (hD : D'.length ≤ n + 2) (hb : Below w0.heap.size w0 w6) (hx : w0.heap.size ≤ xb) (hX : Blk w6 xb 26 #[t.c0, t.c1, t.c2, t.c3, t.c4, t.c5, t.c6, t.c7, t.c8, t.c9, t.c10, t.c11]) (hR : Blk w6 rb 26 #[.slice none 0 0, .slice none 0 0, .slice none 0 0, .slice none 0 0, .slice none 0 0, .slice none 0 0, .slice none 0 0, .slice none 0 0, .slice none 0 0, .slice none 0 0, .slice none 0 0, .slice none 0 0]) (hne : rb ≠ xb) (hM : w6.ownsRow base 64 3 v6 D'.length (D'.flatMap spCells)) (hbase : xb < base) :
    OthR w0 xb rb n (w6.setCell ⟨xb, 1, none⟩ v6) := by
  have hb' : Below w0.heap.size w0 (w6.setCell ⟨xb, 1, none⟩ v6) := hb.setCell (p := ⟨xb, 1, none⟩) hx _
  have ht' := (ht.below hb').more hb'.size
  have hM' := Spans.of_own (own_grown hM (grown_setCell (grown_refl w6 (some xb)) 1 v6) hbase)
  exact ⟨{ t with c1 := v6 }, { T with cls := D' }, by simpa using hX.put 1 v6, { ht' with r1 := hM' }, { hn.more (Nat.le_add_right n 2) with c1 := hD }, hb', hR.far (by simpa using hne) _⟩
theorem oth2 {D' : List Sp} (ht : TabR w0 w0.heap.size t T) (hn : ShortT n T) (hD : D'.length ≤ n + 2) (hb : Below w0.heap.size w0 w6) (hx : w0.heap.size ≤ xb) (hX : Blk w6 xb 26 #[t.c0, t.c1, t.c2, t.c3, t.c4, t.c5, t.c6, t.c7, t.c8, t.c9, t.c10, t.c11]) (hR : Blk w6 rb 26 #[.slice none 0 0, .slice none 0 0, .slice none 0 0, .slice none 0 0, .slice none 0 0, .slice none 0 0, .slice none 0 0, .slice none 0 0, .slice none 0 0, .slice none 0 0, .slice none 0 0, .slice none 0 0]) (hne : rb ≠ xb) (hM : w6.ownsRow base 64 3 v6 D'.length (D'.flatMap spCells)) (hbase : xb < base) :
    OthR w0 xb rb n (w6.setCell ⟨xb, 2, none⟩ v6) := by
  have hb' : Below w0.heap.size w0 (w6.setCell ⟨xb, 2, none⟩ v6) := hb.setCell (p := ⟨xb, 2, none⟩) hx _
  have ht' := (ht.below hb').more hb'.size
  have hM' := Spans.of_own (own_grown hM (grown_setCell (grown_refl w6 (some xb)) 2 v6) hbase)
  exact ⟨{ t with c2 := v6 }, { T with joining := D' }, by simpa using hX.put 2 v6, { ht' with r2 := hM' }, { hn.more (Nat.le_add_right n 2) with c2 := hD }, hb', hR.far (by simpa using hne) _⟩
theorem oth5 {D' : List Sp} (ht : TabR w0 w0.heap.size t T) (hn : ShortT n T) (hD : D'.length ≤ n + 2) (hb : Below w0.heap.size w0 w6) (hx : w0.heap.size ≤ xb) (hX : Blk w6 xb 26 #[t.c0, t.c1, t.c2, t.c3, t.c4, t.c5, t.c6, t.c7, t.c8, t.c9, t.c10, t.c11]) (hR : Blk w6 rb 26 #[.slice none 0 0, .slice none 0 0, .slice none 0 0, .slice none 0 0, .slice none 0 0, .slice none 0 0, .slice none 0 0, .slice none 0 0, .slice none 0 0, .slice none 0 0, .slice none 0 0, .slice none 0 0]) (hne : rb ≠ xb) (hM : w6.ownsRow base 64 3 v6 D'.length (D'.flatMap spCells)) (hbase : xb < base) :
    OthR w0 xb rb n (w6.setCell ⟨xb, 5, none⟩ v6) := by
  have hb' : Below w0.heap.size w0 (w6.setCell ⟨xb, 5, none⟩ v6) := hb.setCell (p := ⟨xb, 5, none⟩) hx _
  have ht' := (ht.below hb').more hb'.size
  have hM' := Spans.of_own (own_grown hM (grown_setCell (grown_refl w6 (some xb)) 5 v6) hbase)
  exact ⟨{ t with c5 := v6 }, { T with status := D' }, by simpa using hX.put 5 v6, { ht' with r5 := hM' }, { hn.more (Nat.le_add_right n 2) with c5 := hD }, hb', hR.far (by simpa using hne) _⟩
theorem oth10 {D' : List Int} (ht : TabR w0 w0.heap.size t T) (hn : ShortT n T) (hD : D'.length ≤ n + 2) (hb : Below w0.heap.size w0 w6) (hx : w0.heap.size ≤ xb) (hX : Blk w6 xb 26 #[t.c0, t.c1, t.c2, t.c3, t.c4, t.c5, t.c6, t.c7, t.c8, t.c9, t.c10, t.c11]) (hR : Blk w6 rb 26 #[.slice none 0 0, .slice none 0 0, .slice none 0 0, .slice none 0 0, .slice none 0 0, .slice none 0 0, .slice none 0 0, .slice none 0 0, .slice none 0 0, .slice none 0 0, .slice none 0 0, .slice none 0 0]) (hne : rb ≠ xb) (hM : w6.ownsRow base 3 1 v6 D'.length (D'.map (Value.int .i64))) (hbase : xb < base) :
    OthR w0 xb rb n (w6.setCell ⟨xb, 10, none⟩ v6) := by
  have hb' : Below w0.heap.size w0 (w6.setCell ⟨xb, 10, none⟩ v6) := hb.setCell (p := ⟨xb, 10, none⟩) hx _
  have ht' := (ht.below hb').more hb'.size
  have hM' := Ints.of_own (own_grown hM (grown_setCell (grown_refl w6 (some xb)) 10 v6) hbase)
  exact ⟨{ t with c10 := v6 }, { T with excluded := D' }, by simpa using hX.put 10 v6, { ht' with r10 := hM' }, { hn.more (Nat.le_add_right n 2) with c10 := hD }, hb', hR.far (by simpa using hne) _⟩
end
end Go.Proofs.YtecpbicfiaifdaaGreatDoor
/-
  keep.Other, case 2: a span ahead of the list of categories.
-/
namespace Go.Proofs.YtecpbicfiaifdaaGreatDoor
open Go.RowKit ND

section
variable {P : Program} {o : Oper} {a : Act} {X : World} {K : Act → World → Prop} {Q : Exit → Act → World → Prop}
/-- append(v, u..): spans that lie somewhere behind an own row. -/
theorem ob_app_spans {T e : TypeId} {i0 : TypeInfo} (s x : Operand)
    (ho : o.op = .call { callee := .builtin .append, args := #[s, x], argTypes := #[T, T] }) (ht : P.underlying T = some (.slice e)) (hi : P.info? e = some i0) (hz : i0.zero = some (.agg #[.int .i64 0, .int .i64 0, .int .i64 0])) (h1 : i0.size = 3) (h2 : i0.bytes = 24)
    (base : Nat) (v u : Value) (L0 L : List Sp) (B : Nat) (hs : a.eval s = v) (hx : a.eval x = u) (hown : X.ownsRow base e 3 v L0.length (L0.flatMap spCells)) (hu : Spans X B u L) (hl : L0.length + L.length ≤ 1000000) (hb : base ≤ X.heap.size)
    (h : ∀ v' w', w'.ownsRow base e 3 v' (L0 ++ L).length ((L0 ++ L).flatMap spCells) → X.grownBy w' v.ownBlock → K (a.put o.dst v') w') : o.wp P a X K Q := by
  obtain ⟨A, c, rfl, hc1, hc2, hA, hcell⟩ := hu
  cases A with
  | none =>
    obtain rfl : c = 0 := hA rfl
    obtain rfl : L = [] := List.eq_nil_of_length_eq_zero (by omega)
    have hr := run_append_none (P := P) (ty := o.type) ht hi hown
    have h3 := h v X (by simpa using hown) (grown_refl X _)
    unfold Oper.wp execOp
    simp only [ho, resolve, invoke, builtin, Sem.run_bind, Sem.run_pure, Result.andThen_ok, List.map_toArray, List.map_cons, List.map_nil, hs, hx, List.length_nil, hr]
    exact h3
  | some ad =>
    refine wp_append_own X s x T ho base e i0 (.agg #[.int .i64 0, .int .i64 0, .int .i64 0]) 3 24 ht hi hz h1 h2 rfl (by omega) v L0.length _ hs hown ad L.length c (L.flatMap spCells) hx (flat_len3 L) ?_ ?_ (by unfold maxLen; omega) (by omega) hb ?_
    · refine spans_news fun i x hi => ?_
      obtain ⟨ad', e1, _, e2⟩ := hcell i x hi
      cases e1; exact e2
    · intro q hq
      obtain ⟨y, _, hy⟩ := List.mem_flatMap.1 hq
      simp only [spCells, List.mem_cons, List.not_mem_nil, or_false] at hy
      rcases hy with rfl | rfl | rfl <;> rfl
    · intro v' w' p q r
      exact h v' w' (by simpa using p) q
end
noncomputable abbrev opsO (k : Nat) : Array Oper := opsAt Tryz.f33 k
theorem run_span1 {w : World} {a : Act} {o : Oper} {d : Tmp} {x y z : Int} (ho : o.op = .buildSlice 23 1 #[(0, .tmp d)]) (hd : a.tmps[d]? = some (.agg #[.int .i64 x, .int .i64 y, .int .i64 z])) :
    (execOp a.eval o).run Tryz.prog w = .ok (.value (.slice (some ⟨w.heap.size, 0, none⟩) 1 1)) (w.alloc (.cells #[.int .i64 x, .int .i64 y, .int .i64 z] 64)) := by
  unfold execOp
  rw [ho]
  go_simp
end Go.Proofs.YtecpbicfiaifdaaGreatDoor
/-
  Drawn regions that append and end in a store: what is said of slots that lie in memory.
-/
namespace Go.Proofs.YtecpbicfiaifdaaGreatDoor
open Go.RowKit ND

/-- A literal of integers in a block of its own above xb. -/
def LitI (xb : Nat) (xs : List Int) (v : Value) (w : World) : Prop := ∃ k, v = .slice (some ⟨k, 0, none⟩) xs.length xs.length ∧ Blk w k 3 (xs.map (Value.int .i64)).toArray ∧ xb < k
/-- A literal of mappings, likewise. -/
def LitM (xb : Nat) (F : List Mp) (v : Value) (w : World) : Prop := ∃ (k : Nat) (us : List (Int × Value)), v = .slice (some ⟨k, 0, none⟩) F.length F.length ∧ Blk w k 71 (mpCells us).toArray ∧ xb < k ∧ us.map (·.1) = F.map (·.1) ∧ ∀ (i : Nat) (p : Int × Value) (d : Mp), us[i]? = some p → F[i]? = some d → LitI xb d.2 p.2 w
/-- What is said of a slot. -/
inductive SpecM where
  | val (v : Value)
  | spans (L : List Sp)
  | maps (D : List Mp)
  | lit (xs : List Int)
  | pair (f : Int) (xs : List Int)
  | pairs (F : List Mp)
  | cellI (x : Int)
def SpecM.ok (xb : Nat) : SpecM → Value → World → Prop
  | .val u, v, _ => v = u
  | .spans L, v, w => w.ownsRow (xb + 1) 64 3 v L.length (L.flatMap spCells)
  | .maps D, v, w => OwnM [xb] w (xb + 1) v D
  | .lit xs, v, w => LitI xb xs v w
  | .pair f xs, v, w => ∃ u, v = .agg #[.int .i64 f, u] ∧ LitI xb xs u w
  | .pairs F, v, w => LitM xb F v w
  | .cellI x, v, w => ∃ (k i : Nat) (cs : Array Value), v = .pointer (some ⟨k, i, none⟩) ∧ Blk w k 3 cs ∧ cs[i]? = some (.int .i64 x) ∧ xb < k
def SpecM.isVal : SpecM → Bool
  | .val _ => true
  | _ => false
def RM (xb : Nat) (specs : List SpecM) (i : Nat) (v : Value) (w : World) : Prop := ∀ s, specs[i]? = some s → s.ok xb v w
/-- The append consumes what lies in memory. -/
def killM (specs : List SpecM) (kA i j : Nat) : Bool := j == kA && i != kA && match specs[i]? with | some s => !s.isVal | none => false

theorem LitI.later {xb : Nat} {xs : List Int} {v : Value} {w w' : World} (h : LitI xb xs v w) (hb : Below w.heap.size w w') : LitI xb xs v w' := by
  obtain ⟨k, e, hk, hx⟩ := h
  exact ⟨k, e, hk.later hb, hx⟩
theorem LitM.later {xb : Nat} {F : List Mp} {v : Value} {w w' : World} (h : LitM xb F v w) (hb : Below w.heap.size w w') : LitM xb F v w' := by
  obtain ⟨k, us, e, hk, hx, hm, hr⟩ := h
  exact ⟨k, us, e, hk.later hb, hx, hm, fun i p d hp hd => (hr i p d hp hd).later hb⟩
theorem SpecM.later {xb : Nat} {s : SpecM} {v : Value} {w w' : World} (h : s.ok xb v w) (hb : Below w.heap.size w w') : s.ok xb v w' := by
  cases s with
  | val u => exact h
  | spans L => exact own_later h hb
  | maps D => exact OwnM.later h hb (by simp)
  | lit xs => exact LitI.later h hb
  | pair f xs => obtain ⟨u, e, h⟩ := h; exact ⟨u, e, h.later hb⟩
  | pairs F => exact LitM.later h hb
  | cellI x => obtain ⟨k, i, cs, e, hk, hx⟩ := h; exact ⟨k, i, cs, e, hk.later hb, hx⟩
theorem RM.later {xb : Nat} {specs : List SpecM} {i : Nat} {v : Value} {w w' : World} (h : RM xb specs i v w) (hb : Below w.heap.size w w') : RM xb specs i v w' := fun s hs => SpecM.later (h s hs) hb
theorem rm_kept {xb : Nat} {specs : List SpecM} {kA j : Nat} {u : Value} {w w' : World} (hne : j ≠ kA) (h : killM specs kA j kA = false) (hr : RM xb specs j u w) : RM xb specs j u w' := fun s hs => by
  have h1 := hr s hs
  unfold killM at h
  rw [hs] at h
  cases s <;> first | exact h1 | simp [SpecM.isVal, hne] at h
theorem rm_of {xb : Nat} {specs : List SpecM} {i : Nat} {v : Value} {w : World} {s : SpecM} (hs : specs[i]? = some s) (h : s.ok xb v w) : RM xb specs i v w := fun s' hs' => by
  rw [hs] at hs'; cases hs'; exact h
theorem kill_lt {specs : List SpecM} {kA i j n : Nat} (h : killM specs kA i j = true) (hn : kA < n) : j < n := by
  unfold killM at h
  rw [Bool.and_eq_true, Bool.and_eq_true, beq_iff_eq] at h
  omega

theorem dep_m {ops : Array Oper} {specs : List SpecM} {xb kA i : Nat} {o : Oper} {a : Act} {w : World} (ho : ops[i]? = some o) (hd : DepsA ops (killM specs kA) (RM xb specs) i o a w) (j : Nat) (d : Tmp) (s : SpecM)
    (h1 : ((ops[i]?).map fun o => o.after.any fun e => Region.binds .any e && e.on == j) = some true) (h2 : ((ops[j]?).map (·.dst)) = some (some d)) (h3 : specs[j]? = some s) (h4 : (s.isVal || ancB ops 12 i kA || j == kA) = true) : ∃ v, a.tmps[d]? = some v ∧ s.ok xb v w := by
  have h5 := get_op (fun o => o.after.any fun e => Region.binds .any e && e.on == j) ho h1
  obtain ⟨e, he, hb⟩ := Array.any_eq_true'.1 h5
  rw [Bool.and_eq_true, beq_iff_eq] at hb
  cases hj : ops[j]? with
  | none => rw [hj] at h2; cases h2
  | some oj =>
    rw [hj] at h2
    obtain ⟨v, hv, hr⟩ := hd e he hb.1 (fun j' hk => by
      unfold killM at hk
      rw [hb.2, h3, Bool.and_eq_true, Bool.and_eq_true, beq_iff_eq] at hk
      rw [hk.1.1]
      rcases Bool.or_eq_true_iff.1 h4 with h | h
      · rcases Bool.or_eq_true_iff.1 h with h | h
        · have h6 := hk.2
          simp only [h] at h6
          cases h6
        · exact h
      · have h6 := hk.1.2
        rw [eq_of_beq h] at h6
        simp at h6) oj d (by rw [hb.2, hj]) (by simpa using h2)
    exact ⟨v, hv, hr s (by rw [hb.2]; exact h3)⟩

section
variable {P : Program} {ops : Array Oper} {o : Oper} {a : Act} {X : World} {K : Act → World → Prop} {Q : Exit → Act → World → Prop}
theorem ob_run {v : Value} {w' : World} (hr : (execOp a.eval o).run P X = .ok (.value v) w') (h : K (a.put o.dst v) w') : o.wp P a X K Q := by
  unfold Oper.wp
  rw [hr]
  exact h
theorem ob_skip {w' : World} (hr : (execOp a.eval o).run P X = .ok .skip w') (h : K (a.put o.dst undef) w') : o.wp P a X K Q := by
  unfold Oper.wp
  rw [hr]
  exact h
end
end Go.Proofs.YtecpbicfiaifdaaGreatDoor
