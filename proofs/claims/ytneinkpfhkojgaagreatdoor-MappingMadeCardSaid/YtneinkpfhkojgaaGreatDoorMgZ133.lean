/-
  Merged texts: lemmas and walks that the last text of this claim leans on.
-/
import Derived.Test.YtneinkpfhkojgaaGreatDoorMgZ132
import Derived.Test.YtneinkpfhkojgaaGreatDoorMgZ131
import Derived.Lib.QuietBelow
import Derived.BigQuiet
import Derived.Shelf.Abstract
/-
  The state of keep.prototypes' loop, and what keeps it.
-/
namespace Go.Proofs.YtneinkpfhkojgaaGreatDoor
open Go.RowKit ND

theorem TabR.reveil {S S' : List Nat} {w w' : World} {B : Nat} {t : Tv} {T : Tab} (h : TabR (veil S w) B t T)
    (hk : ∀ p x, p.block < B → p.block ∉ S → w.cell? p = some x → p.block ∉ S' ∧ w'.cell? p = some x) : TabR (veil S' w') B t T :=
  ⟨h.r0.reveil hk, h.r1.reveil hk, h.r2.reveil hk, h.r3.reveil hk, h.r4.reveil hk, h.r5.reveil hk, h.r6.reveil hk, h.r7.reveil hk, h.r8.reveil hk, h.r9.reveil hk, h.r10.reveil hk, h.r11.reveil hk⟩

theorem Ints.of_blk {S : List Nat} {W : World} {k : Nat} {e : TypeId} {ys : List Int} (hb : Blk W k e (ys.map (Value.int .i64)).toArray) (hk : k ∉ S) (hl : ys.length ≤ 1000000) : Ints (veil S W) W.heap.size .i64 (.slice (some ⟨k, 0, none⟩) ys.length ys.length) ys :=
  ⟨_, _, rfl, Nat.le_refl _, by unfold maxLen; omega, (by intro h; cases h), fun i x hi => ⟨_, rfl, hb.lt, by
    rw [cell_veil (by rw [block_of_add]; exact hk)]
    have : Addr.add ⟨k, 0, none⟩ i = ⟨k, i, none⟩ := by cases i <;> simp [Addr.add]
    rw [this]
    exact hb.at_ (by simp [hi])⟩⟩
theorem Mapps.of_blk {S : List Nat} {W : World} {k : Nat} {ps : List (Int × Value)} {D : List Mp} (hb : Blk W k 49 (mpCells ps).toArray) (hk : k ∉ S) (hl : ps.length ≤ 1000000) (hm : ps.map (·.1) = D.map (·.1))
    (hi : ∀ (i : Nat) (p : Int × Value) (d : Mp), ps[i]? = some p → D[i]? = some d → Ints (veil S W) W.heap.size .i64 p.2 d.2) : Mapps (veil S W) W.heap.size (.slice (some ⟨k, 0, none⟩) D.length ps.length) D := by
  have hlen : ps.length = D.length := by have := congrArg List.length hm; simpa using this
  refine ⟨_, _, rfl, by omega, by unfold maxLen; omega, (by intro h; cases h), fun i d hd => ?_⟩
  obtain ⟨p, hp⟩ : ∃ p, ps[i]? = some p := by
    have := (List.getElem?_eq_some_iff.1 hd).1
    exact ⟨_, List.getElem?_eq_getElem (by omega)⟩
  obtain ⟨a0, a1⟩ := mpCells_at hp
  have e1 : p.1 = d.1 := by
    have h1 : (ps.map (·.1))[i]? = (D.map (·.1))[i]? := by rw [hm]
    rw [List.getElem?_map, List.getElem?_map, hp, hd] at h1
    simpa using h1
  have hc : ∀ (j : Nat) (u : Value), (mpCells ps)[j]? = some u → (veil S W).cell? (Addr.add ⟨k, 0, none⟩ j) = some u := fun j u hj => by
    rw [cell_veil (by rw [block_of_add]; exact hk)]
    have : Addr.add ⟨k, 0, none⟩ j = ⟨k, j, none⟩ := by cases j <;> simp [Addr.add]
    rw [this]
    exact hb.at_ (by simpa using hj)
  exact ⟨_, p.2, rfl, hb.lt, by rw [← e1]; exact hc _ _ a0, hc _ _ a1, hi i p d hp hd⟩

structure PSt (w : World) (g b n : Nat) (v : Value) (t : Tv) (T : Tab) (lv : Value) (v11 : Value) (D : List Mp) (wr : World) : Prop where
  blk : Blk wr b 26 #[t.c0, t.c1, t.c2, t.c3, t.c4, t.c5, t.c6, t.c7, t.c8, t.c9, t.c10, v11]
  tr : TabR (veil ([g, b] ++ v11.ownBlock.toList) wr) wr.heap.size { t with c11 := .slice none 0 0 } { T with prototypes := [] }
  om : OwnM [g, b] wr w.heap.size v11 D
  lit : Mapps (veil ([g, b] ++ v11.ownBlock.toList) wr) wr.heap.size lv protoL
  src : Src wr g v n
  oi : onlyIn [g, b] w wr

section
variable {w : World} {g b n : Nat} {v : Value} {t : Tv} {T : Tab} {lv v11 : Value} {D : List Mp} {wr w' : World}
theorem PSt.own (h : PSt w g b n v t T lv v11 D wr) : ∀ q, v11.ownBlock = some q → w.heap.size ≤ q ∧ q < wr.heap.size := fun q hq => by
  obtain ⟨ps, _, _, ho, _⟩ := h.om
  exact ho.lt q hq
theorem PSt.only (h : PSt w g b n v t T lv v11 D wr) (hgb : g < b) (hb : b < w.heap.size) (ho : onlyIn [g] wr w') (hs : Src w' g v n) : PSt w g b n v t T lv v11 D w' := by
  have hown := h.own
  have ho2 : onlyIn [g, b] wr w' := ho.more fun x hx => by simp at hx ⊢; exact .inl hx
  have hk := onlyIn_reveil (S1 := [g, b] ++ v11.ownBlock.toList) ho2 fun x hx => List.mem_append_left _ hx
  exact ⟨ho.blk h.blk (by simp; omega), (h.tr.reveil hk).more ho.2.2.2.1, h.om.kept ho2 (fun q hq hx => by have := hown q hq; simp at hx; omega), (h.lit.reveil hk).more ho.2.2.2.1, hs, h.oi.trans ho2⟩
/-- A mapping is appended to the own row. -/
theorem PSt.append (h : PSt w g b n v t T lv v11 D wr) (hgb : g < b) (hb : b < w.heap.size) {Y : World} {v11' : Value} {D' : List Mp}
    (ho : onlyIn [] wr Y) (hg : Y.grownBy w' v11.ownBlock) (hr : ∀ q, v11'.ownBlock = some q → v11.ownBlock = some q ∨ q = Y.heap.size) (hM : OwnM [g, b] w' w.heap.size v11' D') :
    PSt w g b n v t T lv v11' D' (w'.setCell ⟨b, 11, none⟩ v11') := by
  have hown := h.own
  have hnot : ∀ q, q < w.heap.size → some q ≠ v11.ownBlock := fun q hq e => by have := hown q e.symm; omega
  have hset : w'.grownBy (w'.setCell ⟨b, 11, none⟩ v11') (some b) := grown_setCell (grown_refl w' (some b)) 11 v11'
  have hso : onlyIn [g, b] w' (w'.setCell ⟨b, 11, none⟩ v11') := onlyIn.of_grown hset (by simp)
  have ho2 : onlyIn [g, b] wr Y := ho.more (by simp)
  have k1 := onlyIn_reveil (S1 := [g, b] ++ v11.ownBlock.toList) ho2 fun x hx => List.mem_append_left _ hx
  have k2 := grown_reveil (S := [g, b]) (v := v11) (v' := v11') hg hr
  have k3 := onlyIn_reveil (S1 := [g, b] ++ v11'.ownBlock.toList) hso fun x hx => List.mem_append_left _ hx
  refine ⟨?_, ?_, ?_, ?_, ?_, ?_⟩
  · simpa using ((ho.blk h.blk (by simp)).grown hg (hnot b (by omega))).put 11 v11'
  · exact ((((((h.tr.reveil k1).more ho.2.2.2.1).reveil k2).more hg.size).reveil k3)).more hset.size
  · exact hM.kept hso (fun q hq hx => by
      rcases hr q hq with e | e
      · have := hown q e; simp at hx; omega
      · have := ho.2.2.2.1; have := h.oi.2.2.2.1; simp at hx; omega)
  · exact ((((((h.lit.reveil k1).more ho.2.2.2.1).reveil k2).more hg.size).reveil k3)).more hset.size
  · obtain ⟨i, h1, h2⟩ := h.src
    exact ⟨i, h1, ((ho.blk h2 (by simp)).grown hg (hnot g (by omega))).far (by simp; omega) _⟩
  · have oX := h.oi.trans ho2
    exact onlyIn.trans ⟨hg.os.trans oX.1, hg.tape.trans oX.2.1, hg.output.trans oX.2.2.1, Nat.le_trans oX.2.2.2.1 hg.size, fun q hq hl => (hg.block q (by have := oX.2.2.2.1; omega) (hnot q (by omega))).trans (oX.2.2.2.2 q hq hl)⟩ hso
/-- The whole of the tables. -/
theorem PSt.tab (h : PSt w g b n v t T lv v11 D wr) (hgb : g < b) (hb : b < w.heap.size) : TabR (veil [g, b] wr) wr.heap.size { t with c11 := v11 } { T with prototypes := D } := by
  have hk : ∀ (p : Addr) (x : Value), p.block < wr.heap.size → p.block ∉ [g, b] ++ v11.ownBlock.toList → wr.cell? p = some x → p.block ∉ [g, b] ∧ wr.cell? p = some x := fun p x _ hn hx => ⟨fun h => hn (List.mem_append_left _ h), hx⟩
  have hm := h.om.mapps (by intro x hx; simp at hx; omega)
  rw [veil_size] at hm
  have ht := h.tr.reveil hk
  exact ⟨ht.r0, ht.r1, ht.r2, ht.r3, ht.r4, ht.r5, ht.r6, ht.r7, ht.r8, ht.r9, ht.r10, hm⟩
end
end Go.Proofs.YtneinkpfhkojgaaGreatDoor
/-
  Laws for keep.Other: a copy of a list of mappings; mappings appended to an own row; spans likewise.
-/
namespace Go.Proofs.YtneinkpfhkojgaaGreatDoor
open Go.RowKit ND

theorem mpCells_len (ps : List (Int × Value)) : (mpCells ps).length = ps.length * 2 := by
  induction ps with
  | nil => rfl
  | cons a r ih => simp only [mpCells, List.flatMap_cons, List.length_append] at ih ⊢; rw [ih]; simp; omega
theorem mpCells_app (ps qs : List (Int × Value)) : mpCells (ps ++ qs) = mpCells ps ++ mpCells qs := by simp [mpCells]
/-- What a list of mappings reads as, cell by cell. -/
theorem mapps_cells {X : World} {B : Nat} {u : Value} {D : List Mp} (hu : Mapps X B u D) : ∃ ps : List (Int × Value), ps.map (·.1) = D.map (·.1) ∧ ps.length = D.length ∧
    (∀ ad, (∃ n c, u = .slice (some ad) n c) → ∀ j y, (mpCells ps)[j]? = some y → X.cell? (ad.add j) = some y) ∧ ∀ (i : Nat) (p : Int × Value) (d : Mp), ps[i]? = some p → D[i]? = some d → Ints X B .i64 p.2 d.2 := by
  obtain ⟨A, c, rfl, _, _, _, h4⟩ := hu
  have key : ∀ i : Nat, ∃ p : Int × Value, ∀ d, D[i]? = some d → ∃ ad, A = some ad ∧ p.1 = d.1 ∧ X.cell? (ad.add (i * 2)) = some (.int .i64 p.1) ∧ X.cell? (ad.add (i * 2 + 1)) = some p.2 ∧ Ints X B .i64 p.2 d.2 := by
    intro i
    cases hd : D[i]? with
    | none => exact ⟨(0, undef), fun d h => by cases h⟩
    | some d =>
      obtain ⟨ad, sv, e, _, c0, c1, hI⟩ := h4 i d hd
      exact ⟨(d.1, sv), fun d' h => by cases h; exact ⟨ad, e, rfl, c0, c1, hI⟩⟩
  let f : Nat → Int × Value := fun i => (key i).choose
  have hf := fun i => (key i).choose_spec
  have hget : ∀ i, i < D.length → ((List.range D.length).map f)[i]? = some (f i) := fun i hi => by simp [hi]
  refine ⟨(List.range D.length).map f, ?_, by simp, ?_, ?_⟩
  · refine List.ext_getElem? fun i => ?_
    by_cases hi : i < D.length
    · obtain ⟨d, hd⟩ : ∃ d, D[i]? = some d := ⟨_, List.getElem?_eq_getElem hi⟩
      obtain ⟨_, _, e, _⟩ := hf i d hd
      rw [List.getElem?_map, hget i hi, List.getElem?_map, hd]
      exact congrArg some e
    · rw [List.getElem?_eq_none (by simpa using hi), List.getElem?_eq_none (by simpa using hi)]
  · rintro ad ⟨n, c', e⟩ j y hj
    cases e
    have hlt := (List.getElem?_eq_some_iff.1 hj).1
    rw [mpCells_len, List.length_map, List.length_range] at hlt
    have hi : j / 2 < D.length := by omega
    obtain ⟨d, hd⟩ : ∃ d, D[j / 2]? = some d := ⟨_, List.getElem?_eq_getElem hi⟩
    obtain ⟨ad', e, _, c0, c1, _⟩ := hf (j / 2) d hd
    cases e
    obtain ⟨a0, a1⟩ := mpCells_at (hget (j / 2) hi)
    have hc : j = j / 2 * 2 ∨ j = j / 2 * 2 + 1 := by omega
    rcases hc with e | e
    · rw [e] at hj ⊢; rw [a0] at hj; cases hj; exact c0
    · rw [e] at hj ⊢; rw [a1] at hj; cases hj; exact c1
  · intro i p d hp hd
    have hi := (List.getElem?_eq_some_iff.1 hd).1
    rw [hget i hi] at hp
    cases hp
    obtain ⟨_, _, _, _, _, hI⟩ := hf i d hd
    exact hI

section
variable {P : Program} {ops : Array Oper} {o : Oper} {a : Act} {X : World} {K : Act → World → Prop} {Q : Exit → Act → World → Prop} {E : Prop} {T : TypeId} {i0 : TypeInfo}
/-- append(nil, u): a copy in a row of the call's own. -/
theorem step_copy_map (hgd : o.guard = none) (s x : Operand)
    (ho : o.op = .call { callee := .builtin .append, args := #[s, x], argTypes := #[T, T] }) (ht : P.underlying T = some (.slice 49)) (hi : P.info? 49 = some i0) (z : Value) (hz : i0.zero = some z) (h1 : i0.size = 2) (h2 : i0.bytes = 32) (hzs : z.cells.size = 2)
    (S : List Nat) (base B : Nat) (u : Value) (D : List Mp) (hS : ∀ x ∈ S, B ≤ x) (hs : a.eval s = .slice none 0 0) (hx : a.eval x = u) (hu : Mapps X B u D) (hB : B ≤ X.heap.size) (hn : D.length ≤ 1000000) (hb : base ≤ X.heap.size)
    (h : ∀ v' w', OwnM S w' base v' D → X.grownBy w' none → K (a.put o.dst v') w') :
    if Region.wanted o (yielded ops a.tmps) = true then Oper.wp P o a X K Q else E := by
  have hw : Region.wanted o (yielded ops a.tmps) = true := by simp [Region.wanted, hgd]
  obtain ⟨ps, hm, hlen, hcl, hI⟩ := mapps_cells hu
  obtain ⟨A, c, rfl, hc1, hc2, hA, h4⟩ := id hu
  by_cases h0 : D = []
  · subst h0
    rw [if_pos hw]
    have hown : X.ownsRow base 49 2 (.slice none 0 0) 0 [] := World.ownsRow_nil _ _ _ _
    cases A with
    | none =>
      obtain rfl : c = 0 := hA rfl
      have hr := run_append_none (P := P) (ty := o.type) ht hi hown
      have h3 := h (.slice none 0 0) X (OwnM.nil _ _ _) (grown_refl X none)
      unfold Oper.wp execOp
      simp only [ho, resolve, invoke, builtin, Sem.run_bind, Sem.run_pure, Result.andThen_ok, List.map_toArray, List.map_cons, List.map_nil, hs, hx, List.length_nil, hr]
      exact h3
    | some ad =>
      refine wp_append_own X s x T ho base 49 i0 z 2 32 ht hi hz h1 h2 hzs (by omega) (.slice none 0 0) 0 [] hs hown ad 0 c [] hx rfl (by simp) (by simp) (by unfold maxLen; omega) (by omega) hb ?_
      intro v' w' p q r
      refine h v' w' ⟨[], rfl, rfl, by simpa [mpCells] using p, fun i p d hp => by simp at hp⟩ q
  · have hpos : 0 < D.length := List.length_pos_iff.2 h0
    obtain ⟨d0, hd0⟩ : ∃ d, D[0]? = some d := ⟨_, List.getElem?_eq_getElem hpos⟩
    obtain ⟨ad, sv0, rfl, _⟩ := h4 0 d0 hd0
    have hown : X.ownsRow base 49 2 (.slice none 0 0) 0 [] := World.ownsRow_nil _ _ _ _
    refine step_append_lies _ hgd s x T ho base 49 i0 z 2 32 ht hi hz h1 h2 hzs (by omega) (.slice none 0 0) 0 [] hs hown ad D.length c (mpCells ps) hx (by rw [mpCells_len, hlen]) (hcl ad ⟨_, _, rfl⟩) ?_ hpos (by unfold maxLen; omega) (by omega) hb X.heap.size rfl ?_
    · intro y hy
      obtain ⟨p, hp, hy⟩ := List.mem_flatMap.1 hy
      obtain ⟨i, hi⟩ := List.mem_iff_getElem?.1 hp
      have hil := (List.getElem?_eq_some_iff.1 hi).1
      obtain ⟨d, hd⟩ : ∃ d, D[i]? = some d := ⟨_, List.getElem?_eq_getElem (by omega)⟩
      obtain ⟨A', c', e, _⟩ := hI i p d hi hd
      simp at hy
      rcases hy with rfl | rfl
      · rfl
      · rw [e]; rfl
    · intro g cap w' p q r _
      rcases r with r | r
      · cases r
      · subst r
        refine h _ w' ⟨ps, hm, hlen, by rw [hlen]; simpa using p, fun i p' d hp hd => ?_⟩ q
        refine (Ints.reveil (S := []) (w := X) (S' := S ++ [X.heap.size]) (w' := w') (B := B) ?_ fun pp xx hpb _ hpc => ⟨fun hx => (List.mem_append.1 hx).elim (fun hx => by have := hS _ hx; omega) (fun hx => by simp at hx; omega), ?_⟩).more (Nat.le_trans hB q.size)
        · obtain ⟨A', c', e, f1, f2, f3, f4⟩ := hI i p' d hp hd
          exact ⟨A', c', e, f1, f2, f3, fun i x hi => by
            obtain ⟨a1, e1, e2, e3⟩ := f4 i x hi
            exact ⟨a1, e1, e2, by rw [cell_veil (by simp)]; exact e3⟩⟩
        · have e := q.block pp.block (by omega) (by intro e; cases e)
          unfold World.cell? at hpc ⊢
          rw [e]; exact hpc
/-- append(v, E..): mappings behind an own row. -/
theorem step_app_maps (hgd : o.guard = none) (s x : Operand)
    (ho : o.op = .call { callee := .builtin .append, args := #[s, x], argTypes := #[T, T] }) (ht : P.underlying T = some (.slice 49)) (hi : P.info? 49 = some i0) (z : Value) (hz : i0.zero = some z) (h1 : i0.size = 2) (h2 : i0.bytes = 32) (hzs : z.cells.size = 2)
    (S : List Nat) (base : Nat) (v : Value) (D F : List Mp) (k : Nat) (qs : List (Int × Value)) (hs : a.eval s = v) (hx : a.eval x = .slice (some ⟨k, 0, none⟩) F.length F.length) (hown : OwnM S X base v D) (hk : Blk X k 49 (mpCells qs).toArray) (hqm : qs.map (·.1) = F.map (·.1))
    (hq : ∀ (i : Nat) (p : Int × Value) (d : Mp), qs[i]? = some p → F[i]? = some d → Ints (veil (S ++ v.ownBlock.toList) X) X.heap.size .i64 p.2 d.2)
    (hF : 0 < F.length) (hn : D.length + F.length ≤ 1000000) (hb : base ≤ X.heap.size)
    (h : ∀ v' w', OwnM S w' base v' (D ++ F) → X.grownBy w' v.ownBlock → (∀ g, v'.ownBlock = some g → v.ownBlock = some g ∨ g = X.heap.size) → (∃ A m c, v' = .slice A m c) → K (a.put o.dst v') w') :
    if Region.wanted o (yielded ops a.tmps) = true then Oper.wp P o a X K Q else E := by
  obtain ⟨ps, hm, hlen, ho', hr⟩ := hown
  have hql : qs.length = F.length := by have := congrArg List.length hqm; simpa using this
  refine step_append_lies _ hgd s x T ho base 49 i0 z 2 32 ht hi hz h1 h2 hzs (by omega) v ps.length (mpCells ps) hs ho' ⟨k, 0, none⟩ F.length F.length (mpCells qs) hx (by rw [mpCells_len, hql]) (fun j u hj => ?_) ?_ hF (by unfold maxLen; omega) (by omega) hb X.heap.size rfl ?_
  · have e : Addr.add ⟨k, 0, none⟩ j = ⟨k, j, none⟩ := by cases j <;> simp [Addr.add]
    rw [e]; exact hk.at_ (by simpa using hj)
  · intro y hy
    obtain ⟨p, hp, hy⟩ := List.mem_flatMap.1 hy
    obtain ⟨i, hi⟩ := List.mem_iff_getElem?.1 hp
    have hil := (List.getElem?_eq_some_iff.1 hi).1
    obtain ⟨d, hd⟩ : ∃ d, F[i]? = some d := ⟨_, List.getElem?_eq_getElem (by omega)⟩
    obtain ⟨A', c', e, _⟩ := hq i p d hi hd
    simp at hy
    rcases hy with rfl | rfl
    · rfl
    · rw [e]; rfl
  · intro g cap w' p q r _
    have hr' : ∀ g', (Value.slice (some ⟨g, 0, none⟩) (ps.length + F.length) cap).ownBlock = some g' → v.ownBlock = some g' ∨ g' = X.heap.size := fun g' hg' => by
      simp only [Value.ownBlock, Option.some.injEq] at hg'
      subst hg'; exact r
    refine h _ w' ⟨ps ++ qs, by simp [hm, hqm], by simp [hlen, hql], by rw [mpCells_app]; simpa [hql] using p, ?_⟩ q hr' ⟨_, _, _, rfl⟩
    intro i p' d hp hd
    have key : ∀ sv l, Ints (veil (S ++ v.ownBlock.toList) X) X.heap.size .i64 sv l → Ints (veil (S ++ (Value.slice (some ⟨g, 0, none⟩) (ps.length + F.length) cap).ownBlock.toList) w') w'.heap.size .i64 sv l :=
      fun sv l hI => Ints.more (hI.reveil (grown_reveil q hr')) q.size
    by_cases hil : i < ps.length
    · rw [List.getElem?_append_left hil] at hp
      rw [List.getElem?_append_left (by omega)] at hd
      exact key _ _ (hr i p' d hp hd)
    · rw [List.getElem?_append_right (by omega)] at hp
      rw [List.getElem?_append_right (by omega), ← hlen] at hd
      exact key _ _ (hq _ p' d hp hd)
theorem wpList_copy_map {rest : List Oper} (hgd : o.guard = none) (s x : Operand)
    (ho : o.op = .call { callee := .builtin .append, args := #[s, x], argTypes := #[T, T] }) (ht : P.underlying T = some (.slice 49)) (hi : P.info? 49 = some i0) (z : Value) (hz : i0.zero = some z) (h1 : i0.size = 2) (h2 : i0.bytes = 32) (hzs : z.cells.size = 2)
    (S : List Nat) (base B : Nat) (u : Value) (D : List Mp) (hS : ∀ x ∈ S, B ≤ x) (hs : a.eval s = .slice none 0 0) (hx : a.eval x = u) (hu : Mapps X B u D) (hB : B ≤ X.heap.size) (hn : D.length ≤ 1000000) (hb : base ≤ X.heap.size)
    (h : ∀ v' w', OwnM S w' base v' D → X.grownBy w' none → wpList P ops Q rest (a.put o.dst v') w') : wpList P ops Q (o :: rest) a X :=
  wpList_step fun _ hK => step_copy_map hgd s x ho ht hi z hz h1 h2 hzs S base B u D hS hs hx hu hB hn hb fun v' w' p q => hK _ _ (h v' w' p q)
theorem wpList_app_maps {rest : List Oper} (hgd : o.guard = none) (s x : Operand)
    (ho : o.op = .call { callee := .builtin .append, args := #[s, x], argTypes := #[T, T] }) (ht : P.underlying T = some (.slice 49)) (hi : P.info? 49 = some i0) (z : Value) (hz : i0.zero = some z) (h1 : i0.size = 2) (h2 : i0.bytes = 32) (hzs : z.cells.size = 2)
    (S : List Nat) (base : Nat) (v : Value) (D F : List Mp) (k : Nat) (qs : List (Int × Value)) (hs : a.eval s = v) (hx : a.eval x = .slice (some ⟨k, 0, none⟩) F.length F.length) (hown : OwnM S X base v D) (hk : Blk X k 49 (mpCells qs).toArray) (hqm : qs.map (·.1) = F.map (·.1))
    (hq : ∀ (i : Nat) (p : Int × Value) (d : Mp), qs[i]? = some p → F[i]? = some d → Ints (veil (S ++ v.ownBlock.toList) X) X.heap.size .i64 p.2 d.2)
    (hF : 0 < F.length) (hn : D.length + F.length ≤ 1000000) (hb : base ≤ X.heap.size)
    (h : ∀ v' w', OwnM S w' base v' (D ++ F) → X.grownBy w' v.ownBlock → (∃ A m c, v' = .slice A m c) → wpList P ops Q rest (a.put o.dst v') w') : wpList P ops Q (o :: rest) a X :=
  wpList_step fun _ hK => step_app_maps hgd s x ho ht hi z hz h1 h2 hzs S base v D F k qs hs hx hown hk hqm hq hF hn hb fun v' w' p q _ sl => hK _ _ (h v' w' p q sl)
end
theorem OwnM.later {S : List Nat} {w w' : World} {base : Nat} {v : Value} {D : List Mp} (h : OwnM S w base v D) (hb : Below w.heap.size w w') (hS : ∀ x ∈ S, x < base) : OwnM S w' base v D :=
  h.kept (onlyIn.of_below hb) fun q hq hx => by
    obtain ⟨ps, _, _, ho, _⟩ := h
    have h1 := (ho.lt q hq).1
    have h2 := hS q hx
    omega
/-- A new block of integers, read where an own row of mappings and the blocks S are not looked at. -/
theorem new_ints {S : List Nat} {w : World} {base : Nat} {v : Value} {D : List Mp} (h : OwnM S w base v D) (hS : ∀ x ∈ S, x < w.heap.size) (ys : List Int) (hl : ys.length ≤ 1000000) {w' : World} (hb : Below (w.alloc (.cells (ys.map (Value.int .i64)).toArray 3)).heap.size (w.alloc (.cells (ys.map (Value.int .i64)).toArray 3)) w') :
    Ints (veil (S ++ v.ownBlock.toList) w') w'.heap.size .i64 (.slice (some ⟨w.heap.size, 0, none⟩) ys.length ys.length) ys := by
  refine Ints.veil_own' (own_later (own_new w 3 ys hl) hb) fun q hq hx => ?_
  simp only [Value.ownBlock, Option.some.injEq] at hq
  subst hq
  rcases List.mem_append.1 hx with hx | hx
  · have := hS _ hx; omega
  · rw [Option.mem_toList] at hx
    obtain ⟨ps, _, _, ho, _⟩ := h
    have := (ho.lt _ hx).2; omega
/-- A part of a new block of integers. -/
theorem new_ints_off {S : List Nat} {w : World} {base : Nat} {v : Value} {D : List Mp} (h : OwnM S w base v D) (hS : ∀ x ∈ S, x < w.heap.size) (ys : List Int) (off n c : Nat) (_ : ys.length ≤ 1000000) (hn : off + n ≤ ys.length) (hc : n ≤ c) (hc2 : c ≤ 1000000) {w' : World} (hb : Below (w.alloc (.cells (ys.map (Value.int .i64)).toArray 3)).heap.size (w.alloc (.cells (ys.map (Value.int .i64)).toArray 3)) w') :
    Ints (veil (S ++ v.ownBlock.toList) w') w'.heap.size .i64 (.slice (some ⟨w.heap.size, off, none⟩) n c) ((ys.drop off).take n) := by
  have hk := (Blk.new w 3 (ys.map (Value.int .i64)).toArray).later hb
  have hlen : ((ys.drop off).take n).length = n := by simp; omega
  refine ⟨some ⟨w.heap.size, off, none⟩, c, by rw [hlen], by omega, by unfold maxLen; omega, (by intro h; cases h), fun i x hi => ⟨_, rfl, by have := hk.lt; simpa using this, ?_⟩⟩
  have hn' : w.heap.size ∉ S ++ v.ownBlock.toList := fun hx => by
    rcases List.mem_append.1 hx with hx | hx
    · have := hS _ hx; omega
    · rw [Option.mem_toList] at hx
      obtain ⟨ps, _, _, ho, _⟩ := h
      have := (ho.lt _ hx).2; omega
  have e : Addr.add ⟨w.heap.size, off, none⟩ i = ⟨w.heap.size, off + i, none⟩ := by cases i <;> simp [Addr.add]
  rw [e, cell_veil (by exact hn')]
  have hil := (List.getElem?_eq_some_iff.1 hi).1
  rw [List.getElem?_take, if_pos (by omega), List.getElem?_drop] at hi
  exact hk.at_ (by simp [hi])
end Go.Proofs.YtneinkpfhkojgaaGreatDoor
/-
  keep.Other: what stands behind the switch, out of the list that a way through it has put in place.
-/
namespace Go.Proofs.YtneinkpfhkojgaaGreatDoor
open Go.RowKit ND

theorem lit_at {l : List Int} {j : Nat} {x : Int} (h : l[j]? = some x) : (l.map (Value.int .i64)).toArray[j]? = some (.int .i64 x) := by
  rw [List.getElem?_toArray, List.getElem?_map, h]; rfl
theorem oth_below {W w5 X w6 : World} {xb : Nat} {S : List Nat} {v5 : Value} {D : List Mp} (hg5 : W.grownBy w5 none) (hsz : xb + 1 ≤ W.heap.size) (ho5 : OwnM S w5 (xb + 1) v5 D) (hX : Below w5.heap.size w5 X) (hg6 : X.grownBy w6 v5.ownBlock) : Below (xb + 1) W w6 := by
  have h1 : Below (xb + 1) W w5 := (Below.refl _ _).grown hg5 hsz (fun k hk => by cases hk)
  have h2 : Below (xb + 1) W X := h1.trans (hX.mono (Nat.le_trans hsz hg5.size))
  obtain ⟨ps, _, _, ho, _⟩ := ho5
  exact h2.grown hg6 (Nat.le_trans (Nat.le_trans hsz hg5.size) hX.size) (fun k hk => (ho.lt k hk).1)

theorem oth_below2 {W w5 X w6 : World} {xb : Nat} {v5 : Value} (hg5 : W.grownBy w5 none) (hsz : xb + 1 ≤ W.heap.size) (ho5 : ∀ q, v5.ownBlock = some q → xb + 1 ≤ q) (hX : Below w5.heap.size w5 X) (hg6 : X.grownBy w6 v5.ownBlock) : Below (xb + 1) W w6 := by
  have h1 : Below (xb + 1) W w5 := (Below.refl _ _).grown hg5 hsz (fun k hk => by cases hk)
  have h2 : Below (xb + 1) W X := h1.trans (hX.mono (Nat.le_trans hsz hg5.size))
  exact h2.grown hg6 (Nat.le_trans (Nat.le_trans hsz hg5.size) hX.size) (fun k hk => ho5 k hk)
section
variable {P : Program} {ops : Array Oper} {rest : List Oper} {o : Oper} {a : Act} {X : World} {Q : Exit → Act → World → Prop} {T e : TypeId} {i0 : TypeInfo}
theorem wpList_copy_spans (hgd : o.guard = none) (s x : Operand)
    (ho : o.op = .call { callee := .builtin .append, args := #[s, x], argTypes := #[T, T] }) (ht : P.underlying T = some (.slice e)) (hi : P.info? e = some i0) (hz : i0.zero = some (.agg #[.int .i64 0, .int .i64 0, .int .i64 0])) (h1 : i0.size = 3) (h2 : i0.bytes = 24)
    (R : World) (u : Value) (L : List Sp) (B : Nat) (hs : a.eval s = .slice none 0 0) (hx : a.eval x = u) (hu : Spans X B u L) (hl : L.length ≤ 1000000) (hb : R.heap.size ≤ X.heap.size)
    (h : ∀ v' w', w'.ownsRow R.heap.size e 3 v' L.length (L.flatMap spCells) → X.grownBy w' none → wpList P ops Q rest (a.put o.dst v') w') : wpList P ops Q (o :: rest) a X :=
  wpList_step fun _ hK => step_app_nil hgd s x ho ht hi hz h1 h2 R u L B hs hx hu hl hb fun v' w' p q => hK _ _ (h v' w' p q)
theorem wpList_app_span (hgd : o.guard = none) (s x : Operand)
    (ho : o.op = .call { callee := .builtin .append, args := #[s, x], argTypes := #[T, T] }) (ht : P.underlying T = some (.slice e)) (hi : P.info? e = some i0) (hz : i0.zero = some (.agg #[.int .i64 0, .int .i64 0, .int .i64 0])) (h1 : i0.size = 3) (h2 : i0.bytes = 24)
    (R : World) (v : Value) (k : Nat) (L : List Sp) (f t u : Int) (hs : a.eval s = v) (hx : a.eval x = .slice (some ⟨k, 0, none⟩) 1 1) (hown : X.ownsRow R.heap.size e 3 v L.length (L.flatMap spCells)) (hk : Blk X k e #[.int .i64 f, .int .i64 t, .int .i64 u]) (hl : L.length ≤ 1000000) (hb : R.heap.size ≤ X.heap.size)
    (h : ∀ v' w', w'.ownsRow R.heap.size e 3 v' (L ++ [(f, t, u)]).length ((L ++ [(f, t, u)]).flatMap spCells) → X.grownBy w' v.ownBlock → wpList P ops Q rest (a.put o.dst v') w') : wpList P ops Q (o :: rest) a X :=
  wpList_step fun _ hK => step_app_one hgd s x ho ht hi hz h1 h2 R v k L f t u hs hx hown hk hl hb fun v' w' p q => hK _ _ (h v' w' p q)
end

/-- No list is longer than n. -/
structure ShortT (n : Nat) (T : Tab) : Prop where
  c0 : T.category.length ≤ n
  c1 : T.cls.length ≤ n
  c2 : T.joining.length ≤ n
  c3 : T.bidi.length ≤ n
  c4 : T.script.length ≤ n
  c5 : T.status.length ≤ n
  c6 : T.ignorable.length ≤ n
  c7 : T.extensions.length ≤ n
  c8 : T.maps.length ≤ n
  c9 : T.decomps.length ≤ n
  c10 : T.excluded.length ≤ n
  c11 : T.prototypes.length ≤ n
theorem ShortT.more {n m : Nat} {T : Tab} (h : ShortT n T) (hm : n ≤ m) : ShortT m T :=
  ⟨Nat.le_trans h.c0 hm, Nat.le_trans h.c1 hm, Nat.le_trans h.c2 hm, Nat.le_trans h.c3 hm, Nat.le_trans h.c4 hm, Nat.le_trans h.c5 hm, Nat.le_trans h.c6 hm, Nat.le_trans h.c7 hm, Nat.le_trans h.c8 hm, Nat.le_trans h.c9 hm, Nat.le_trans h.c10 hm, Nat.le_trans h.c11 hm⟩
/-- What stands behind the switch. -/
def OthR (w0 : World) (xb rb n : Nat) (wx : World) : Prop := ∃ (t' : Tv) (T' : Tab), Blk wx xb 26 #[t'.c0, t'.c1, t'.c2, t'.c3, t'.c4, t'.c5, t'.c6, t'.c7, t'.c8, t'.c9, t'.c10, t'.c11] ∧ TabR wx wx.heap.size t' T' ∧ ShortT (n + 2) T' ∧ Below w0.heap.size w0 wx ∧ Blk wx rb 26 #[.slice none 0 0, .slice none 0 0, .slice none 0 0, .slice none 0 0, .slice none 0 0, .slice none 0 0, .slice none 0 0, .slice none 0 0, .slice none 0 0, .slice none 0 0, .slice none 0 0, .slice none 0 0]
section
variable {w0 w6 : World} {xb rb n base : Nat} {t : Tv} {T : Tab} {v6 : Value}
theorem oth_same (ht : TabR w0 w0.heap.size t T) (hn : ShortT n T) (hb : Below w0.heap.size w0 w6) (hX : Blk w6 xb 26 #[t.c0, t.c1, t.c2, t.c3, t.c4, t.c5, t.c6, t.c7, t.c8, t.c9, t.c10, t.c11]) (hR : Blk w6 rb 26 #[.slice none 0 0, .slice none 0 0, .slice none 0 0, .slice none 0 0, .slice none 0 0, .slice none 0 0, .slice none 0 0, .slice none 0 0, .slice none 0 0, .slice none 0 0, .slice none 0 0, .slice none 0 0]) : OthR w0 xb rb n w6 :=
  ⟨t, T, hX, (ht.below hb).more hb.size, hn.more (by omega), hb, hR⟩
theorem oth7 {D' : List Mp} (ht : TabR w0 w0.heap.size t T) (hn : ShortT n T) (hD : D'.length ≤ n + 2) (hb : Below w0.heap.size w0 w6) (hx : w0.heap.size ≤ xb) (hX : Blk w6 xb 26 #[t.c0, t.c1, t.c2, t.c3, t.c4, t.c5, t.c6, t.c7, t.c8, t.c9, t.c10, t.c11]) (hR : Blk w6 rb 26 #[.slice none 0 0, .slice none 0 0, .slice none 0 0, .slice none 0 0, .slice none 0 0, .slice none 0 0, .slice none 0 0, .slice none 0 0, .slice none 0 0, .slice none 0 0, .slice none 0 0, .slice none 0 0]) (hne : rb ≠ xb) (hM : OwnM [xb] w6 base v6 D') (hbase : xb < base) :
    OthR w0 xb rb n (w6.setCell ⟨xb, 7, none⟩ v6) := by
  have hb' : Below w0.heap.size w0 (w6.setCell ⟨xb, 7, none⟩ v6) := hb.setCell (p := ⟨xb, 7, none⟩) hx _
  have ht' := (ht.below hb').more hb'.size
  have hset : onlyIn [xb] w6 (w6.setCell ⟨xb, 7, none⟩ v6) := onlyIn.of_grown (grown_setCell (grown_refl w6 (some xb)) 7 v6) (by simp)
  have hM' := (hM.kept hset fun q hq hx => by
    obtain ⟨ps, _, _, ho, _⟩ := hM
    have := (ho.lt q hq).1
    simp at hx; omega).mapps (by intro q hq; simp at hq; omega)
  rw [veil_size] at hM'
  exact ⟨{ t with c7 := v6 }, { T with extensions := D' }, by simpa using hX.put 7 v6, { ht' with r7 := hM'.unveil }, { hn.more (Nat.le_add_right n 2) with c7 := hD }, hb', hR.far (by simpa using hne) _⟩
theorem oth8 {D' : List Mp} (ht : TabR w0 w0.heap.size t T) (hn : ShortT n T) (hD : D'.length ≤ n + 2) (hb : Below w0.heap.size w0 w6) (hx : w0.heap.size ≤ xb) (hX : Blk w6 xb 26 #[t.c0, t.c1, t.c2, t.c3, t.c4, t.c5, t.c6, t.c7, t.c8, t.c9, t.c10, t.c11]) (hR : Blk w6 rb 26 #[.slice none 0 0, .slice none 0 0, .slice none 0 0, .slice none 0 0, .slice none 0 0, .slice none 0 0, .slice none 0 0, .slice none 0 0, .slice none 0 0, .slice none 0 0, .slice none 0 0, .slice none 0 0]) (hne : rb ≠ xb) (hM : OwnM [xb] w6 base v6 D') (hbase : xb < base) :
    OthR w0 xb rb n (w6.setCell ⟨xb, 8, none⟩ v6) := by
  have hb' : Below w0.heap.size w0 (w6.setCell ⟨xb, 8, none⟩ v6) := hb.setCell (p := ⟨xb, 8, none⟩) hx _
  have ht' := (ht.below hb').more hb'.size
  have hset : onlyIn [xb] w6 (w6.setCell ⟨xb, 8, none⟩ v6) := onlyIn.of_grown (grown_setCell (grown_refl w6 (some xb)) 8 v6) (by simp)
  have hM' := (hM.kept hset fun q hq hx => by
    obtain ⟨ps, _, _, ho, _⟩ := hM
    have := (ho.lt q hq).1
    simp at hx; omega).mapps (by intro q hq; simp at hq; omega)
  rw [veil_size] at hM'
  exact ⟨{ t with c8 := v6 }, { T with maps := D' }, by simpa using hX.put 8 v6, { ht' with r8 := hM'.unveil }, { hn.more (Nat.le_add_right n 2) with c8 := hD }, hb', hR.far (by simpa using hne) _⟩
theorem oth9 {D' : List Mp} (ht : TabR w0 w0.heap.size t T) (hn : ShortT n T) (hD : D'.length ≤ n + 2) (hb : Below w0.heap.size w0 w6) (hx : w0.heap.size ≤ xb) (hX : Blk w6 xb 26 #[t.c0, t.c1, t.c2, t.c3, t.c4, t.c5, t.c6, t.c7, t.c8, t.c9, t.c10, t.c11]) (hR : Blk w6 rb 26 #[.slice none 0 0, .slice none 0 0, .slice none 0 0, .slice none 0 0, .slice none 0 0, .slice none 0 0, .slice none 0 0, .slice none 0 0, .slice none 0 0, .slice none 0 0, .slice none 0 0, .slice none 0 0]) (hne : rb ≠ xb) (hM : OwnM [xb] w6 base v6 D') (hbase : xb < base) :
    OthR w0 xb rb n (w6.setCell ⟨xb, 9, none⟩ v6) := by
  have hb' : Below w0.heap.size w0 (w6.setCell ⟨xb, 9, none⟩ v6) := hb.setCell (p := ⟨xb, 9, none⟩) hx _
  have ht' := (ht.below hb').more hb'.size
  have hset : onlyIn [xb] w6 (w6.setCell ⟨xb, 9, none⟩ v6) := onlyIn.of_grown (grown_setCell (grown_refl w6 (some xb)) 9 v6) (by simp)
  have hM' := (hM.kept hset fun q hq hx => by
    obtain ⟨ps, _, _, ho, _⟩ := hM
    have := (ho.lt q hq).1
    simp at hx; omega).mapps (by intro q hq; simp at hq; omega)
  rw [veil_size] at hM'
  exact ⟨{ t with c9 := v6 }, { T with decomps := D' }, by simpa using hX.put 9 v6, { ht' with r9 := hM'.unveil }, { hn.more (Nat.le_add_right n 2) with c9 := hD }, hb', hR.far (by simpa using hne) _⟩
theorem oth11 {D' : List Mp} (ht : TabR w0 w0.heap.size t T) (hn : ShortT n T) (hD : D'.length ≤ n + 2) (hb : Below w0.heap.size w0 w6) (hx : w0.heap.size ≤ xb) (hX : Blk w6 xb 26 #[t.c0, t.c1, t.c2, t.c3, t.c4, t.c5, t.c6, t.c7, t.c8, t.c9, t.c10, t.c11]) (hR : Blk w6 rb 26 #[.slice none 0 0, .slice none 0 0, .slice none 0 0, .slice none 0 0, .slice none 0 0, .slice none 0 0, .slice none 0 0, .slice none 0 0, .slice none 0 0, .slice none 0 0, .slice none 0 0, .slice none 0 0]) (hne : rb ≠ xb) (hM : OwnM [xb] w6 base v6 D') (hbase : xb < base) :
    OthR w0 xb rb n (w6.setCell ⟨xb, 11, none⟩ v6) := by
  have hb' : Below w0.heap.size w0 (w6.setCell ⟨xb, 11, none⟩ v6) := hb.setCell (p := ⟨xb, 11, none⟩) hx _
  have ht' := (ht.below hb').more hb'.size
  have hset : onlyIn [xb] w6 (w6.setCell ⟨xb, 11, none⟩ v6) := onlyIn.of_grown (grown_setCell (grown_refl w6 (some xb)) 11 v6) (by simp)
  have hM' := (hM.kept hset fun q hq hx => by
    obtain ⟨ps, _, _, ho, _⟩ := hM
    have := (ho.lt q hq).1
    simp at hx; omega).mapps (by intro q hq; simp at hq; omega)
  rw [veil_size] at hM'
  exact ⟨{ t with c11 := v6 }, { T with prototypes := D' }, by simpa using hX.put 11 v6, { ht' with r11 := hM'.unveil }, { hn.more (Nat.le_add_right n 2) with c11 := hD }, hb', hR.far (by simpa using hne) _⟩
theorem oth0 {D' : List Sp} (ht : TabR w0 w0.heap.size t T) (hn : ShortT n T) (hD : D'.length ≤ n + 2) (hb : Below w0.heap.size w0 w6) (hx : w0.heap.size ≤ xb) (hX : Blk w6 xb 26 #[t.c0, t.c1, t.c2, t.c3, t.c4, t.c5, t.c6, t.c7, t.c8, t.c9, t.c10, t.c11]) (hR : Blk w6 rb 26 #[.slice none 0 0, .slice none 0 0, .slice none 0 0, .slice none 0 0, .slice none 0 0, .slice none 0 0, .slice none 0 0, .slice none 0 0, .slice none 0 0, .slice none 0 0, .slice none 0 0, .slice none 0 0]) (hne : rb ≠ xb) (hM : w6.ownsRow base 42 3 v6 D'.length (D'.flatMap spCells)) (hbase : xb < base) :
    OthR w0 xb rb n (w6.setCell ⟨xb, 0, none⟩ v6) := by
  have hb' : Below w0.heap.size w0 (w6.setCell ⟨xb, 0, none⟩ v6) := hb.setCell (p := ⟨xb, 0, none⟩) hx _
  have ht' := (ht.below hb').more hb'.size
  have hM' := Spans.of_own (own_grown hM (grown_setCell (grown_refl w6 (some xb)) 0 v6) hbase)
  exact ⟨{ t with c0 := v6 }, { T with category := D' }, by simpa using hX.put 0 v6, { ht' with r0 := hM' }, { hn.more (Nat.le_add_right n 2) with c0 := hD }, hb', hR.far (by simpa using hne) _⟩
theorem oth1 {D' : List Sp} (ht : TabR w0 w0.heap.size t T) (hn : ShortT n T) (hD : D'.length ≤ n + 2) (hb : Below w0.heap.size w0 w6) (hx : w0.heap.size ≤ xb) (hX : Blk w6 xb 26 #[t.c0, t.c1, t.c2, t.c3, t.c4, t.c5, t.c6, t.c7, t.c8, t.c9, t.c10, t.c11]) (hR : Blk w6 rb 26 #[.slice none 0 0, .slice none 0 0, .slice none 0 0, .slice none 0 0, .slice none 0 0, .slice none 0 0, .slice none 0 0, .slice none 0 0, .slice none 0 0, .slice none 0 0, .slice none 0 0, .slice none 0 0]) (hne : rb ≠ xb) (hM : w6.ownsRow base 42 3 v6 D'.length (D'.flatMap spCells)) (hbase : xb < base) :
    OthR w0 xb rb n (w6.setCell ⟨xb, 1, none⟩ v6) := by
  have hb' : Below w0.heap.size w0 (w6.setCell ⟨xb, 1, none⟩ v6) := hb.setCell (p := ⟨xb, 1, none⟩) hx _
  have ht' := (ht.below hb').more hb'.size
  have hM' := Spans.of_own (own_grown hM (grown_setCell (grown_refl w6 (some xb)) 1 v6) hbase)
  exact ⟨{ t with c1 := v6 }, { T with cls := D' }, by simpa using hX.put 1 v6, { ht' with r1 := hM' }, { hn.more (Nat.le_add_right n 2) with c1 := hD }, hb', hR.far (by simpa using hne) _⟩
theorem oth2 {D' : List Sp} (ht : TabR w0 w0.heap.size t T) (hn : ShortT n T) (hD : D'.length ≤ n + 2) (hb : Below w0.heap.size w0 w6) (hx : w0.heap.size ≤ xb) (hX : Blk w6 xb 26 #[t.c0, t.c1, t.c2, t.c3, t.c4, t.c5, t.c6, t.c7, t.c8, t.c9, t.c10, t.c11]) (hR : Blk w6 rb 26 #[.slice none 0 0, .slice none 0 0, .slice none 0 0, .slice none 0 0, .slice none 0 0, .slice none 0 0, .slice none 0 0, .slice none 0 0, .slice none 0 0, .slice none 0 0, .slice none 0 0, .slice none 0 0]) (hne : rb ≠ xb) (hM : w6.ownsRow base 42 3 v6 D'.length (D'.flatMap spCells)) (hbase : xb < base) :
    OthR w0 xb rb n (w6.setCell ⟨xb, 2, none⟩ v6) := by
  have hb' : Below w0.heap.size w0 (w6.setCell ⟨xb, 2, none⟩ v6) := hb.setCell (p := ⟨xb, 2, none⟩) hx _
  have ht' := (ht.below hb').more hb'.size
  have hM' := Spans.of_own (own_grown hM (grown_setCell (grown_refl w6 (some xb)) 2 v6) hbase)
  exact ⟨{ t with c2 := v6 }, { T with joining := D' }, by simpa using hX.put 2 v6, { ht' with r2 := hM' }, { hn.more (Nat.le_add_right n 2) with c2 := hD }, hb', hR.far (by simpa using hne) _⟩
theorem oth5 {D' : List Sp} (ht : TabR w0 w0.heap.size t T) (hn : ShortT n T) (hD : D'.length ≤ n + 2) (hb : Below w0.heap.size w0 w6) (hx : w0.heap.size ≤ xb) (hX : Blk w6 xb 26 #[t.c0, t.c1, t.c2, t.c3, t.c4, t.c5, t.c6, t.c7, t.c8, t.c9, t.c10, t.c11]) (hR : Blk w6 rb 26 #[.slice none 0 0, .slice none 0 0, .slice none 0 0, .slice none 0 0, .slice none 0 0, .slice none 0 0, .slice none 0 0, .slice none 0 0, .slice none 0 0, .slice none 0 0, .slice none 0 0, .slice none 0 0]) (hne : rb ≠ xb) (hM : w6.ownsRow base 42 3 v6 D'.length (D'.flatMap spCells)) (hbase : xb < base) :
    OthR w0 xb rb n (w6.setCell ⟨xb, 5, none⟩ v6) := by
  have hb' : Below w0.heap.size w0 (w6.setCell ⟨xb, 5, none⟩ v6) := hb.setCell (p := ⟨xb, 5, none⟩) hx _
  have ht' := (ht.below hb').more hb'.size
  have hM' := Spans.of_own (own_grown hM (grown_setCell (grown_refl w6 (some xb)) 5 v6) hbase)
  exact ⟨{ t with c5 := v6 }, { T with status := D' }, by simpa using hX.put 5 v6, { ht' with r5 := hM' }, { hn.more (Nat.le_add_right n 2) with c5 := hD }, hb', hR.far (by simpa using hne) _⟩
theorem oth10 {D' : List Int} (ht : TabR w0 w0.heap.size t T) (hn : ShortT n T) (hD : D'.length ≤ n + 2) (hb : Below w0.heap.size w0 w6) (hx : w0.heap.size ≤ xb) (hX : Blk w6 xb 26 #[t.c0, t.c1, t.c2, t.c3, t.c4, t.c5, t.c6, t.c7, t.c8, t.c9, t.c10, t.c11]) (hR : Blk w6 rb 26 #[.slice none 0 0, .slice none 0 0, .slice none 0 0, .slice none 0 0, .slice none 0 0, .slice none 0 0, .slice none 0 0, .slice none 0 0, .slice none 0 0, .slice none 0 0, .slice none 0 0, .slice none 0 0]) (hne : rb ≠ xb) (hM : w6.ownsRow base 3 1 v6 D'.length (D'.map (Value.int .i64))) (hbase : xb < base) :
    OthR w0 xb rb n (w6.setCell ⟨xb, 10, none⟩ v6) := by
  have hb' : Below w0.heap.size w0 (w6.setCell ⟨xb, 10, none⟩ v6) := hb.setCell (p := ⟨xb, 10, none⟩) hx _
  have ht' := (ht.below hb').more hb'.size
  have hM' := Ints.of_own (own_grown hM (grown_setCell (grown_refl w6 (some xb)) 10 v6) hbase)
  exact ⟨{ t with c10 := v6 }, { T with excluded := D' }, by simpa using hX.put 10 v6, { ht' with r10 := hM' }, { hn.more (Nat.le_add_right n 2) with c10 := hD }, hb', hR.far (by simpa using hne) _⟩
end
end Go.Proofs.YtneinkpfhkojgaaGreatDoor
/-
  Contracts as a region that draws its order asks for them, where callees make memory and hand back plain values.
-/
namespace Go.Proofs.YtneinkpfhkojgaaGreatDoor
open Go.RowKit

theorem quiet_b {P : Program} {f : FuncId} {args : Array Value} {w : World} {d : Nat} {os : Array Obj} {v : Value} (h : ∀ W, Calls P f args W fun e w' => e = .returned v ∧ Below W.heap.size W w') :
    Calls P f args (Go.Sort.grow (redrawn w d) os) fun e w'' => e = .returned v ∧ ∃ p : Regrown, w'' = Go.Sort.grow (redrawn w p.d) p.os := Calls.regrown_of (h _)
theorem quiet_s {P : Program} {f : FuncId} {args : Array Value} {w : World} {d : Nat} {os : Array Obj} {v : Value} (h : ∀ W, Calls P f args W fun e w' => e = .returned v ∧ W = w') :
    Calls P f args (Go.Sort.grow (redrawn w d) os) fun e w'' => e = .returned v ∧ ∃ p : Regrown, w'' = Go.Sort.grow (redrawn w p.d) p.os :=
  (h _).mono fun _ _ ⟨he, hw⟩ => ⟨he, ⟨⟨d, os⟩, hw.symm⟩⟩
end Go.Proofs.YtneinkpfhkojgaaGreatDoor
/-
  A region that draws its order, walked by what holds of each slot: one obligation for each operation serves every order.
-/
namespace Go.Proofs.YtneinkpfhkojgaaGreatDoor
open Go.RowKit

/-- How many operations are still to come. -/
def unl (n : Nat) (listed : Array Bool) : Nat := (List.range n).countP fun i => !listed.getD i true
theorem countP_one {l : List Nat} {p q : Nat → Bool} {i : Nat} (hnd : l.Nodup) (hi : i ∈ l) (hp : p i = true) (hq : q i = false) (he : ∀ j, j ≠ i → q j = p j) : l.countP q + 1 = l.countP p := by
  induction l with
  | nil => cases hi
  | cons a r ih =>
    rw [List.nodup_cons] at hnd
    rw [List.countP_cons, List.countP_cons]
    by_cases h : a = i
    · subst h
      rw [hp, hq]
      have : r.countP q = r.countP p := List.countP_congr fun j hj => by
        have hne : j ≠ a := fun e => hnd.1 (e ▸ hj)
        rw [he j hne]
      simp [this]
    · have hi' : i ∈ r := by
        rcases List.mem_cons.1 hi with e | e
        · exact absurd e.symm h
        · exact e
      have := ih hnd.2 hi'
      rw [he a h]
      omega
theorem unl_set {n i : Nat} {listed : Array Bool} (hi : i < n) (hs : i < listed.size) (hu : listed.getD i true = false) : unl n (listed.setIfInBounds i true) + 1 = unl n listed := by
  unfold unl
  refine countP_one List.nodup_range (List.mem_range.2 hi) (by rw [hu]; rfl) ?_ fun j hj => ?_
  · simp [Array.getD_eq_getD_getElem?, hs]
  · simp [Array.getD_eq_getD_getElem?, Ne.symm hj]

/-- What holds in the midst of the region. -/
structure InvS (ops : Array Oper) (F : Act → Prop) (C : World → Prop) (R : Nat → Value → World → Prop) (listed : Array Bool) (a : Act) (w : World) : Prop where
  size : listed.size = ops.size
  c : C w
  f : F a
  r : ∀ (i : Nat) (o : Oper) (d : Tmp), ops[i]? = some o → listed.getD i false = true → o.dst = some d → ∃ v, a.tmps[d]? = some v ∧ R i v w

/-- What an operation may lean on. -/
def Deps (md : Region.Mode) (ops : Array Oper) (R : Nat → Value → World → Prop) (o : Oper) (a : Act) (w : World) : Prop :=
  ∀ e ∈ o.after, Region.binds md e = true → ∀ (oe : Oper) (d : Tmp), ops[e.on]? = some oe → oe.dst = some d → ∃ v, a.tmps[d]? = some v ∧ R e.on v w

theorem ready_spec {md : Region.Mode} {ops : Array Oper} {listed : Array Bool} {i : Nat} (h : i ∈ Region.ready md ops listed) : i < ops.size ∧ listed.getD i true = false ∧ ∃ o, ops[i]? = some o ∧ ∀ e ∈ o.after, Region.binds md e = true → listed.getD e.on false = true := by
  unfold Region.ready at h
  obtain ⟨h1, h2⟩ := List.mem_filter.1 h
  have h1 := List.mem_range.1 h1
  rw [Bool.and_eq_true] at h2
  refine ⟨h1, by simpa using h2.1, ops[i], Array.getElem?_eq_getElem h1, fun e he hb => ?_⟩
  have h3 := h2.2
  rw [Array.getElem?_eq_getElem h1] at h3
  simp only [Option.map_some, Option.getD_some, Array.all_eq_true'] at h3
  have h4 := h3 e he
  rw [hb] at h4
  simpa using h4

/-- All operations are listed, if none may come up. -/
theorem ready_nil {md : Region.Mode} {ops : Array Oper} {listed : Array Bool} (hs : listed.size = ops.size) (hlow : ∀ (i : Nat) (o : Oper), ops[i]? = some o → ∀ e ∈ o.after, Region.binds md e = true → e.on < i) (h : Region.ready md ops listed = []) : ∀ i, i < ops.size → listed.getD i false = true := by
  intro i
  induction i using Nat.strongRecOn with
  | ind i ih =>
    intro hi
    cases hl : listed.getD i false with
    | true => rfl
    | false =>
      have hm : i ∈ Region.ready md ops listed := by
        unfold Region.ready
        refine List.mem_filter.2 ⟨List.mem_range.2 hi, ?_⟩
        rw [Bool.and_eq_true]
        refine ⟨?_, ?_⟩
        · have : listed.getD i true = false := by
            rw [Array.getD_eq_getD_getElem?, Array.getElem?_eq_getElem (by omega)] at hl ⊢
            simpa using hl
          rw [this]; rfl
        · rw [Array.getElem?_eq_getElem hi]
          simp only [Option.map_some, Option.getD_some, Array.all_eq_true']
          intro e he
          cases hb : Region.binds md e with
          | false => rfl
          | true =>
            have := hlow i _ (Array.getElem?_eq_getElem hi) e he hb
            simp [ih e.on this (by omega)]
      rw [h] at hm; cases hm

theorem wpAny_inv {P : Program} {md : Region.Mode} {ops : Array Oper} {Q : Exit → Act → World → Prop} {F : Act → Prop} {C : World → Prop} {R : Nat → Value → World → Prop}
    (hlow : ∀ (i : Nat) (o : Oper), ops[i]? = some o → ∀ e ∈ o.after, Region.binds md e = true → e.on < i)
    (hdst : ∀ (i j : Nat) (o o' : Oper) (d : Tmp), ops[i]? = some o → ops[j]? = some o' → i ≠ j → o.dst = some d → o'.dst ≠ some d)
    (hF : ∀ (i : Nat) (o : Oper) (a : Act) (v : Value), ops[i]? = some o → F a → F (a.put o.dst v))
    (hput : ∀ (i : Nat) (o : Oper) (d : Tmp) (a : Act), ops[i]? = some o → o.dst = some d → F a → d < a.tmps.size)
    (hst : ∀ i v w w', R i v w → Below w.heap.size w w' → R i v w')
    (hob : ∀ (i : Nat) (o : Oper), ops[i]? = some o → ∀ a w, C w → F a → Deps md ops R o a w → ∀ K : Act → World → Prop, (∀ v w', (∀ d, o.dst = some d → R i v w') → C w' → Below w.heap.size w w' → K (a.put o.dst v) w') →
      if Region.wanted o (yielded ops a.tmps) = true then o.wp P a w K Q else K (a.put o.dst undef) w)
    (hend : ∀ a w, C w → F a → (∀ (i : Nat) (o : Oper) (d : Tmp), ops[i]? = some o → o.dst = some d → ∃ v, a.tmps[d]? = some v ∧ R i v w) → Q .normal a w) :
    ∀ (fuel : Nat) (listed : Array Bool) (a : Act) (w : World), InvS ops F C R listed a w → unl ops.size listed ≤ fuel → wpAny P md ops Q fuel listed a w := by
  have fin : ∀ listed a w, InvS ops F C R listed a w → Region.ready md ops listed = [] → Q .normal a w := fun listed a w h hr =>
    hend a w h.c h.f fun i o d ho hd => h.r i o d ho (ready_nil h.size hlow hr i (Array.getElem?_eq_some_iff.1 ho).1) hd
  intro fuel
  induction fuel with
  | zero =>
    intro listed a w h hu
    have hr : Region.ready md ops listed = [] := by
      refine List.eq_nil_iff_forall_not_mem.2 fun i hi => ?_
      obtain ⟨h1, h2, _⟩ := ready_spec hi
      have := unl_set h1 (by rw [h.size]; exact h1) h2
      omega
    exact ⟨hr, fin _ _ _ h hr⟩
  | succ fuel ih =>
    intro listed a w h hu
    refine ⟨fin _ _ _ h, fun i hi => ?_⟩
    obtain ⟨h1, h2, o, ho, hdep⟩ := ready_spec hi
    have hsz := unl_set h1 (by rw [h.size]; exact h1) h2
    have hd : Deps md ops R o a w := fun e he hb oe d hoe hd => h.r e.on oe d hoe (hdep e he hb) hd
    have key : ∀ v w', (∀ d, o.dst = some d → R i v w') → C w' → Below w.heap.size w w' → wpAny P md ops Q fuel (listed.setIfInBounds i true) (a.put o.dst v) w' := fun v w' hv hc hb => by
      refine ih _ _ _ ⟨by simpa using h.size, hc, hF i o a v ho h.f, fun j oj d hj hlj hdj => ?_⟩ (by omega)
      by_cases hji : j = i
      · subst hji
        rw [ho] at hj; cases hj
        refine ⟨v, ?_, hv d hdj⟩
        rw [hdj]
        simp [Act.put, hput j o d a ho hdj h.f]
      · have hlj' : listed.getD j false = true := by
          rw [Array.getD_eq_getD_getElem?, Array.getElem?_setIfInBounds, if_neg (Ne.symm hji)] at hlj
          rw [Array.getD_eq_getD_getElem?]; exact hlj
        obtain ⟨u, hu1, hu2⟩ := h.r j oj d hj hlj' hdj
        refine ⟨u, ?_, hst j u w w' hu2 hb⟩
        cases hod : o.dst with
        | none => exact hu1
        | some d' =>
          have hne : d' ≠ d := fun e => hdst j i oj o d hj ho hji hdj (by rw [hod, e])
          simp [Act.put, hne, hu1]
    have h3 := hob i o ho a w h.c h.f hd (fun a' w' => wpAny P md ops Q fuel (listed.setIfInBounds i true) a' w') key
    unfold wpOp
    rw [ho]
    simp only
    split
    · rename_i hw; rw [if_pos hw] at h3; exact .inl h3
    · rename_i hw; rw [if_neg hw] at h3; exact h3
end Go.Proofs.YtneinkpfhkojgaaGreatDoor
/-
  A variable that holds tables.
-/
namespace Go.Proofs.YtneinkpfhkojgaaGreatDoor
open Go.RowKit ND

/-- A variable that holds tables. -/
def Tbl (W : World) (b : Nat) (t : Tv) (T : Tab) : Prop := Blk W b 26 #[t.c0, t.c1, t.c2, t.c3, t.c4, t.c5, t.c6, t.c7, t.c8, t.c9, t.c10, t.c11] ∧ TabR W W.heap.size t T
theorem Tbl.later {W W' : World} {b : Nat} {t : Tv} {T : Tab} (h : Tbl W b t T) (hb : Below W.heap.size W W') : Tbl W' b t T := ⟨h.1.later hb, h.2.later hb⟩
/-- Tables are laid into a variable. -/
theorem Tbl.new {w1 : World} {T : Tab} {A0 A1 A2 A3 A4 A5 A6 A7 A8 A9 A10 A11 : Option Addr} {k0 k1 k2 k3 k4 k5 k6 k7 k8 k9 k10 k11 : Nat} (h : TabR w1 w1.heap.size ⟨.slice A0 T.category.length k0, .slice A1 T.cls.length k1, .slice A2 T.joining.length k2, .slice A3 T.bidi.length k3, .slice A4 T.script.length k4, .slice A5 T.status.length k5, .slice A6 T.ignorable.length k6, .slice A7 T.extensions.length k7, .slice A8 T.maps.length k8, .slice A9 T.decomps.length k9, .slice A10 T.excluded.length k10, .slice A11 T.prototypes.length k11⟩ T) :
    ∃ t : Tv, t = ⟨.slice A0 T.category.length k0, .slice A1 T.cls.length k1, .slice A2 T.joining.length k2, .slice A3 T.bidi.length k3, .slice A4 T.script.length k4, .slice A5 T.status.length k5, .slice A6 T.ignorable.length k6, .slice A7 T.extensions.length k7, .slice A8 T.maps.length k8, .slice A9 T.decomps.length k9, .slice A10 T.excluded.length k10, .slice A11 T.prototypes.length k11⟩ ∧ Tbl (w1.alloc (.cells #[.slice A0 T.category.length k0, .slice A1 T.cls.length k1, .slice A2 T.joining.length k2, .slice A3 T.bidi.length k3, .slice A4 T.script.length k4, .slice A5 T.status.length k5, .slice A6 T.ignorable.length k6, .slice A7 T.extensions.length k7, .slice A8 T.maps.length k8, .slice A9 T.decomps.length k9, .slice A10 T.excluded.length k10, .slice A11 T.prototypes.length k11] 26)) w1.heap.size t T :=
  ⟨_, rfl, Blk.new _ _ _, h.later ((Below.refl _ _).alloc (Nat.le_refl _) _)⟩
end Go.Proofs.YtneinkpfhkojgaaGreatDoor
/-
  The walks through table.columns, table.mappings and the reference's spans and mappings.
-/
namespace Go.Proofs.YtneinkpfhkojgaaGreatDoor
open Go.RowKit ND

/-- A row of columns from address ad on: the spans, the least value, the greatest value. -/
def ColAt (W : World) (B : Nat) (ad : Addr) (T : Tab) : Prop :=
  ad.block < B ∧ ∀ k c, T.cols[k]? = some c → ∃ v, W.cell? (ad.add (k * 3)) = some v ∧ W.cell? (ad.add (k * 3 + 1)) = some (.int .i64 c.2.1) ∧ W.cell? (ad.add (k * 3 + 2)) = some (.int .i64 c.2.2) ∧ Spans W B v c.1
/-- A row of lists of mappings. -/
def MpsAt (W : World) (B : Nat) (ad : Addr) (T : Tab) : Prop :=
  ad.block < B ∧ ∀ k c, T.mps[k]? = some c → ∃ v, W.cell? (ad.add k) = some v ∧ Mapps W B v c
/-- A row of lists of spans. -/
def LstAt (W : World) (B : Nat) (ad : Addr) (T : Tab) : Prop :=
  ad.block < B ∧ ∀ k c, T.cols[k]? = some c → ∃ v, W.cell? (ad.add k) = some v ∧ Spans W B v c.1
def mostL : List Int := [8, 254, 5, 11, 60, 4, 1]
def MstAt (W : World) (B : Nat) (ad : Addr) : Prop := ad.block < B ∧ ∀ (k : Nat) (m : Int), mostL[k]? = some m → W.cell? (ad.add k) = some (.int .i64 m)

def RetCols (T : Tab) (w : World) (e : Ending) (w' : World) : Prop := ∃ ad, e = .returned (.slice (some ad) 7 7) ∧ ColAt w' w'.heap.size ad T ∧ Below w.heap.size w w'
def RetMps (T : Tab) (w : World) (e : Ending) (w' : World) : Prop := ∃ ad, e = .returned (.slice (some ad) 4 4) ∧ MpsAt w' w'.heap.size ad T ∧ Below w.heap.size w w'
def RetLst (T : Tab) (w : World) (e : Ending) (w' : World) : Prop := ∃ ad am, e = .returned (.tuple #[.slice (some ad) 7 7, .slice (some am) 7 7]) ∧ LstAt w' w'.heap.size ad T ∧ MstAt w' w'.heap.size am ∧ Below w.heap.size w w'

theorem cols_of_block {w0 w : World} {t : Tv} {T : Tab} {e : TypeId} (ht : TabR w0 w0.heap.size t T) (hb : Below w0.heap.size w0 w) {h : Nat} (hh : w.heap.size = h) :
    ColAt (w.alloc (.cells #[t.c0, .int .i64 0, .int .i64 8, t.c1, .int .i64 1, .int .i64 254, t.c2, .int .i64 0, .int .i64 5, t.c3, .int .i64 0, .int .i64 11, t.c4, .int .i64 0, .int .i64 60, t.c5, .int .i64 0, .int .i64 4, t.c6, .int .i64 1, .int .i64 1] e))
      (w.alloc (.cells #[t.c0, .int .i64 0, .int .i64 8, t.c1, .int .i64 1, .int .i64 254, t.c2, .int .i64 0, .int .i64 5, t.c3, .int .i64 0, .int .i64 11, t.c4, .int .i64 0, .int .i64 60, t.c5, .int .i64 0, .int .i64 4, t.c6, .int .i64 1, .int .i64 1] e)).heap.size ⟨h, 0, none⟩ T := by
  subst hh
  have hc := cells_new w [t.c0, .int .i64 0, .int .i64 8, t.c1, .int .i64 1, .int .i64 254, t.c2, .int .i64 0, .int .i64 5, t.c3, .int .i64 0, .int .i64 11, t.c4, .int .i64 0, .int .i64 60, t.c5, .int .i64 0, .int .i64 4, t.c6, .int .i64 1, .int .i64 1] e
  have hr := ht.later (hb.alloc hb.size (.cells #[t.c0, .int .i64 0, .int .i64 8, t.c1, .int .i64 1, .int .i64 254, t.c2, .int .i64 0, .int .i64 5, t.c3, .int .i64 0, .int .i64 11, t.c4, .int .i64 0, .int .i64 60, t.c5, .int .i64 0, .int .i64 4, t.c6, .int .i64 1, .int .i64 1] e))
  refine ⟨by simp, fun k c hk => ?_⟩
  have hk7 : k < 7 := (List.getElem?_eq_some_iff.1 hk).1
  have h7 : k = 0 ∨ k = 1 ∨ k = 2 ∨ k = 3 ∨ k = 4 ∨ k = 5 ∨ k = 6 := by omega
  rcases h7 with rfl | rfl | rfl | rfl | rfl | rfl | rfl <;> cases hk
  · exact ⟨_, hc 0 _ rfl, hc 1 _ rfl, hc 2 _ rfl, hr.r0⟩
  · exact ⟨_, hc 3 _ rfl, hc 4 _ rfl, hc 5 _ rfl, hr.r1⟩
  · exact ⟨_, hc 6 _ rfl, hc 7 _ rfl, hc 8 _ rfl, hr.r2⟩
  · exact ⟨_, hc 9 _ rfl, hc 10 _ rfl, hc 11 _ rfl, hr.r3⟩
  · exact ⟨_, hc 12 _ rfl, hc 13 _ rfl, hc 14 _ rfl, hr.r4⟩
  · exact ⟨_, hc 15 _ rfl, hc 16 _ rfl, hc 17 _ rfl, hr.r5⟩
  · exact ⟨_, hc 18 _ rfl, hc 19 _ rfl, hc 20 _ rfl, hr.r6⟩
theorem mps_of_block {w0 w : World} {t : Tv} {T : Tab} {e : TypeId} (ht : TabR w0 w0.heap.size t T) (hb : Below w0.heap.size w0 w) {h : Nat} (hh : w.heap.size = h) :
    MpsAt (w.alloc (.cells #[t.c7, t.c8, t.c9, t.c11] e)) (w.alloc (.cells #[t.c7, t.c8, t.c9, t.c11] e)).heap.size ⟨h, 0, none⟩ T := by
  subst hh
  have hc := cells_new w [t.c7, t.c8, t.c9, t.c11] e
  have hr := ht.later (hb.alloc hb.size (.cells #[t.c7, t.c8, t.c9, t.c11] e))
  refine ⟨by simp, fun k c hk => ?_⟩
  have hk7 : k < 4 := (List.getElem?_eq_some_iff.1 hk).1
  have h7 : k = 0 ∨ k = 1 ∨ k = 2 ∨ k = 3 := by omega
  rcases h7 with rfl | rfl | rfl | rfl <;> cases hk
  · exact ⟨_, hc 0 _ rfl, hr.r7⟩
  · exact ⟨_, hc 1 _ rfl, hr.r8⟩
  · exact ⟨_, hc 2 _ rfl, hr.r9⟩
  · exact ⟨_, hc 3 _ rfl, hr.r11⟩
theorem lst_of_block {w0 w : World} {t : Tv} {T : Tab} {e : TypeId} (ht : TabR w0 w0.heap.size t T) (hb : Below w0.heap.size w0 w) {h : Nat} (hh : w.heap.size = h) :
    LstAt (w.alloc (.cells #[t.c0, t.c1, t.c2, t.c3, t.c4, t.c5, t.c6] e)) (w.alloc (.cells #[t.c0, t.c1, t.c2, t.c3, t.c4, t.c5, t.c6] e)).heap.size ⟨h, 0, none⟩ T := by
  subst hh
  have hc := cells_new w [t.c0, t.c1, t.c2, t.c3, t.c4, t.c5, t.c6] e
  have hr := ht.later (hb.alloc hb.size (.cells #[t.c0, t.c1, t.c2, t.c3, t.c4, t.c5, t.c6] e))
  refine ⟨by simp, fun k c hk => ?_⟩
  have hk7 : k < 7 := (List.getElem?_eq_some_iff.1 hk).1
  have h7 : k = 0 ∨ k = 1 ∨ k = 2 ∨ k = 3 ∨ k = 4 ∨ k = 5 ∨ k = 6 := by omega
  rcases h7 with rfl | rfl | rfl | rfl | rfl | rfl | rfl <;> cases hk
  · exact ⟨_, hc 0 _ rfl, hr.r0⟩
  · exact ⟨_, hc 1 _ rfl, hr.r1⟩
  · exact ⟨_, hc 2 _ rfl, hr.r2⟩
  · exact ⟨_, hc 3 _ rfl, hr.r3⟩
  · exact ⟨_, hc 4 _ rfl, hr.r4⟩
  · exact ⟨_, hc 5 _ rfl, hr.r5⟩
  · exact ⟨_, hc 6 _ rfl, hr.r6⟩
theorem LstAt.later {w w' : World} {ad : Addr} {T : Tab} (h : LstAt w w.heap.size ad T) (hb : Below w.heap.size w w') : LstAt w' w'.heap.size ad T :=
  ⟨Nat.lt_of_lt_of_le h.1 hb.size, fun k c hk => by
    obtain ⟨v, h1, h2⟩ := h.2 k c hk
    exact ⟨v, (hb.cell (p := ad.add k) (by rw [block_of_add]; exact h.1)).trans h1, h2.later hb⟩⟩
theorem mst_of_block (w : World) (e : TypeId) {h : Nat} (hh : w.heap.size = h) : MstAt (w.alloc (.cells #[.int .i64 8, .int .i64 254, .int .i64 5, .int .i64 11, .int .i64 60, .int .i64 4, .int .i64 1] e)) (w.alloc (.cells #[.int .i64 8, .int .i64 254, .int .i64 5, .int .i64 11, .int .i64 60, .int .i64 4, .int .i64 1] e)).heap.size ⟨h, 0, none⟩ := by
  subst hh
  refine ⟨by simp, fun k m hk => ?_⟩
  refine cells_new w (mostL.map (Value.int .i64)) e k _ ?_
  rw [List.getElem?_map, hk]; rfl

theorem TabR.shape {w : World} {B : Nat} {t : Tv} {T : Tab} (h : TabR w B t T) : ∃ (A0 A1 A2 A3 A4 A5 A6 A7 A8 A9 A10 A11 : Option Addr) (k0 k1 k2 k3 k4 k5 k6 k7 k8 k9 k10 k11 : Nat),
    t = ⟨.slice A0 T.category.length k0, .slice A1 T.cls.length k1, .slice A2 T.joining.length k2, .slice A3 T.bidi.length k3, .slice A4 T.script.length k4, .slice A5 T.status.length k5, .slice A6 T.ignorable.length k6,
      .slice A7 T.extensions.length k7, .slice A8 T.maps.length k8, .slice A9 T.decomps.length k9, .slice A10 T.excluded.length k10, .slice A11 T.prototypes.length k11⟩ := by
  obtain ⟨c0, c1, c2, c3, c4, c5, c6, c7, c8, c9, c10, c11⟩ := t
  obtain ⟨A0, k0, h0, _⟩ := h.r0
  obtain ⟨A1, k1, h1, _⟩ := h.r1
  obtain ⟨A2, k2, h2, _⟩ := h.r2
  obtain ⟨A3, k3, h3, _⟩ := h.r3
  obtain ⟨A4, k4, h4, _⟩ := h.r4
  obtain ⟨A5, k5, h5, _⟩ := h.r5
  obtain ⟨A6, k6, h6, _⟩ := h.r6
  obtain ⟨A7, k7, h7, _⟩ := h.r7
  obtain ⟨A8, k8, h8, _⟩ := h.r8
  obtain ⟨A9, k9, h9, _⟩ := h.r9
  obtain ⟨A10, k10, h10, _⟩ := h.r10
  obtain ⟨A11, k11, h11, _⟩ := h.r11
  simp only at h0 h1 h2 h3 h4 h5 h6 h7 h8 h9 h10 h11
  subst h0 h1 h2 h3 h4 h5 h6 h7 h8 h9 h10 h11
  exact ⟨A0, A1, A2, A3, A4, A5, A6, A7, A8, A9, A10, A11, k0, k1, k2, k3, k4, k5, k6, k7, k8, k9, k10, k11, rfl⟩

set_option maxRecDepth 100000 in
set_option maxHeartbeats 400000 in
theorem columns_any (t : Tv) (T : Tab) (w : World) (ht : TabR w w.heap.size t T) : Calls Tryz.prog 84 #[t.val] w (RetCols T w) := by
  obtain ⟨A0, A1, A2, A3, A4, A5, A6, A7, A8, A9, A10, A11, k0, k1, k2, k3, k4, k5, k6, k7, k8, k9, k10, k11, rfl⟩ := ht.shape
  have HT := Lib.hid ht; clear ht
  go_enter Tryz.func84, Tryz.ntmps84
  go_wp2_with fail
  go_ret
  refine ⟨_, rfl, cols_of_block HT.out ?_ (by simp), ?_⟩
  all_goals
    repeat (first | exact Below.refl _ _ | refine Below.setCell ?_ (by simp) _ | refine Below.alloc ?_ (by simp <;> omega) _)
set_option maxRecDepth 100000 in
set_option maxHeartbeats 400000 in
theorem mappings_any (t : Tv) (T : Tab) (w : World) (ht : TabR w w.heap.size t T) : Calls Tryz.prog 85 #[t.val] w (RetMps T w) := by
  obtain ⟨A0, A1, A2, A3, A4, A5, A6, A7, A8, A9, A10, A11, k0, k1, k2, k3, k4, k5, k6, k7, k8, k9, k10, k11, rfl⟩ := ht.shape
  have HT := Lib.hid ht; clear ht
  go_enter Tryz.func85, Tryz.ntmps85
  go_wp2_with fail
  go_ret
  refine ⟨_, rfl, mps_of_block HT.out ?_ (by simp), ?_⟩
  all_goals
    repeat (first | exact Below.refl _ _ | refine Below.setCell ?_ (by simp) _ | refine Below.alloc ?_ (by simp <;> omega) _)
set_option maxRecDepth 100000 in
set_option maxHeartbeats 400000 in
theorem refMappings_any (t : Tv) (T : Tab) (w : World) (ht : TabR w w.heap.size t T) : Calls Tryz.prog 95 #[t.val] w (RetMps T w) := by
  obtain ⟨A0, A1, A2, A3, A4, A5, A6, A7, A8, A9, A10, A11, k0, k1, k2, k3, k4, k5, k6, k7, k8, k9, k10, k11, rfl⟩ := ht.shape
  have HT := Lib.hid ht; clear ht
  go_enter Tryz.func95, Tryz.ntmps95
  go_wp2_with fail
  go_ret
  refine ⟨_, rfl, mps_of_block HT.out ?_ (by simp), ?_⟩
  all_goals
    repeat (first | exact Below.refl _ _ | refine Below.setCell ?_ (by simp) _ | refine Below.alloc ?_ (by simp <;> omega) _)
set_option maxRecDepth 100000 in
set_option maxHeartbeats 400000 in
theorem refSpans_any (t : Tv) (T : Tab) (w : World) (ht : TabR w w.heap.size t T) : Calls Tryz.prog 94 #[t.val] w (RetLst T w) := by
  obtain ⟨A0, A1, A2, A3, A4, A5, A6, A7, A8, A9, A10, A11, k0, k1, k2, k3, k4, k5, k6, k7, k8, k9, k10, k11, rfl⟩ := ht.shape
  have HT := Lib.hid ht; clear ht
  go_enter Tryz.func94, Tryz.ntmps94
  go_wp2_with fail
  go_ret2
  refine ⟨_, _, rfl, (lst_of_block HT.out ?_ (by simp)).later ((Below.refl _ _).alloc (Nat.le_refl _) _), mst_of_block _ _ (by simp), ?_⟩
  all_goals
    repeat (first | exact Below.refl _ _ | refine Below.setCell ?_ (by simp) _ | refine Below.alloc ?_ (by simp <;> omega) _)
end Go.Proofs.YtneinkpfhkojgaaGreatDoor
/-
  The walks through table.rows and the reference's small: rule 1.
-/
namespace Go.Proofs.YtneinkpfhkojgaaGreatDoor
open Go.RowKit ND

theorem Blk.tab {w : World} {g : Nat} {e : TypeId} {c0 c1 c2 c3 c4 c5 c6 c7 c8 c9 c10 c11 : Value} (h : Blk w g e #[c0, c1, c2, c3, c4, c5, c6, c7, c8, c9, c10, c11]) : w.cell? ⟨g, 0, none⟩ = some c0 ∧ w.cell? ⟨g, 1, none⟩ = some c1 ∧ w.cell? ⟨g, 2, none⟩ = some c2 ∧ w.cell? ⟨g, 3, none⟩ = some c3 ∧ w.cell? ⟨g, 4, none⟩ = some c4 ∧ w.cell? ⟨g, 5, none⟩ = some c5 ∧
    w.cell? ⟨g, 6, none⟩ = some c6 ∧ w.cell? ⟨g, 7, none⟩ = some c7 ∧ w.cell? ⟨g, 8, none⟩ = some c8 ∧ w.cell? ⟨g, 9, none⟩ = some c9 ∧ w.cell? ⟨g, 10, none⟩ = some c10 ∧ w.cell? ⟨g, 11, none⟩ = some c11 :=
  ⟨h.at_ rfl, h.at_ rfl, h.at_ rfl, h.at_ rfl, h.at_ rfl, h.at_ rfl, h.at_ rfl, h.at_ rfl, h.at_ rfl, h.at_ rfl, h.at_ rfl, h.at_ rfl⟩
/-- The step of a conjunction over a list. -/
theorem all_go {α : Type} {f : α → Bool} {xs : List α} {k : Nat} {x : α} {b R : Bool} (hx : xs[k]? = some x) (h : (b && (xs.drop k).all f) = R) {r : Bool} (hr : f x = r) : ((b && r) && (xs.drop (k + 1)).all f) = R := by
  rw [← h, drop_of_get hx, List.all_cons, hr, Bool.and_assoc]
theorem all_done {α : Type} {f : α → Bool} {xs : List α} {k : Nat} {b R : Bool} (hk : xs.length ≤ k) (h : (b && (xs.drop k).all f) = R) : b = R := by
  rw [List.drop_eq_nil_of_le hk] at h; simpa using h
/-- The step of a loop that leaves at the first one that fails. -/
theorem each_go {α : Type} {f : α → Bool} {xs : List α} {k : Nat} {x : α} {R : Bool} (hx : xs[k]? = some x) (h : (xs.drop k).all f = R) (hf : f x = true) : (xs.drop (k + 1)).all f = R := by
  rw [← h, drop_of_get hx, List.all_cons, hf, Bool.true_and]
theorem each_no {α : Type} {f : α → Bool} {xs : List α} {k : Nat} {x : α} {R : Bool} (hx : xs[k]? = some x) (h : (xs.drop k).all f = R) (hf : f x = false) : R = false := by
  rw [← h, drop_of_get hx, List.all_cons, hf, Bool.false_and]
theorem each_end {α : Type} {f : α → Bool} {xs : List α} {k : Nat} {R : Bool} (hk : xs.length ≤ k) (h : (xs.drop k).all f = R) : R = true := by
  rw [← h, List.drop_eq_nil_of_le hk]; rfl

theorem cast_le (n : Nat) : decide ((n : Int) ≤ 256) = decide (n ≤ 256) := by
  by_cases h : n ≤ 256
  · rw [decide_eq_true h, decide_eq_true (by omega)]
  · rw [decide_eq_false h, decide_eq_false (by omega)]
def lenC_ (c : List Sp × Int × Int) : Bool := decide ((c.1.length : Int) ≤ 256)
def lenM_ (c : List Mp) : Bool := decide ((c.length : Int) ≤ 256)
theorem rule1_cast (T : Tab) : T.rule1 = (decide ((T.excluded.length : Int) ≤ 256) && (T.cols.all lenC_ && T.mps.all lenM_)) := by
  have h1 : lenC_ = fun c : List Sp × Int × Int => decide (c.1.length ≤ 256) := funext fun c => cast_le _
  have h2 : lenM_ = fun c : List Mp => decide (c.length ≤ 256) := funext fun c => cast_le _
  rw [h1, h2, cast_le]; rfl

set_option maxRecDepth 100000 in
set_option maxHeartbeats 1000000 in
theorem rows_any (t : Tv) (T : Tab) (w : World) (ht : TabR w w.heap.size t T) :
    Calls Tryz.prog 62 #[t.val] w fun e w' => e = .returned (.bool T.rule1) ∧ Below w.heap.size w w' := by
  obtain ⟨A0, A1, A2, A3, A4, A5, A6, A7, A8, A9, A10, A11, k0, k1, k2, k3, k4, k5, k6, k7, k8, k9, k10, k11, rfl⟩ := ht.shape
  have HR := Lib.hid (fun o : Obj => ht.later ((Below.refl _ _).alloc (Nat.le_refl _) o))
  clear ht
  obtain ⟨R, hR⟩ : ∃ R, R = T.rule1 := ⟨_, rfl⟩
  rw [← hR]
  obtain ⟨R1, hR1⟩ : ∃ R1, R1 = (decide ((T.excluded.length : Int) ≤ 256) && T.cols.all lenC_) := ⟨_, rfl⟩
  have HR1 : Hid ((decide ((T.excluded.length : Int) ≤ 256) && (T.cols.drop 0).all lenC_) = R1) := Lib.hid hR1.symm
  have HRR : Hid ((R1 && (T.mps.drop 0).all lenM_) = R) := Lib.hid (by rw [hR, hR1, rule1_cast, Bool.and_assoc]; rfl)
  clear hR hR1
  go_enter Tryz.func62, Tryz.ntmps62
  go_wp2_with fail
  refine (columns_any _ T _ (HR.out _)).mono ?_
  rintro e w1 ⟨ad, rfl, hc, b1⟩
  have HC := Lib.hid hc.2
  have hca := hc.1
  have HB := Lib.hid ((Blk.new w 26 _).later b1)
  have HT := Lib.hid ((HR.out _).later b1)
  have hbel1 := below_next ((Below.refl _ _).alloc (Nat.le_refl _) _) b1
  clear hc b1 HR
  go_wp2_with fail
  go_loopw [3, 15] (fun o i wr => ∃ (k : Nat) (b : Bool), k ≤ 7 ∧ i = .int .i64 k ∧ o = .bool b ∧ Hid ((b && (T.cols.drop k).all lenC_) = R1) ∧ Below w1.heap.size w1 wr) (fun _ i _ => 7 - (intOf i).toNat)
  case atStart => exact ⟨0, _, by omega, rfl, rfl, HR1, Below.refl _ _⟩
  case round =>
    obtain ⟨k, b, hk, rfl, rfl, HS, hbel⟩ := hrel
    clear HR1
    by_cases hlt : k < 7
    · obtain ⟨⟨l, lo, hi⟩, hxk, _⟩ := get_el (xs := T.cols) (k := k) hlt
      obtain ⟨v, d0, d1, d2, A, c, rfl, _⟩ := HC.out k _ hxk
      simp only at d0 d1 d2
      obtain ⟨e0, e1, e2⟩ := span_cells hbel hca d0 d1 d2
      have HX := Lib.hid hxk
      clear d0 d1 d2 hxk
      have k0 : (0 : Int) ≤ (k : Int) := by omega
      have k1 : (k : Int) < (7 : Int) := by omega
      have HN := Lib.hid (all_go (r := decide ((l.length : Int) ≤ 256)) HX.out HS.out rfl)
      cases b
      all_goals
        go_wp2_with fail
        go_roundw
        case rel => exact ⟨k + 1, _, by omega, by go_num, rfl, HN, hbel.alloc hbel.size _⟩
        case measure => simp [intOf]; omega
    · have HN := Lib.hid (all_done (by show 7 ≤ k; omega) HS.out)
      obtain ⟨x0, x1, x2, x3, x4, x5, x6, x7, x8, x9, x10, x11⟩ := (HB.out.later hbel).tab
      have HT2 := Lib.hid (HT.out.later hbel)
      clear HT HB HC hca HS
      go_wp2_with fail
      refine (mappings_any _ T _ HT2.out).mono ?_
      rintro e w2 ⟨am, rfl, hm, b2⟩
      have HM := Lib.hid hm.2
      have hma := hm.1
      have hbel2 := below_next hbel1 (below_next hbel b2)
      clear hm HT2 hbel hbel1 b2 x0 x1 x2 x3 x4 x5 x6 x7 x8 x9 x10 x11
      have HRR2 : Hid ((b && (T.mps.drop 0).all lenM_) = R) := Lib.hid (by rw [HN.out]; exact HRR.out)
      clear HRR HN
      go_wp2_with fail
      go_loop [3, 30] (fun o i => ∃ (k : Nat) (b : Bool), k ≤ 4 ∧ i = .int .i64 k ∧ o = .bool b ∧ Hid ((b && (T.mps.drop k).all lenM_) = R)) (fun _ i => 4 - (intOf i).toNat)
      case atStart => exact ⟨0, _, by omega, rfl, rfl, HRR2⟩
      case round =>
        obtain ⟨k, b, hk, rfl, rfl, HS⟩ := hrel
        clear HRR2
        by_cases hlt : k < 4
        · obtain ⟨l, hxk, _⟩ := get_el (xs := T.mps) (k := k) hlt
          obtain ⟨v, d0, A, c, rfl, _⟩ := HM.out k _ hxk
          have HX := Lib.hid hxk
          clear hxk
          have k0 : (0 : Int) ≤ (k : Int) := by omega
          have k1 : (k : Int) < (4 : Int) := by omega
          have HN := Lib.hid (all_go (r := decide ((l.length : Int) ≤ 256)) HX.out HS.out rfl)
          cases b
          all_goals
            go_wp2_with fail
            go_round
            case rel => exact ⟨k + 1, _, by omega, by go_num, rfl, HN⟩
            case measure => simp [intOf]; omega
        · have HN := Lib.hid (all_done (by show 4 ≤ k; omega) HS.out)
          go_wp2_with fail
          go_ret
          rw [HN.out]
          exact ⟨rfl, hbel2⟩
end Go.Proofs.YtneinkpfhkojgaaGreatDoor
/-
  The obligations of single operations: moves, loads of tables, calls, comparisons, picks.
-/
namespace Go.Proofs.YtneinkpfhkojgaaGreatDoor
open Go.RowKit ND

section
variable {P : Program} {o : Oper} {a : Act} {w : World} {K : Act → World → Prop} {Q : Exit → Act → World → Prop}
theorem ob_move {x : Operand} {v : Value} (ho : o.op = .move x) (hv : a.eval x = v) (h : K (a.put o.dst v) w) : o.wp P a w K Q := by
  unfold Oper.wp execOp
  rw [ho]
  simp only [hv]
  exact h
theorem ob_assign {x : Operand} {v : Value} (ho : o.op = .assign x) (hv : a.eval x = v) (h : K (a.put o.dst v) w) : o.wp P a w K Q := by
  unfold Oper.wp execOp
  rw [ho]
  simp only [hv]
  exact h
theorem ob_pick {c x y : Operand} {b : Bool} {v : Value} (ho : o.op = .pick c x y) (hc : a.eval c = .bool b) (hx : a.eval (if b then x else y) = v) (h : K (a.put o.dst v) w) : o.wp P a w K Q := by
  unfold Oper.wp execOp
  rw [ho]
  subst hx
  cases b <;> simpa [hc, asBool, Oper.upon] using h
theorem ob_not {t : TypeId} {x : Operand} {b : Bool} (ho : o.op = .unOp .not t x) (hx : a.eval x = .bool b) (h : K (a.put o.dst (.bool (!b))) w) : o.wp P a w K Q := by
  unfold Oper.wp execOp
  rw [ho]
  simpa [hx, Op.unary, Oper.upon] using h
theorem ob_enter {f : FuncId} {vs : Array Value} {post : Ending → World → Prop} (hr : (execOp a.eval o).run P w = .ok (.enter f vs) w) (hc : Calls P f vs w post) (h : ∀ e w', post e w' → ∃ v, e = .returned v ∧ K (a.put o.dst v) w') : o.wp P a w K Q := by
  unfold Oper.wp
  rw [hr]
  refine Calls.mono hc fun e w' hp => ?_
  obtain ⟨v, rfl, hk⟩ := h e w' hp
  exact hk
theorem ob_value {v : Value} (hr : (execOp a.eval o).run P w = .ok (.value v) w) (h : K (a.put o.dst v) w) : o.wp P a w K Q := by
  unfold Oper.wp
  rw [hr]
  exact h
theorem wanted_none (ops : Array Oper) (hg : o.guard = none) : Region.wanted o (yielded ops a.tmps) = true := by simp [Region.wanted, hg]
theorem wanted_some (ops : Array Oper) {g : Nat} {b : Bool} {og : Oper} {d : Tmp} (hg : o.guard = some (g, b)) (ho : ops[g]? = some og) (hd : og.dst = some d) (hv : a.tmps[d]? = some (.bool b)) : Region.wanted o (yielded ops a.tmps) = true := by
  simp [Region.wanted, hg, yielded, ho, hd, hv]
end
theorem eval_tmp {a : Act} {d : Tmp} {v : Value} (h : a.tmps[d]? = some v) : a.eval (.tmp d) = v := by
  simp [Act.eval, h]
/-- Tables out of a variable. -/
theorem load_tab {W : World} {b : Nat} {t : Tv} {T : Tab} (h : Tbl W b t T) {a : Act} {o : Oper} {x : Operand} (ho : o.op = .load 26 x) (hx : a.eval x = .pointer (some ⟨b, 0, none⟩)) : (execOp a.eval o).run Tryz.prog W = .ok (.value t.val) W := by
  obtain ⟨x0, x1, x2, x3, x4, x5, x6, x7, x8, x9, x10, x11⟩ := h.1.tab
  unfold execOp
  rw [ho]
  simp only [hx]
  go_simp
theorem eql_int {W : World} {a : Act} {o : Oper} {x y : Operand} {n m : Int} (ho : o.op = .binOp .eql 3 x y 3) (hx : a.eval x = .int .i64 n) (hy : a.eval y = .int .i64 m) : (execOp a.eval o).run Tryz.prog W = .ok (.value (.bool (n == m))) W := by
  unfold execOp
  rw [ho]
  simp only [hx, hy]
  go_simp
theorem eql_bool {W : World} {a : Act} {o : Oper} {x y : Operand} {n m : Bool} (ho : o.op = .binOp .eql 4 x y 4) (hx : a.eval x = .bool n) (hy : a.eval y = .bool m) : (execOp a.eval o).run Tryz.prog W = .ok (.value (.bool (n == m))) W := by
  unfold execOp
  rw [ho]
  simp only [hx, hy]
  go_simp
end Go.Proofs.YtneinkpfhkojgaaGreatDoor
/-
  A drawn region by what holds of each slot, as the programs' regions are given: checks by the kernel, the obligations one by one.
-/
namespace Go.Proofs.YtneinkpfhkojgaaGreatDoor
open Go.RowKit ND

/-- The operations of a region, read off a function's text. -/
def findR : Code → Nat → Option (Array Oper)
  | .region n ops _, k => if n = k then some ops else none
  | .seq a b, k => (findR a k).or (findR b k)
  | .cond _ a b, k => (findR a k).or (findR b k)
  | .block _ a, k => findR a k
  | .loop a, k => findR a k
  | .scope a, k => findR a k
  | _, _ => none
def opsAt (f : Func) (k : Nat) : Array Oper := (f.body.bind (findR · k)).getD #[]
theorem wp_region_as {P : Program} {id : Nat} {L ops : Array Oper} {b : Bool} {Q : Exit → Act → World → Prop} {a : Act} {w : World} (h : L = ops) (hw : (Code.region id ops b).wp P Q a w) : (Code.region id L b).wp P Q a w := by
  subst h; exact hw

/-- What is said of a slot: its value, or the list that it reads as. -/
inductive SpecV where
  | val (v : Value)
  | seq (l : List Int)
def SpecV.ok : SpecV → Value → World → Prop
  | .val u, v, _ => v = u
  | .seq l, v, w => Ints w w.heap.size .i64 v l
def RS (specs : List SpecV) (i : Nat) (v : Value) (w : World) : Prop := ∀ s, specs[i]? = some s → s.ok v w
theorem RS.later {specs : List SpecV} {i : Nat} {v : Value} {w w' : World} (h : RS specs i v w) (hb : Below w.heap.size w w') : RS specs i v w' := fun s hs => by
  have h1 := h s hs
  cases s with
  | val u => exact h1
  | seq l => exact Ints.later h1 hb

def FS (n : Nat) (ds : List Deferred) (fixed : List (Tmp × Value)) (a : Act) : Prop := a.tmps.size = n ∧ a.defers = ds ∧ ∀ p ∈ fixed, a.tmps[p.1]? = some p.2

def nodupB : List (Option Tmp) → Bool
  | [] => true
  | a :: r => r.all (fun b => a != b || a == none) && nodupB r
def lowB : Nat → List Oper → Bool
  | _, [] => true
  | k, o :: r => o.after.all (fun e => decide (e.on < k)) && lowB (k + 1) r
def checksB (ops : Array Oper) (n : Nat) (fx : List Tmp) : Bool :=
  lowB 0 ops.toList && nodupB (ops.toList.map (·.dst)) && ops.toList.all fun o => match o.dst with | some d => decide (d < n) && !fx.contains d | none => true

theorem nodupB_at : ∀ {l : List (Option Tmp)} {i j : Nat} {d : Tmp}, nodupB l = true → i < j → l[i]? = some (some d) → l[j]? ≠ some (some d) := by
  intro l
  induction l with
  | nil => intro i j d _ _ h; simp at h
  | cons a r ih =>
    intro i j d h hij hi hj
    rw [nodupB, Bool.and_eq_true, List.all_eq_true] at h
    obtain ⟨k, rfl⟩ : ∃ k, j = k + 1 := ⟨j - 1, by omega⟩
    rw [List.getElem?_cons_succ] at hj
    cases i with
    | zero =>
      simp only [List.getElem?_cons_zero, Option.some.injEq] at hi
      subst hi
      have := h.1 _ (List.mem_of_getElem? hj)
      simp at this
    | succ i =>
      rw [List.getElem?_cons_succ] at hi
      exact ih h.2 (by omega) hi hj
theorem lowB_at : ∀ {l : List Oper} {k i : Nat} {o : Oper}, lowB k l = true → l[i]? = some o → ∀ e ∈ o.after, e.on < k + i := by
  intro l
  induction l with
  | nil => intro k i o _ h; simp at h
  | cons a r ih =>
    intro k i o h hi e he
    rw [lowB, Bool.and_eq_true] at h
    cases i with
    | zero =>
      simp only [List.getElem?_cons_zero, Option.some.injEq] at hi
      subst hi
      have := Array.all_eq_true'.1 h.1 e he
      simpa using this
    | succ i =>
      rw [List.getElem?_cons_succ] at hi
      have := ih h.2 hi e he
      omega

/-- The obligation of one operation. -/
def Ob (P : Program) (ops : Array Oper) (n : Nat) (ds : List Deferred) (fixed : List (Tmp × Value)) (C : World → Prop) (specs : List SpecV) (Q : Exit → Act → World → Prop) (i : Nat) (o : Oper) : Prop :=
  ∀ a w, C w → FS n ds fixed a → Deps .any ops (RS specs) o a w → ∀ K : Act → World → Prop, (∀ v w', RS specs i v w' → C w' → Below w.heap.size w w' → K (a.put o.dst v) w') →
    if Region.wanted o (yielded ops a.tmps) = true then o.wp P a w K Q else K (a.put o.dst undef) w

theorem get_op {β : Type} (f : Oper → β) {ops : Array Oper} {k : Nat} {o : Oper} {x : β} (ho : ops[k]? = some o) (h : (ops[k]?).map f = some x) : f o = x := by
  rw [ho] at h; exact Option.some.inj h
theorem dep_of {ops : Array Oper} {specs : List SpecV} {k : Nat} {o : Oper} {a : Act} {w : World} (ho : ops[k]? = some o) (hd : Deps .any ops (RS specs) o a w) (j : Nat) (d : Tmp) (s : SpecV)
    (h1 : ((ops[k]?).map fun o => o.after.any fun e => Region.binds .any e && e.on == j) = some true) (h2 : ((ops[j]?).map (·.dst)) = some (some d)) (h3 : specs[j]? = some s) : ∃ v, a.tmps[d]? = some v ∧ s.ok v w := by
  have h4 := get_op (fun o => o.after.any fun e => Region.binds .any e && e.on == j) ho h1
  obtain ⟨e, he, hb⟩ := Array.any_eq_true'.1 h4
  rw [Bool.and_eq_true, beq_iff_eq] at hb
  cases hj : ops[j]? with
  | none => rw [hj] at h2; cases h2
  | some oj =>
    rw [hj] at h2
    obtain ⟨v, hv, hr⟩ := hd e he hb.1 oj d (by rw [hb.2, hj]) (by simpa using h2)
    exact ⟨v, hv, hr s (by rw [hb.2]; exact h3)⟩

theorem rs_of {specs : List SpecV} {k : Nat} {s0 : SpecV} {v : Value} {w : World} (h : specs[k]? = some s0) (hok : s0.ok v w) : RS specs k v w := fun s hs => by
  rw [h] at hs; cases hs; exact hok
theorem wanted_at {ops : Array Oper} {k g : Nat} {b : Bool} {o : Oper} {a : Act} {d : Tmp} {v : Value} (ho : ops[k]? = some o) (hg : ((ops[k]?).map (·.guard)) = some (some (g, b))) (h2 : ((ops[g]?).map (·.dst)) = some (some d)) (hv : a.tmps[d]? = some v) (he : v = .bool b) : Region.wanted o (yielded ops a.tmps) = true := by
  subst he
  cases hj : ops[g]? with
  | none => rw [hj] at h2; cases h2
  | some og =>
    rw [hj] at h2
    exact wanted_some ops (get_op (·.guard) ho hg) hj (by simpa using h2) hv
theorem enter2 {P : Program} {f : FuncId} {x y : Operand} {vx vy : Value} {tys : Array TypeId} {a : Act} {o : Oper} {w : World} (ho : o.op = .call { callee := .value (.func f), args := #[x, y], argTypes := tys }) (hx : a.eval x = vx) (hy : a.eval y = vy)
    (eg : ∀ args w, (callFunc f args).run P w = .ok (.enter f args) w) : (execOp a.eval o).run P w = .ok (.enter f #[vx, vy]) w := by
  unfold execOp
  rw [ho]
  have hf : a.eval (.func f) = .func (.func f) #[] #[] := rfl
  simp [resolve, invoke, Deferred.ofValue, hx, hy, hf, eg]

theorem end_at {ops : Array Oper} {specs : List SpecV} {a : Act} {w : World} (hr : ∀ (i : Nat) (o : Oper) (d : Tmp), ops[i]? = some o → o.dst = some d → ∃ v, a.tmps[d]? = some v ∧ RS specs i v w) (i : Nat) (d : Tmp) (s : SpecV)
    (h2 : ((ops[i]?).map (·.dst)) = some (some d)) (h3 : specs[i]? = some s) : ∃ v, a.tmps[d]? = some v ∧ s.ok v w := by
  cases hj : ops[i]? with
  | none => rw [hj] at h2; cases h2
  | some oj =>
    rw [hj] at h2
    obtain ⟨v, hv, h⟩ := hr i oj d hj (by simpa using h2)
    exact ⟨v, hv, h s h3⟩

theorem wp_region_spec {P : Program} {id n : Nat} {ops : Array Oper} {Q : Exit → Act → World → Prop} {a : Act} {w : World} {ds : List Deferred} {fixed : List (Tmp × Value)} {C : World → Prop} {specs : List SpecV} (hm : P.follows .mixedOrders = true)
    (hck : checksB ops n (fixed.map (·.1)) = true) (hf : FS n ds fixed a) (hc : C w.drew)
    (hob : ∀ (i : Nat) (o : Oper), ops[i]? = some o → Ob P ops n ds fixed C specs Q i o)
    (hend : ∀ a w, C w → FS n ds fixed a → (∀ (i : Nat) (o : Oper) (d : Tmp), ops[i]? = some o → o.dst = some d → ∃ v, a.tmps[d]? = some v ∧ RS specs i v w) → Q .normal a w) : (Code.region id ops true).wp P Q a w := by
  unfold checksB at hck
  rw [Bool.and_eq_true, Bool.and_eq_true, List.all_eq_true] at hck
  obtain ⟨⟨h1, h2⟩, h3⟩ := hck
  have hat : ∀ {i : Nat} {o : Oper}, ops[i]? = some o → ops.toList[i]? = some o := fun h => by simpa using h
  have hin : ∀ {i : Nat} {o : Oper} {d : Tmp}, ops[i]? = some o → o.dst = some d → d < n ∧ d ∉ fixed.map (·.1) := fun h hd => by
    have := h3 _ (List.mem_of_getElem? (hat h))
    rw [hd] at this
    simpa using this
  refine wp_region_any hm (wpAny_inv (F := FS n ds fixed) (C := C) (R := RS specs) ?_ ?_ ?_ ?_ (fun i v w w' h hb => h.later hb) ?_ hend _ _ _ _ ⟨by simp, hc, hf, fun i o d _ hl _ => ?_⟩ ?_)
  · intro i o ho e he _
    have := lowB_at h1 (hat ho) e he
    omega
  · intro i j o o' d hi hj hij hd hd'
    have hi' : (ops.toList.map (·.dst))[i]? = some (some d) := by rw [List.getElem?_map, hat hi]; simp [hd]
    have hj' : (ops.toList.map (·.dst))[j]? = some (some d) := by rw [List.getElem?_map, hat hj]; simp [hd']
    rcases Nat.lt_or_gt_of_ne hij with h | h
    · exact nodupB_at h2 h hi' hj'
    · exact nodupB_at h2 h hj' hi'
  · intro i o a v ho ⟨q1, q2, q3⟩
    cases hd : o.dst with
    | none => exact ⟨q1, q2, q3⟩
    | some d =>
      obtain ⟨_, hn⟩ := hin ho hd
      refine ⟨by simpa [Act.put] using q1, q2, fun p hp => ?_⟩
      have hne : d ≠ p.1 := fun e => hn (e ▸ List.mem_map_of_mem hp)
      simp [Act.put, hne, q3 p hp]
  · intro i o d a ho hd hf
    rw [hf.1]; exact (hin ho hd).1
  · intro i o ho a w hc hf hd K hK
    refine hob i o ho a w hc hf hd K fun v w' hr hc' hb => hK v w' (fun _ _ => hr) hc' hb
  · rw [Array.getD_eq_getD_getElem?, Array.getElem?_replicate] at hl
    split at hl <;> simp at hl
  · unfold unl
    exact Nat.le_trans List.countP_le_length (by simp)
end Go.Proofs.YtneinkpfhkojgaaGreatDoor
/-
  A drawn region by what holds of each slot, where one operation may consume what holds of another's slot (an append its own row), and what holds of the world may turn with the operations done (a store).
-/
namespace Go.Proofs.YtneinkpfhkojgaaGreatDoor
open Go.RowKit ND

theorem wpAny_ind {P : Program} {md : Region.Mode} {ops : Array Oper} {Q : Exit → Act → World → Prop} {I : Array Bool → Act → World → Prop}
    (hsz : ∀ listed a w, I listed a w → listed.size = ops.size)
    (fin : ∀ listed a w, I listed a w → Region.ready md ops listed = [] → Q .normal a w)
    (step : ∀ listed a w, I listed a w → ∀ i, i ∈ Region.ready md ops listed → ∀ o, ops[i]? = some o → ∀ K : Act → World → Prop, (∀ a' w', I (listed.setIfInBounds i true) a' w' → K a' w') →
      if Region.wanted o (yielded ops a.tmps) = true then o.wp P a w K Q else K (a.put o.dst undef) w) :
    ∀ (fuel : Nat) (listed : Array Bool) (a : Act) (w : World), I listed a w → unl ops.size listed ≤ fuel → wpAny P md ops Q fuel listed a w := by
  intro fuel
  induction fuel with
  | zero =>
    intro listed a w h hu
    have hr : Region.ready md ops listed = [] := by
      refine List.eq_nil_iff_forall_not_mem.2 fun i hi => ?_
      obtain ⟨h1, h2, _⟩ := ready_spec hi
      have := unl_set h1 (by rw [hsz _ _ _ h]; exact h1) h2
      omega
    exact ⟨hr, fin _ _ _ h hr⟩
  | succ fuel ih =>
    intro listed a w h hu
    refine ⟨fin _ _ _ h, fun i hi => ?_⟩
    obtain ⟨h1, h2, o, ho, _⟩ := ready_spec hi
    have hs := unl_set h1 (by rw [hsz _ _ _ h]; exact h1) h2
    have h3 := step listed a w h i hi o ho (fun a' w' => wpAny P md ops Q fuel (listed.setIfInBounds i true) a' w') fun a' w' hI => ih _ _ _ hI (by omega)
    unfold wpOp
    rw [ho]
    simp only
    split
    · rename_i hw; rw [if_pos hw] at h3; exact .inl h3
    · rename_i hw; rw [if_neg hw] at h3; exact h3

/-- What an operation may lean on, where other operations may have consumed it. -/
def DepsK (ops : Array Oper) (kill : Nat → Nat → Bool) (R : Nat → Value → World → Prop) (listed : Array Bool) (o : Oper) (a : Act) (w : World) : Prop :=
  ∀ e ∈ o.after, Region.binds .any e = true → (∀ j, kill e.on j = true → listed.getD j true = false) → ∀ (oe : Oper) (d : Tmp), ops[e.on]? = some oe → oe.dst = some d → ∃ v, a.tmps[d]? = some v ∧ R e.on v w
/-- What holds in the midst of the region. -/
structure InvK (ops : Array Oper) (F : Act → Prop) (kill : Nat → Nat → Bool) (C : Array Bool → World → Prop) (R : Nat → Value → World → Prop) (listed : Array Bool) (a : Act) (w : World) : Prop where
  size : listed.size = ops.size
  c : C listed w
  f : F a
  closed : ∀ (j : Nat) (o : Oper), ops[j]? = some o → listed.getD j false = true → ∀ e ∈ o.after, Region.binds .any e = true → listed.getD e.on false = true
  r : ∀ (i : Nat) (o : Oper) (d : Tmp), ops[i]? = some o → listed.getD i false = true → (∀ j, kill i j = true → listed.getD j true = false) → o.dst = some d → ∃ v, a.tmps[d]? = some v ∧ R i v w
/-- The obligation of one operation. -/
def ObK (P : Program) (ops : Array Oper) (n : Nat) (ds : List Deferred) (fixed : List (Tmp × Value)) (kill : Nat → Nat → Bool) (C : Array Bool → World → Prop) (R : Nat → Value → World → Prop) (Q : Exit → Act → World → Prop) (i : Nat) (o : Oper) : Prop :=
  ∀ listed a w, C listed w → listed.size = ops.size → listed.getD i true = false → (∀ (j : Nat) (o : Oper), ops[j]? = some o → listed.getD j false = true → ∀ e ∈ o.after, Region.binds .any e = true → listed.getD e.on false = true) → FS n ds fixed a → DepsK ops kill R listed o a w → ∀ K : Act → World → Prop, (∀ v w', (∀ d, o.dst = some d → R i v w') → C (listed.setIfInBounds i true) w' → (∀ j u, j ≠ i → kill j i = false → R j u w → R j u w') → K (a.put o.dst v) w') →
    if Region.wanted o (yielded ops a.tmps) = true then o.wp P a w K Q else K (a.put o.dst undef) w

theorem wp_region_kill {P : Program} {id n : Nat} {ops : Array Oper} {Q : Exit → Act → World → Prop} {a : Act} {w : World} {ds : List Deferred} {fixed : List (Tmp × Value)} {kill : Nat → Nat → Bool} {C : Array Bool → World → Prop} {R : Nat → Value → World → Prop} (hm : P.follows .mixedOrders = true)
    (hck : checksB ops n (fixed.map (·.1)) = true) (hf : FS n ds fixed a) (hc : C (Array.replicate ops.size false) w.drew)
    (hob : ∀ (i : Nat) (o : Oper), ops[i]? = some o → ObK P ops n ds fixed kill C R Q i o)
    (hend : ∀ listed a w, (∀ i, i < ops.size → listed.getD i false = true) → C listed w → FS n ds fixed a → (∀ (i : Nat) (o : Oper) (d : Tmp), ops[i]? = some o → (∀ j, kill i j = false) → o.dst = some d → ∃ v, a.tmps[d]? = some v ∧ R i v w) → Q .normal a w) : (Code.region id ops true).wp P Q a w := by
  unfold checksB at hck
  rw [Bool.and_eq_true, Bool.and_eq_true, List.all_eq_true] at hck
  obtain ⟨⟨h1, h2⟩, h3⟩ := hck
  have hat : ∀ {i : Nat} {o : Oper}, ops[i]? = some o → ops.toList[i]? = some o := fun h => by simpa using h
  have hin : ∀ {i : Nat} {o : Oper} {d : Tmp}, ops[i]? = some o → o.dst = some d → d < n ∧ d ∉ fixed.map (·.1) := fun h hd => by
    have := h3 _ (List.mem_of_getElem? (hat h))
    rw [hd] at this
    simpa using this
  have hlow : ∀ (i : Nat) (o : Oper), ops[i]? = some o → ∀ e ∈ o.after, Region.binds .any e = true → e.on < i := fun i o ho e he _ => by
    have := lowB_at h1 (hat ho) e he
    omega
  have hdst : ∀ (i j : Nat) (o o' : Oper) (d : Tmp), ops[i]? = some o → ops[j]? = some o' → i ≠ j → o.dst = some d → o'.dst ≠ some d := fun i j o o' d hi hj hij hd hd' => by
    have hi' : (ops.toList.map (·.dst))[i]? = some (some d) := by rw [List.getElem?_map, hat hi]; simp [hd]
    have hj' : (ops.toList.map (·.dst))[j]? = some (some d) := by rw [List.getElem?_map, hat hj]; simp [hd']
    rcases Nat.lt_or_gt_of_ne hij with h | h
    · exact nodupB_at h2 h hi' hj'
    · exact nodupB_at h2 h hj' hi'
  have hF : ∀ (i : Nat) (o : Oper) (a : Act) (v : Value), ops[i]? = some o → FS n ds fixed a → FS n ds fixed (a.put o.dst v) := fun i o a v ho ⟨q1, q2, q3⟩ => by
    cases hd : o.dst with
    | none => exact ⟨q1, q2, q3⟩
    | some d =>
      obtain ⟨_, hn⟩ := hin ho hd
      refine ⟨by simpa [Act.put] using q1, q2, fun p hp => ?_⟩
      have hne : d ≠ p.1 := fun e => hn (e ▸ List.mem_map_of_mem hp)
      simp [Act.put, hne, q3 p hp]
  refine wp_region_any hm (wpAny_ind (I := InvK ops (FS n ds fixed) kill C R) (fun _ _ _ h => h.size) ?_ ?_ _ _ _ _ ⟨by simp, hc, hf, fun j o _ hl => ?_, fun i o d _ hl _ _ => ?_⟩ ?_)
  · intro listed a w h hr
    have hall := ready_nil h.size hlow hr
    refine hend listed a w hall h.c h.f fun i o d ho hk hd => h.r i o d ho (hall i (Array.getElem?_eq_some_iff.1 ho).1) (fun j hj => ?_) hd
    rw [hk j] at hj; cases hj
  · intro listed a w h i hi o ho K hK
    obtain ⟨g1, g2, o', ho', hdep⟩ := ready_spec hi
    rw [ho] at ho'; cases ho'
    refine hob i o ho listed a w h.c h.size g2 h.closed h.f (fun e he hb hk oe d hoe hd => h.r e.on oe d hoe (hdep e he hb) hk hd) K fun v w' hv hc' hst => hK _ _ ⟨by simpa using h.size, hc', hF i o a v ho h.f, fun j oj hj hlj e he hb => ?_, fun j oj d hj hlj hkj hdj => ?_⟩
    · have up : listed.getD e.on false = true → (listed.setIfInBounds i true).getD e.on false = true := fun hl => by
        rw [Array.getD_eq_getD_getElem?, Array.getElem?_setIfInBounds]
        split
        · split <;> simp_all
        · rw [← Array.getD_eq_getD_getElem?]; exact hl
      by_cases hji : j = i
      · subst hji
        rw [ho] at hj; cases hj
        exact up (hdep e he hb)
      · rw [Array.getD_eq_getD_getElem?, Array.getElem?_setIfInBounds, if_neg (Ne.symm hji)] at hlj
        exact up (h.closed j oj hj (by rw [Array.getD_eq_getD_getElem?]; exact hlj) e he hb)
    by_cases hji : j = i
    · subst hji
      rw [ho] at hj; cases hj
      refine ⟨v, ?_, hv d hdj⟩
      rw [hdj]
      simp [Act.put, h.f.1, (hin ho hdj).1]
    · have hlj' : listed.getD j false = true := by
        rw [Array.getD_eq_getD_getElem?, Array.getElem?_setIfInBounds, if_neg (Ne.symm hji)] at hlj
        rw [Array.getD_eq_getD_getElem?]; exact hlj
      have hset : ∀ m, (listed.setIfInBounds i true).getD m true = false → m ≠ i ∧ listed.getD m true = false := fun m hm => by
        rw [Array.getD_eq_getD_getElem?, Array.getElem?_setIfInBounds] at hm
        by_cases e : m = i
        · subst e
          simp [h.size, g1] at hm
        · rw [if_neg (Ne.symm e)] at hm
          exact ⟨e, by rw [Array.getD_eq_getD_getElem?]; exact hm⟩
      obtain ⟨u, hu1, hu2⟩ := h.r j oj d hj hlj' (fun m hm => (hset m (hkj m hm)).2) hdj
      refine ⟨u, ?_, hst j u hji (by cases hki : kill j i with | false => rfl | true => exact absurd rfl (hset i (hkj i hki)).1) hu2⟩
      cases hod : o.dst with
      | none => exact hu1
      | some d' =>
        have hne : d' ≠ d := fun e => hdst j i oj o d hj ho hji hdj (by rw [hod, e])
        simp [Act.put, hne, hu1]
  · rw [Array.getD_eq_getD_getElem?, Array.getElem?_replicate] at hl
    split at hl <;> simp at hl
  · rw [Array.getD_eq_getD_getElem?, Array.getElem?_replicate] at hl
    split at hl <;> simp at hl
  · unfold unl
    exact Nat.le_trans List.countP_le_length (by simp)

theorem getD_any {l : Array Bool} {k : Nat} (h : k < l.size) (x y : Bool) : l.getD k x = l.getD k y := by
  simp [Array.getD, h]
/-- Whether operation k must wait for operation i. -/
def ancB (ops : Array Oper) : Nat → Nat → Nat → Bool
  | 0, i, k => i == k
  | f + 1, i, k => i == k || match ops[k]? with
    | some o => o.after.any fun e => Region.binds .any e && ancB ops f i e.on
    | none => false
theorem ancB_listed {ops : Array Oper} {listed : Array Bool} (hcl : ∀ (j : Nat) (o : Oper), ops[j]? = some o → listed.getD j false = true → ∀ e ∈ o.after, Region.binds .any e = true → listed.getD e.on false = true) :
    ∀ (f i k : Nat), ancB ops f i k = true → listed.getD k false = true → listed.getD i false = true := by
  intro f
  induction f with
  | zero => intro i k h hk; simp [ancB] at h; subst h; exact hk
  | succ f ih =>
    intro i k h hk
    rw [ancB, Bool.or_eq_true] at h
    rcases h with h | h
    · simp at h; subst h; exact hk
    · cases ho : ops[k]? with
      | none => rw [ho] at h; cases h
      | some o =>
        rw [ho] at h
        obtain ⟨e, he, hb⟩ := Array.any_eq_true'.1 h
        rw [Bool.and_eq_true] at hb
        exact ih i e.on hb.2 (hcl k o ho hk e he hb.1)

/-- What an operation ahead of the store may lean on. -/
def DepsA (ops : Array Oper) (kill : Nat → Nat → Bool) (R : Nat → Value → World → Prop) (i : Nat) (o : Oper) (a : Act) (w : World) : Prop :=
  ∀ e ∈ o.after, Region.binds .any e = true → (∀ j, kill e.on j = true → ancB ops 12 i j = true) → ∀ (oe : Oper) (d : Tmp), ops[e.on]? = some oe → oe.dst = some d → ∃ v, a.tmps[d]? = some v ∧ R e.on v w
/-- An operation ahead of the region's store. -/
def ObA (P : Program) (ops : Array Oper) (n : Nat) (ds : List Deferred) (fixed : List (Tmp × Value)) (kill : Nat → Nat → Bool) (A : World → Prop) (R : Nat → Value → World → Prop) (Q : Exit → Act → World → Prop) (i : Nat) : Prop :=
  ∀ o, ops[i]? = some o → ∀ a w, A w → FS n ds fixed a → DepsA ops kill R i o a w → ∀ K : Act → World → Prop, (∀ v w', R i v w' → A w' → (∀ j u, j ≠ i → kill j i = false → R j u w → R j u w') → K (a.put o.dst v) w') →
    if Region.wanted o (yielded ops a.tmps) = true then o.wp P a w K Q else K (a.put o.dst undef) w
/-- The region's store. -/
def ObB (P : Program) (ops : Array Oper) (n : Nat) (ds : List Deferred) (fixed : List (Tmp × Value)) (kill : Nat → Nat → Bool) (A B : World → Prop) (R : Nat → Value → World → Prop) (Q : Exit → Act → World → Prop) (k : Nat) : Prop :=
  ∀ o, ops[k]? = some o → ∀ a w, A w → FS n ds fixed a → DepsA ops kill R k o a w → ∀ K : Act → World → Prop, (∀ v w', B w' → K (a.put o.dst v) w') →
    if Region.wanted o (yielded ops a.tmps) = true then o.wp P a w K Q else K (a.put o.dst undef) w
/-- A drawn region that ends in its one store. -/
theorem wp_region_store {P : Program} {id n : Nat} {ops : Array Oper} {Q : Exit → Act → World → Prop} {a : Act} {w : World} {ds : List Deferred} {fixed : List (Tmp × Value)} (kill : Nat → Nat → Bool) (A B : World → Prop) (R : Nat → Value → World → Prop) (k : Nat) (hm : P.follows .mixedOrders = true)
    (hck : checksB ops n (fixed.map (·.1)) = true) (hanc : (List.range k).all (fun i => ancB ops 12 i k) = true) (hk : (ops[k]?).map (·.dst) = some none) (hsz : ops.size = k + 1) (hkb : ∀ i j, kill i j = true → j < ops.size) (hf : FS n ds fixed a) (hc : A w.drew)
    (hob : ∀ i, i < k → ObA P ops n ds fixed kill A R Q i)
    (hobk : ObB P ops n ds fixed kill A B R Q k)
    (hend : ∀ a w, B w → FS n ds fixed a → Q .normal a w) : (Code.region id ops true).wp P Q a w := by
  refine wp_region_kill (n := n) (ds := ds) (fixed := fixed) (kill := fun i j => kill i j || j == k) (C := fun listed w => if listed.getD k true = true then B w else A w) (R := R) hm hck hf ?_ (fun i o ho => ?_) ?_
  · rw [if_neg (by rw [Array.getD_eq_getD_getElem?, Array.getElem?_replicate, if_pos (by omega)]; simp)]
    exact hc
  · intro listed a w hC hsl hl hcl hfs hd K hK
    have hi : i < ops.size := (Array.getElem?_eq_some_iff.1 ho).1
    have hlk : listed.getD k true = false := by
      cases h : listed.getD k true with
      | false => rfl
      | true =>
        exfalso
        have hik : i < k := by
          have : i ≠ k := fun e => by subst e; rw [h] at hl; cases hl
          omega
        have h1 := List.all_eq_true.1 hanc i (List.mem_range.2 hik)
        have h2 : listed.getD k false = true := by rw [getD_any (by omega) false true]; exact h
        have h3 := ancB_listed hcl 12 i k h1 h2
        rw [getD_any (by omega) false true, hl] at h3
        cases h3
    have hA : A w := by rw [if_neg (by rw [hlk]; exact Bool.false_ne_true)] at hC; exact hC
    have hdA : DepsA ops kill R i o a w := fun e he hb hk' oe d hoe hde => hd e he hb (fun j hj => by
      rcases Bool.or_eq_true_iff.1 hj with h | h
      · cases hlj : listed.getD j true with
        | false => rfl
        | true =>
          by_cases hjs : j < ops.size
          · have h3 := ancB_listed hcl 12 i j (hk' j h) (by rw [getD_any (by omega) false true]; exact hlj)
            rw [getD_any (by omega) false true, hl] at h3
            cases h3
          · exact absurd (hkb e.on j h) hjs
      · rw [eq_of_beq h]; exact hlk) oe d hoe hde
    by_cases hik : i = k
    · subst hik
      have hdn : o.dst = none := by rw [ho] at hk; simpa using hk
      refine hobk o ho a w hA hfs hdA K fun v w' hB => hK v w' (fun d hd' => by rw [hdn] at hd'; cases hd') ?_ fun j u _ hj _ => ?_
      · show if (listed.setIfInBounds i true).getD i true = true then B w' else A w'
        rw [if_pos (by rw [Array.getD_eq_getD_getElem?, Array.getElem?_setIfInBounds, if_pos rfl, if_pos (by omega)]; rfl)]
        exact hB
      · exact absurd (show (kill j i || i == i) = false from hj) (by simp)
    · refine hob i (by omega) o ho a w hA hfs hdA K fun v w' hR hA' hst => hK v w' (fun _ _ => hR) ?_ fun j u hji hj hr => hst j u hji (by
        cases hkj : kill j i with
        | false => rfl
        | true => exact absurd (show (kill j i || i == k) = false from hj) (by rw [hkj]; simp)) hr
      show if (listed.setIfInBounds i true).getD k true = true then B w' else A w'
      rw [if_neg (by rw [Array.getD_eq_getD_getElem?, Array.getElem?_setIfInBounds, if_neg hik, ← Array.getD_eq_getD_getElem?, hlk]; exact Bool.false_ne_true)]
      exact hA'
  · intro listed a w hall hC hfs _
    have h2 := hall k (by omega)
    have hks : k < listed.size := by
      rcases Nat.lt_or_ge k listed.size with h | h
      · exact h
      · rw [Array.getD_eq_getD_getElem?, Array.getElem?_eq_none h] at h2; cases h2
    rw [if_pos (by rw [getD_any hks true false]; exact h2)] at hC
    exact hend a w hC hfs
end Go.Proofs.YtneinkpfhkojgaaGreatDoor
/-
  keep.Other, case 2: a span ahead of the list of categories.
-/
namespace Go.Proofs.YtneinkpfhkojgaaGreatDoor
open Go.RowKit ND

section
variable {P : Program} {o : Oper} {a : Act} {X : World} {K : Act → World → Prop} {Q : Exit → Act → World → Prop}
/-- append(v, u..): spans that lie somewhere behind an own row. -/
theorem ob_app_spans {T e : TypeId} {i0 : TypeInfo} (s x : Operand)
    (ho : o.op = .call { callee := .builtin .append, args := #[s, x], argTypes := #[T, T] }) (ht : P.underlying T = some (.slice e)) (hi : P.info? e = some i0) (hz : i0.zero = some (.agg #[.int .i64 0, .int .i64 0, .int .i64 0])) (h1 : i0.size = 3) (h2 : i0.bytes = 24)
    (base : Nat) (v u : Value) (L0 L : List Sp) (B : Nat) (hs : a.eval s = v) (hx : a.eval x = u) (hown : X.ownsRow base e 3 v L0.length (L0.flatMap spCells)) (hu : Spans X B u L) (hl : L0.length + L.length ≤ 1000000) (hb : base ≤ X.heap.size)
    (h : ∀ v' w', w'.ownsRow base e 3 v' (L0 ++ L).length ((L0 ++ L).flatMap spCells) → X.grownBy w' v.ownBlock → K (a.put o.dst v') w') : o.wp P a X K Q := by
  obtain ⟨A, c, rfl, hc1, hc2, hA, hcell⟩ := hu
  cases A with
  | none =>
    obtain rfl : c = 0 := hA rfl
    obtain rfl : L = [] := List.eq_nil_of_length_eq_zero (by omega)
    have hr := run_append_none (P := P) (ty := o.type) ht hi hown
    have h3 := h v X (by simpa using hown) (grown_refl X _)
    unfold Oper.wp execOp
    simp only [ho, resolve, invoke, builtin, Sem.run_bind, Sem.run_pure, Result.andThen_ok, List.map_toArray, List.map_cons, List.map_nil, hs, hx, List.length_nil, hr]
    exact h3
  | some ad =>
    refine wp_append_own X s x T ho base e i0 (.agg #[.int .i64 0, .int .i64 0, .int .i64 0]) 3 24 ht hi hz h1 h2 rfl (by omega) v L0.length _ hs hown ad L.length c (L.flatMap spCells) hx (flat_len3 L) ?_ ?_ (by unfold maxLen; omega) (by omega) hb ?_
    · refine spans_news fun i x hi => ?_
      obtain ⟨ad', e1, _, e2⟩ := hcell i x hi
      cases e1; exact e2
    · intro q hq
      obtain ⟨y, _, hy⟩ := List.mem_flatMap.1 hq
      simp only [spCells, List.mem_cons, List.not_mem_nil, or_false] at hy
      rcases hy with rfl | rfl | rfl <;> rfl
    · intro v' w' p q r
      exact h v' w' (by simpa using p) q
end
noncomputable abbrev opsO (k : Nat) : Array Oper := opsAt Tryz.f10 k
theorem run_span1 {w : World} {a : Act} {o : Oper} {d : Tmp} {x y z : Int} (ho : o.op = .buildSlice 23 1 #[(0, .tmp d)]) (hd : a.tmps[d]? = some (.agg #[.int .i64 x, .int .i64 y, .int .i64 z])) :
    (execOp a.eval o).run Tryz.prog w = .ok (.value (.slice (some ⟨w.heap.size, 0, none⟩) 1 1)) (w.alloc (.cells #[.int .i64 x, .int .i64 y, .int .i64 z] 42)) := by
  unfold execOp
  rw [ho]
  go_simp
end Go.Proofs.YtneinkpfhkojgaaGreatDoor
/-
  Drawn regions that append and end in a store: what is said of slots that lie in memory.
-/
namespace Go.Proofs.YtneinkpfhkojgaaGreatDoor
open Go.RowKit ND

/-- A literal of integers in a block of its own above xb. -/
def LitI (xb : Nat) (xs : List Int) (v : Value) (w : World) : Prop := ∃ k, v = .slice (some ⟨k, 0, none⟩) xs.length xs.length ∧ Blk w k 3 (xs.map (Value.int .i64)).toArray ∧ xb < k
/-- A literal of mappings, likewise. -/
def LitM (xb : Nat) (F : List Mp) (v : Value) (w : World) : Prop := ∃ (k : Nat) (us : List (Int × Value)), v = .slice (some ⟨k, 0, none⟩) F.length F.length ∧ Blk w k 49 (mpCells us).toArray ∧ xb < k ∧ us.map (·.1) = F.map (·.1) ∧ ∀ (i : Nat) (p : Int × Value) (d : Mp), us[i]? = some p → F[i]? = some d → LitI xb d.2 p.2 w
/-- What is said of a slot. -/
inductive SpecM where
  | val (v : Value)
  | spans (L : List Sp)
  | maps (D : List Mp)
  | lit (xs : List Int)
  | pair (f : Int) (xs : List Int)
  | pairs (F : List Mp)
  | cellI (x : Int)
def SpecM.ok (xb : Nat) : SpecM → Value → World → Prop
  | .val u, v, _ => v = u
  | .spans L, v, w => w.ownsRow (xb + 1) 42 3 v L.length (L.flatMap spCells)
  | .maps D, v, w => OwnM [xb] w (xb + 1) v D
  | .lit xs, v, w => LitI xb xs v w
  | .pair f xs, v, w => ∃ u, v = .agg #[.int .i64 f, u] ∧ LitI xb xs u w
  | .pairs F, v, w => LitM xb F v w
  | .cellI x, v, w => ∃ (k i : Nat) (cs : Array Value), v = .pointer (some ⟨k, i, none⟩) ∧ Blk w k 3 cs ∧ cs[i]? = some (.int .i64 x) ∧ xb < k
def SpecM.isVal : SpecM → Bool
  | .val _ => true
  | _ => false
def RM (xb : Nat) (specs : List SpecM) (i : Nat) (v : Value) (w : World) : Prop := ∀ s, specs[i]? = some s → s.ok xb v w
/-- The append consumes what lies in memory. -/
def killM (specs : List SpecM) (kA i j : Nat) : Bool := j == kA && i != kA && match specs[i]? with | some s => !s.isVal | none => false

theorem LitI.later {xb : Nat} {xs : List Int} {v : Value} {w w' : World} (h : LitI xb xs v w) (hb : Below w.heap.size w w') : LitI xb xs v w' := by
  obtain ⟨k, e, hk, hx⟩ := h
  exact ⟨k, e, hk.later hb, hx⟩
theorem LitM.later {xb : Nat} {F : List Mp} {v : Value} {w w' : World} (h : LitM xb F v w) (hb : Below w.heap.size w w') : LitM xb F v w' := by
  obtain ⟨k, us, e, hk, hx, hm, hr⟩ := h
  exact ⟨k, us, e, hk.later hb, hx, hm, fun i p d hp hd => (hr i p d hp hd).later hb⟩
theorem SpecM.later {xb : Nat} {s : SpecM} {v : Value} {w w' : World} (h : s.ok xb v w) (hb : Below w.heap.size w w') : s.ok xb v w' := by
  cases s with
  | val u => exact h
  | spans L => exact own_later h hb
  | maps D => exact OwnM.later h hb (by simp)
  | lit xs => exact LitI.later h hb
  | pair f xs => obtain ⟨u, e, h⟩ := h; exact ⟨u, e, h.later hb⟩
  | pairs F => exact LitM.later h hb
  | cellI x => obtain ⟨k, i, cs, e, hk, hx⟩ := h; exact ⟨k, i, cs, e, hk.later hb, hx⟩
theorem RM.later {xb : Nat} {specs : List SpecM} {i : Nat} {v : Value} {w w' : World} (h : RM xb specs i v w) (hb : Below w.heap.size w w') : RM xb specs i v w' := fun s hs => SpecM.later (h s hs) hb
theorem rm_kept {xb : Nat} {specs : List SpecM} {kA j : Nat} {u : Value} {w w' : World} (hne : j ≠ kA) (h : killM specs kA j kA = false) (hr : RM xb specs j u w) : RM xb specs j u w' := fun s hs => by
  have h1 := hr s hs
  unfold killM at h
  rw [hs] at h
  cases s <;> first | exact h1 | simp [SpecM.isVal, hne] at h
theorem rm_of {xb : Nat} {specs : List SpecM} {i : Nat} {v : Value} {w : World} {s : SpecM} (hs : specs[i]? = some s) (h : s.ok xb v w) : RM xb specs i v w := fun s' hs' => by
  rw [hs] at hs'; cases hs'; exact h
theorem kill_lt {specs : List SpecM} {kA i j n : Nat} (h : killM specs kA i j = true) (hn : kA < n) : j < n := by
  unfold killM at h
  rw [Bool.and_eq_true, Bool.and_eq_true, beq_iff_eq] at h
  omega

theorem dep_m {ops : Array Oper} {specs : List SpecM} {xb kA i : Nat} {o : Oper} {a : Act} {w : World} (ho : ops[i]? = some o) (hd : DepsA ops (killM specs kA) (RM xb specs) i o a w) (j : Nat) (d : Tmp) (s : SpecM)
    (h1 : ((ops[i]?).map fun o => o.after.any fun e => Region.binds .any e && e.on == j) = some true) (h2 : ((ops[j]?).map (·.dst)) = some (some d)) (h3 : specs[j]? = some s) (h4 : (s.isVal || ancB ops 12 i kA || j == kA) = true) : ∃ v, a.tmps[d]? = some v ∧ s.ok xb v w := by
  have h5 := get_op (fun o => o.after.any fun e => Region.binds .any e && e.on == j) ho h1
  obtain ⟨e, he, hb⟩ := Array.any_eq_true'.1 h5
  rw [Bool.and_eq_true, beq_iff_eq] at hb
  cases hj : ops[j]? with
  | none => rw [hj] at h2; cases h2
  | some oj =>
    rw [hj] at h2
    obtain ⟨v, hv, hr⟩ := hd e he hb.1 (fun j' hk => by
      unfold killM at hk
      rw [hb.2, h3, Bool.and_eq_true, Bool.and_eq_true, beq_iff_eq] at hk
      rw [hk.1.1]
      rcases Bool.or_eq_true_iff.1 h4 with h | h
      · rcases Bool.or_eq_true_iff.1 h with h | h
        · have h6 := hk.2
          simp only [h] at h6
          cases h6
        · exact h
      · have h6 := hk.1.2
        rw [eq_of_beq h] at h6
        simp at h6) oj d (by rw [hb.2, hj]) (by simpa using h2)
    exact ⟨v, hv, hr s (by rw [hb.2]; exact h3)⟩

section
variable {P : Program} {ops : Array Oper} {o : Oper} {a : Act} {X : World} {K : Act → World → Prop} {Q : Exit → Act → World → Prop}
theorem ob_run {v : Value} {w' : World} (hr : (execOp a.eval o).run P X = .ok (.value v) w') (h : K (a.put o.dst v) w') : o.wp P a X K Q := by
  unfold Oper.wp
  rw [hr]
  exact h
theorem ob_skip {w' : World} (hr : (execOp a.eval o).run P X = .ok .skip w') (h : K (a.put o.dst undef) w') : o.wp P a X K Q := by
  unfold Oper.wp
  rw [hr]
  exact h
end
end Go.Proofs.YtneinkpfhkojgaaGreatDoor
