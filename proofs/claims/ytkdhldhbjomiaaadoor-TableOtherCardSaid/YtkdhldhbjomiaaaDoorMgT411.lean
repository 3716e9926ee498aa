/-
  Merged texts: lemmas and walks that the last text of this claim leans on.
-/
import Derived.Test.YtkdhldhbjomiaaaDoorMgT410
import Derived.Test.YtkdhldhbjomiaaaDoorMgT49
import Derived.Test.YtkdhldhbjomiaaaDoorMgT42
import Derived.Shelf.Abstract
/-
  keep.Other: what stands behind the switch, out of the list that a way through it has put in place.
-/
namespace Go.Proofs.YtkdhldhbjomiaaaDoor
open Go.RowKit ND

theorem lit_at {l : List Int} {j : Nat} {x : Int} (h : l[j]? = some x) : (l.map (Value.int .i64)).toArray[j]? = some (.int .i64 x) := by
  rw [List.getElem?_toArray, List.getElem?_map, h]; rfl
theorem oth_below {W w5 X w6 : World} {xb : Nat} {S : List Nat} {v5 : Value} {D : List Mp} (hg5 : W.grownBy w5 none) (hsz : xb + 1 ≤ W.heap.size) (ho5 : OwnM S w5 (xb + 1) v5 D) (hX : Below w5.heap.size w5 X) (hg6 : X.grownBy w6 v5.ownBlock) : Below (xb + 1) W w6 := by
  have h1 : Below (xb + 1) W w5 := (Below.refl _ _).grown hg5 hsz (fun k hk => by cases hk)
  have h2 : Below (xb + 1) W X := h1.trans (hX.mono (Nat.le_trans hsz hg5.size))
  obtain ⟨ps, _, _, ho, _⟩ := ho5
  exact h2.grown hg6 (Nat.le_trans (Nat.le_trans hsz hg5.size) hX.size) (fun k hk => (ho.lt k hk).1)

theorem oth_below2 {W w5 X w6 : World} {xb : Nat} {v5 : Value} (hg5 : W.grownBy w5 none) (hsz : xb + 1 ≤ W.heap.size) (ho5 : ∀ q, v5.ownBlock = some q → xb + 1 ≤ q) (hX : Below w5.heap.size w5 X) (hg6 : X.grownBy w6 v5.ownBlock) : Below (xb + 1) W w6 := by
  have h1 : Below (xb + 1) W w5 := (Below.refl _ _).grown hg5 hsz (fun k hk => by cases hk)
  have h2 : Below (xb + 1) W X := h1.trans (hX.mono (Nat.le_trans hsz hg5.size))
  exact h2.grown hg6 (Nat.le_trans (Nat.le_trans hsz hg5.size) hX.size) (fun k hk => ho5 k hk)
section
variable {P : Program} {ops : Array Oper} {rest : List Oper} {o : Oper} {a : Act} {X : World} {Q : Exit → Act → World → Prop} {T e : TypeId} {i0 : TypeInfo}
theorem wpList_copy_spans (hgd : o.guard = none) (s x : Operand)
    (ho : o.op = .call { callee := .builtin .append, args := #[s, x], argTypes := #[T, T] }) (ht : P.underlying T = some (.slice e)) (hi : P.info? e = some i0) (hz : i0.zero = some (.agg #[.int .i64 0, .int .i64 0, .int .i64 0])) (h1 : i0.size = 3) (h2 : i0.bytes = 24)
    (R : World) (u : Value) (L : List Sp) (B : Nat) (hs : a.eval s = .slice none 0 0) (hx : a.eval x = u) (hu : Spans X B u L) (hl : L.length ≤ 1000000) (hb : R.heap.size ≤ X.heap.size)
    (h : ∀ v' w', w'.ownsRow R.heap.size e 3 v' L.length (L.flatMap spCells) → X.grownBy w' none → wpList P ops Q rest (a.put o.dst v') w') : wpList P ops Q (o :: rest) a X :=
  wpList_step fun _ hK => step_app_nil hgd s x ho ht hi hz h1 h2 R u L B hs hx hu hl hb fun v' w' p q => hK _ _ (h v' w' p q)
theorem wpList_app_span (hgd : o.guard = none) (s x : Operand)
    (ho : o.op = .call { callee := .builtin .append, args := #[s, x], argTypes := #[T, T] }) (ht : P.underlying T = some (.slice e)) (hi : P.info? e = some i0) (hz : i0.zero = some (.agg #[.int .i64 0, .int .i64 0, .int .i64 0])) (h1 : i0.size = 3) (h2 : i0.bytes = 24)
    (R : World) (v : Value) (k : Nat) (L : List Sp) (f t u : Int) (hs : a.eval s = v) (hx : a.eval x = .slice (some ⟨k, 0, none⟩) 1 1) (hown : X.ownsRow R.heap.size e 3 v L.length (L.flatMap spCells)) (hk : Blk X k e #[.int .i64 f, .int .i64 t, .int .i64 u]) (hl : L.length ≤ 1000000) (hb : R.heap.size ≤ X.heap.size)
    (h : ∀ v' w', w'.ownsRow R.heap.size e 3 v' (L ++ [(f, t, u)]).length ((L ++ [(f, t, u)]).flatMap spCells) → X.grownBy w' v.ownBlock → wpList P ops Q rest (a.put o.dst v') w') : wpList P ops Q (o :: rest) a X :=
  wpList_step fun _ hK => step_app_one hgd s x ho ht hi hz h1 h2 R v k L f t u hs hx hown hk hl hb fun v' w' p q => hK _ _ (h v' w' p q)
end

/-- No list is longer than n. -/
structure ShortT (n : Nat) (T : Tab) : Prop where
  c0 : T.category.length ≤ n
  c1 : T.cls.length ≤ n
  c2 : T.joining.length ≤ n
  c3 : T.bidi.length ≤ n
  c4 : T.script.length ≤ n
  c5 : T.status.length ≤ n
  c6 : T.ignorable.length ≤ n
  c7 : T.extensions.length ≤ n
  c8 : T.maps.length ≤ n
  c9 : T.decomps.length ≤ n
  c10 : T.excluded.length ≤ n
  c11 : T.prototypes.length ≤ n
theorem ShortT.more {n m : Nat} {T : Tab} (h : ShortT n T) (hm : n ≤ m) : ShortT m T :=
  ⟨Nat.le_trans h.c0 hm, Nat.le_trans h.c1 hm, Nat.le_trans h.c2 hm, Nat.le_trans h.c3 hm, Nat.le_trans h.c4 hm, Nat.le_trans h.c5 hm, Nat.le_trans h.c6 hm, Nat.le_trans h.c7 hm, Nat.le_trans h.c8 hm, Nat.le_trans h.c9 hm, Nat.le_trans h.c10 hm, Nat.le_trans h.c11 hm⟩
/-- What stands behind the switch. -/
def OthR (w0 : World) (xb rb n : Nat) (wx : World) : Prop := ∃ (t' : Tv) (T' : Tab), Blk wx xb 26 #[t'.c0, t'.c1, t'.c2, t'.c3, t'.c4, t'.c5, t'.c6, t'.c7, t'.c8, t'.c9, t'.c10, t'.c11] ∧ TabR wx wx.heap.size t' T' ∧ ShortT (n + 2) T' ∧ Below w0.heap.size w0 wx ∧ Blk wx rb 26 #[.slice none 0 0, .slice none 0 0, .slice none 0 0, .slice none 0 0, .slice none 0 0, .slice none 0 0, .slice none 0 0, .slice none 0 0, .slice none 0 0, .slice none 0 0, .slice none 0 0, .slice none 0 0]
section
variable {w0 w6 : World} {xb rb n base : Nat} {t : Tv} {T : Tab} {v6 : Value}
theorem oth_same (ht : TabR w0 w0.heap.size t T) (hn : ShortT n T) (hb : Below w0.heap.size w0 w6) (hX : Blk w6 xb 26 #[t.c0, t.c1, t.c2, t.c3, t.c4, t.c5, t.c6, t.c7, t.c8, t.c9, t.c10, t.c11]) (hR : Blk w6 rb 26 #[.slice none 0 0, .slice none 0 0, .slice none 0 0, .slice none 0 0, .slice none 0 0, .slice none 0 0, .slice none 0 0, .slice none 0 0, .slice none 0 0, .slice none 0 0, .slice none 0 0, .slice none 0 0]) : OthR w0 xb rb n w6 :=
  ⟨t, T, hX, (ht.below hb).more hb.size, hn.more (by omega), hb, hR⟩
theorem oth7 {D' : List Mp} (ht : TabR w0 w0.heap.size t T) (hn : ShortT n T) (hD : D'.length ≤ n + 2) (hb : Below w0.heap.size w0 w6) (hx : w0.heap.size ≤ xb) (hX : Blk w6 xb 26 #[t.c0, t.c1, t.c2, t.c3, t.c4, t.c5, t.c6, t.c7, t.c8, t.c9, t.c10, t.c11]) (hR : Blk w6 rb 26 #[.slice none 0 0, .slice none 0 0, .slice none 0 0, .slice none 0 0, .slice none 0 0, .slice none 0 0, .slice none 0 0, .slice none 0 0, .slice none 0 0, .slice none 0 0, .slice none 0 0, .slice none 0 0]) (hne : rb ≠ xb) (hM : OwnM [xb] w6 base v6 D') (hbase : xb < base) :
    OthR w0 xb rb n (w6.setCell ⟨xb, 7, none⟩ v6) := by
  have hb' : Below w0.heap.size w0 (w6.setCell ⟨xb, 7, none⟩ v6) := hb.setCell (p := ⟨xb, 7, none⟩) hx _
  have ht' := (ht.below hb').more hb'.size
  have hset : onlyIn [xb] w6 (w6.setCell ⟨xb, 7, none⟩ v6) := onlyIn.of_grown (grown_setCell (grown_refl w6 (some xb)) 7 v6) (by simp)
  have hM' := (hM.kept hset fun q hq hx => by
    obtain ⟨ps, _, _, ho, _⟩ := hM
    have := (ho.lt q hq).1
    simp at hx; omega).mapps (by intro q hq; simp at hq; omega)
  rw [veil_size] at hM'
  exact ⟨{ t with c7 := v6 }, { T with extensions := D' }, by simpa using hX.put 7 v6, { ht' with r7 := hM'.unveil }, { hn.more (Nat.le_add_right n 2) with c7 := hD }, hb', hR.far (by simpa using hne) _⟩
theorem oth8 {D' : List Mp} (ht : TabR w0 w0.heap.size t T) (hn : ShortT n T) (hD : D'.length ≤ n + 2) (hb : Below w0.heap.size w0 w6) (hx : w0.heap.size ≤ xb) (hX : Blk w6 xb 26 #[t.c0, t.c1, t.c2, t.c3, t.c4, t.c5, t.c6, t.c7, t.c8, t.c9, t.c10, t.c11]) (hR : Blk w6 rb 26 #[.slice none 0 0, .slice none 0 0, .slice none 0 0, .slice none 0 0, .slice none 0 0, .slice none 0 0, .slice none 0 0, .slice none 0 0, .slice none 0 0, .slice none 0 0, .slice none 0 0, .slice none 0 0]) (hne : rb ≠ xb) (hM : OwnM [xb] w6 base v6 D') (hbase : xb < base) :
    OthR w0 xb rb n (w6.setCell ⟨xb, 8, none⟩ v6) := by
  have hb' : Below w0.heap.size w0 (w6.setCell ⟨xb, 8, none⟩ v6) := hb.setCell (p := ⟨xb, 8, none⟩) hx _
  have ht' := (ht.below hb').more hb'.size
  have hset : onlyIn [xb] w6 (w6.setCell ⟨xb, 8, none⟩ v6) := onlyIn.of_grown (grown_setCell (grown_refl w6 (some xb)) 8 v6) (by simp)
  have hM' := (hM.kept hset fun q hq hx => by
    obtain ⟨ps, _, _, ho, _⟩ := hM
    have := (ho.lt q hq).1
    simp at hx; omega).mapps (by intro q hq; simp at hq; omega)
  rw [veil_size] at hM'
  exact ⟨{ t with c8 := v6 }, { T with maps := D' }, by simpa using hX.put 8 v6, { ht' with r8 := hM'.unveil }, { hn.more (Nat.le_add_right n 2) with c8 := hD }, hb', hR.far (by simpa using hne) _⟩
theorem oth9 {D' : List Mp} (ht : TabR w0 w0.heap.size t T) (hn : ShortT n T) (hD : D'.length ≤ n + 2) (hb : Below w0.heap.size w0 w6) (hx : w0.heap.size ≤ xb) (hX : Blk w6 xb 26 #[t.c0, t.c1, t.c2, t.c3, t.c4, t.c5, t.c6, t.c7, t.c8, t.c9, t.c10, t.c11]) (hR : Blk w6 rb 26 #[.slice none 0 0, .slice none 0 0, .slice none 0 0, .slice none 0 0, .slice none 0 0, .slice none 0 0, .slice none 0 0, .slice none 0 0, .slice none 0 0, .slice none 0 0, .slice none 0 0, .slice none 0 0]) (hne : rb ≠ xb) (hM : OwnM [xb] w6 base v6 D') (hbase : xb < base) :
    OthR w0 xb rb n (w6.setCell ⟨xb, 9, none⟩ v6) := by
  have hb' : Below w0.heap.size w0 (w6.setCell ⟨xb, 9, none⟩ v6) := hb.setCell (p := ⟨xb, 9, none⟩) hx _
  have ht' := (ht.below hb').more hb'.size
  have hset : onlyIn [xb] w6 (w6.setCell ⟨xb, 9, none⟩ v6) := onlyIn.of_grown (grown_setCell (grown_refl w6 (some xb)) 9 v6) (by simp)
  have hM' := (hM.kept hset fun q hq hx => by
    obtain ⟨ps, _, _, ho, _⟩ := hM
    have := (ho.lt q hq).1
    simp at hx; omega).mapps (by intro q hq; simp at hq; omega)
  rw [veil_size] at hM'
  exact ⟨{ t with c9 := v6 }, { T with decomps := D' }, by simpa using hX.put 9 v6, { ht' with r9 := hM'.unveil }, { hn.more (Nat.le_add_right n 2) with c9 := hD }, hb', hR.far (by simpa using hne) _⟩
theorem oth11 {D' : List Mp} (ht : TabR w0 w0.heap.size t T) (hn : ShortT n T) (hD : D'.length ≤ n + 2) (hb : Below w0.heap.size w0 w6) (hx : w0.heap.size ≤ xb) (hX : Blk w6 xb 26 #[t.c0, t.c1, t.c2, t.c3, t.c4, t.c5, t.c6, t.c7, t.c8, t.c9, t.c10, t.c11]) (hR : Blk w6 rb 26 #[.slice none 0 0, .slice none 0 0, .slice none 0 0, .slice none 0 0, .slice none 0 0, .slice none 0 0, .slice none 0 0, .slice none 0 0, .slice none 0 0, .slice none 0 0, .slice none 0 0, .slice none 0 0]) (hne : rb ≠ xb) (hM : OwnM [xb] w6 base v6 D') (hbase : xb < base) :
    OthR w0 xb rb n (w6.setCell ⟨xb, 11, none⟩ v6) := by
  have hb' : Below w0.heap.size w0 (w6.setCell ⟨xb, 11, none⟩ v6) := hb.setCell (p := ⟨xb, 11, none⟩) hx _
  have ht' := (ht.below hb').more hb'.size
  have hset : onlyIn [xb] w6 (w6.setCell ⟨xb, 11, none⟩ v6) := onlyIn.of_grown (grown_setCell (grown_refl w6 (some xb)) 11 v6) (by simp)
  have hM' := (hM.kept hset fun q hq hx => by
    obtain ⟨ps, _, _, ho, _⟩ := hM
    have := (ho.lt q hq).1
    simp at hx; omega).mapps (by intro q hq; simp at hq; omega)
  rw [veil_size] at hM'
  exact ⟨{ t with c11 := v6 }, { T with prototypes := D' }, by simpa using hX.put 11 v6, { ht' with r11 := hM'.unveil }, { hn.more (Nat.le_add_right n 2) with c11 := hD }, hb', hR.far (by simpa using hne) _⟩
theorem oth0 {D' : List Sp} (ht : TabR w0 w0.heap.size t T) (hn : ShortT n T) (hD : D'.length ≤ n + 2) (hb : Below w0.heap.size w0 w6) (hx : w0.heap.size ≤ xb) (hX : Blk w6 xb 26 #[t.c0, t.c1, t.c2, t.c3, t.c4, t.c5, t.c6, t.c7, t.c8, t.c9, t.c10, t.c11]) (hR : Blk w6 rb 26 #[.slice none 0 0, .slice none 0 0, .slice none 0 0, .slice none 0 0, .slice none 0 0, .slice none 0 0, .slice none 0 0, .slice none 0 0, .slice none 0 0, .slice none 0 0, .slice none 0 0, .slice none 0 0]) (hne : rb ≠ xb) (hM : w6.ownsRow base 64 3 v6 D'.length (D'.flatMap spCells)) (hbase : xb < base) :
    OthR w0 xb rb n (w6.setCell ⟨xb, 0, none⟩ v6) := by
  have hb' : Below w0.heap.size w0 (w6.setCell ⟨xb, 0, none⟩ v6) := hb.setCell (p := ⟨xb, 0, none⟩) hx _
  have ht' := (ht.below hb').more hb'.size
  have hM' := Spans.of_own (own_grown hM (grown_setCell (grown_refl w6 (some xb)) 0 v6) hbase)
  exact ⟨{ t with c0 := v6 }, { T with category := D' }, by simpa using hX.put 0 v6, { ht' with r0 := hM' }, { hn.more (Nat.le_add_right n 2) with c0 := hD }, hb', hR.far (by simpa using hne) _⟩
theorem oth1 {D' : List Sp} (ht : TabR w0 w0.heap.size t T) (hn : ShortT n T) (hD : D'.length ≤ n + 2) (hb : Below w0.heap.size w0 w6) (hx : w0.heap.size ≤ xb) (hX : Blk w6 xb 26 #[t.c0, t.c1, t.c2, t.c3, t.c4, t.c5, t.c6, t.c7, t.c8, t.c9, t.c10, t.c11]) (hR : Blk w6 rb 26 #[.slice none 0 0, .slice none 0 0, .slice none 0 0, .slice none 0 0, .slice none 0 0, .slice none 0 0, .slice none 0 0, .slice none 0 0, .slice none 0 0, .slice none 0 0, .slice none 0 0, .slice none 0 0]) (hne : rb ≠ xb) (hM : w6.ownsRow base 64 3 v6 D'.length (D'.flatMap spCells)) (hbase : xb < base) :
    OthR w0 xb rb n (w6.setCell ⟨xb, 1, none⟩ v6) := by
  have hb' : Below w0.heap.size w0 (w6.setCell ⟨xb, 1, none⟩ v6) := hb.setCell (p := ⟨xb, 1, none⟩) hx _
  have ht' := (ht.below hb').more hb'.size
  have hM' := Spans.of_own (own_grown hM (grown_setCell (grown_refl w6 (some xb)) 1 v6) hbase)
  exact ⟨{ t with c1 := v6 }, { T with cls := D' }, by simpa using hX.put 1 v6, { ht' with r1 := hM' }, { hn.more (Nat.le_add_right n 2) with c1 := hD }, hb', hR.far (by simpa using hne) _⟩
theorem oth2 {D' : List Sp} (ht : TabR w0 w0.heap.size t T) (hn : ShortT n T) (hD : D'.length ≤ n + 2) (hb : Below w0.heap.size w0 w6) (hx : w0.heap.size ≤ xb) (hX : Blk w6 xb 26 #[t.c0, t.c1, t.c2, t.c3, t.c4, t.c5, t.c6, t.c7, t.c8, t.c9, t.c10, t.c11]) (hR : Blk w6 rb 26 #[.slice none 0 0, .slice none 0 0, .slice none 0 0, .slice none 0 0, .slice none 0 0, .slice none 0 0, .slice none 0 0, .slice none 0 0, .slice none 0 0, .slice none 0 0, .slice none 0 0, .slice none 0 0]) (hne : rb ≠ xb) (hM : w6.ownsRow base 64 3 v6 D'.length (D'.flatMap spCells)) (hbase : xb < base) :
    OthR w0 xb rb n (w6.setCell ⟨xb, 2, none⟩ v6) := by
  have hb' : Below w0.heap.size w0 (w6.setCell ⟨xb, 2, none⟩ v6) := hb.setCell (p := ⟨xb, 2, none⟩) hx _
  have ht' := (ht.below hb').more hb'.size
  have hM' := Spans.of_own (own_grown hM (grown_setCell (grown_refl w6 (some xb)) 2 v6) hbase)
  exact ⟨{ t with c2 := v6 }, { T with joining := D' }, by simpa using hX.put 2 v6, { ht' with r2 := hM' }, { hn.more (Nat.le_add_right n 2) with c2 := hD }, hb', hR.far (by simpa using hne) _⟩
theorem oth5 {D' : List Sp} (ht : TabR w0 w0.heap.size t T) (hn : ShortT n T) (hD : D'.length ≤ n + 2) (hb : Below w0.heap.size w0 w6) (hx : w0.heap.size ≤ xb) (hX : Blk w6 xb 26 #[t.c0, t.c1, t.c2, t.c3, t.c4, t.c5, t.c6, t.c7, t.c8, t.c9, t.c10, t.c11]) (hR : Blk w6 rb 26 #[.slice none 0 0, .slice none 0 0, .slice none 0 0, .slice none 0 0, .slice none 0 0, .slice none 0 0, .slice none 0 0, .slice none 0 0, .slice none 0 0, .slice none 0 0, .slice none 0 0, .slice none 0 0]) (hne : rb ≠ xb) (hM : w6.ownsRow base 64 3 v6 D'.length (D'.flatMap spCells)) (hbase : xb < base) :
    OthR w0 xb rb n (w6.setCell ⟨xb, 5, none⟩ v6) := by
  have hb' : Below w0.heap.size w0 (w6.setCell ⟨xb, 5, none⟩ v6) := hb.setCell (p := ⟨xb, 5, none⟩) hx _
  have ht' := (ht.below hb').more hb'.size
  have hM' := Spans.of_own (own_grown hM (grown_setCell (grown_refl w6 (some xb)) 5 v6) hbase)
  exact ⟨{ t with c5 := v6 }, { T with status := D' }, by simpa using hX.put 5 v6, { ht' with r5 := hM' }, { hn.more (Nat.le_add_right n 2) with c5 := hD }, hb', hR.far (by simpa using hne) _⟩
theorem oth10 {D' : List Int} (ht : TabR w0 w0.heap.size t T) (hn : ShortT n T) (hD : D'.length ≤ n + 2) (hb : Below w0.heap.size w0 w6) (hx : w0.heap.size ≤ xb) (hX : Blk w6 xb 26 #[t.c0, t.c1, t.c2, t.c3, t.c4, t.c5, t.c6, t.c7, t.c8, t.c9, t.c10, t.c11]) (hR : Blk w6 rb 26 #[.slice none 0 0, .slice none 0 0, .slice none 0 0, .slice none 0 0, .slice none 0 0, .slice none 0 0, .slice none 0 0, .slice none 0 0, .slice none 0 0, .slice none 0 0, .slice none 0 0, .slice none 0 0]) (hne : rb ≠ xb) (hM : w6.ownsRow base 3 1 v6 D'.length (D'.map (Value.int .i64))) (hbase : xb < base) :
    OthR w0 xb rb n (w6.setCell ⟨xb, 10, none⟩ v6) := by
  have hb' : Below w0.heap.size w0 (w6.setCell ⟨xb, 10, none⟩ v6) := hb.setCell (p := ⟨xb, 10, none⟩) hx _
  have ht' := (ht.below hb').more hb'.size
  have hM' := Ints.of_own (own_grown hM (grown_setCell (grown_refl w6 (some xb)) 10 v6) hbase)
  exact ⟨{ t with c10 := v6 }, { T with excluded := D' }, by simpa using hX.put 10 v6, { ht' with r10 := hM' }, { hn.more (Nat.le_add_right n 2) with c10 := hD }, hb', hR.far (by simpa using hne) _⟩
end
end Go.Proofs.YtkdhldhbjomiaaaDoor
/-
  A drawn region by what holds of each slot, where one operation may consume what holds of another's slot (an append its own row), and what holds of the world may turn with the operations done (a store).
-/
namespace Go.Proofs.YtkdhldhbjomiaaaDoor
open Go.RowKit ND

theorem wpAny_ind {P : Program} {md : Region.Mode} {ops : Array Oper} {Q : Exit → Act → World → Prop} {I : Array Bool → Act → World → Prop}
    (hsz : ∀ listed a w, I listed a w → listed.size = ops.size)
    (fin : ∀ listed a w, I listed a w → Region.ready md ops listed = [] → Q .normal a w)
    (step : ∀ listed a w, I listed a w → ∀ i, i ∈ Region.ready md ops listed → ∀ o, ops[i]? = some o → ∀ K : Act → World → Prop, (∀ a' w', I (listed.setIfInBounds i true) a' w' → K a' w') →
      if Region.wanted o (yielded ops a.tmps) = true then o.wp P a w K Q else K (a.put o.dst undef) w) :
    ∀ (fuel : Nat) (listed : Array Bool) (a : Act) (w : World), I listed a w → unl ops.size listed ≤ fuel → wpAny P md ops Q fuel listed a w := by
  intro fuel
  induction fuel with
  | zero =>
    intro listed a w h hu
    have hr : Region.ready md ops listed = [] := by
      refine List.eq_nil_iff_forall_not_mem.2 fun i hi => ?_
      obtain ⟨h1, h2, _⟩ := ready_spec hi
      have := unl_set h1 (by rw [hsz _ _ _ h]; exact h1) h2
      omega
    exact ⟨hr, fin _ _ _ h hr⟩
  | succ fuel ih =>
    intro listed a w h hu
    refine ⟨fin _ _ _ h, fun i hi => ?_⟩
    obtain ⟨h1, h2, o, ho, _⟩ := ready_spec hi
    have hs := unl_set h1 (by rw [hsz _ _ _ h]; exact h1) h2
    have h3 := step listed a w h i hi o ho (fun a' w' => wpAny P md ops Q fuel (listed.setIfInBounds i true) a' w') fun a' w' hI => ih _ _ _ hI (by omega)
    unfold wpOp
    rw [ho]
    simp only
    split
    · rename_i hw; rw [if_pos hw] at h3; exact .inl h3
    · rename_i hw; rw [if_neg hw] at h3; exact h3

/-- What an operation may lean on, where other operations may have consumed it. -/
def DepsK (ops : Array Oper) (kill : Nat → Nat → Bool) (R : Nat → Value → World → Prop) (listed : Array Bool) (o : Oper) (a : Act) (w : World) : Prop :=
  ∀ e ∈ o.after, Region.binds .any e = true → (∀ j, kill e.on j = true → listed.getD j true = false) → ∀ (oe : Oper) (d : Tmp), ops[e.on]? = some oe → oe.dst = some d → ∃ v, a.tmps[d]? = some v ∧ R e.on v w
/-- What holds in the midst of the region. -/
structure InvK (ops : Array Oper) (F : Act → Prop) (kill : Nat → Nat → Bool) (C : Array Bool → World → Prop) (R : Nat → Value → World → Prop) (listed : Array Bool) (a : Act) (w : World) : Prop where
  size : listed.size = ops.size
  c : C listed w
  f : F a
  closed : ∀ (j : Nat) (o : Oper), ops[j]? = some o → listed.getD j false = true → ∀ e ∈ o.after, Region.binds .any e = true → listed.getD e.on false = true
  r : ∀ (i : Nat) (o : Oper) (d : Tmp), ops[i]? = some o → listed.getD i false = true → (∀ j, kill i j = true → listed.getD j true = false) → o.dst = some d → ∃ v, a.tmps[d]? = some v ∧ R i v w
/-- The obligation of one operation. -/
def ObK (P : Program) (ops : Array Oper) (n : Nat) (ds : List Deferred) (fixed : List (Tmp × Value)) (kill : Nat → Nat → Bool) (C : Array Bool → World → Prop) (R : Nat → Value → World → Prop) (Q : Exit → Act → World → Prop) (i : Nat) (o : Oper) : Prop :=
  ∀ listed a w, C listed w → listed.size = ops.size → listed.getD i true = false → (∀ (j : Nat) (o : Oper), ops[j]? = some o → listed.getD j false = true → ∀ e ∈ o.after, Region.binds .any e = true → listed.getD e.on false = true) → FS n ds fixed a → DepsK ops kill R listed o a w → ∀ K : Act → World → Prop, (∀ v w', (∀ d, o.dst = some d → R i v w') → C (listed.setIfInBounds i true) w' → (∀ j u, j ≠ i → kill j i = false → R j u w → R j u w') → K (a.put o.dst v) w') →
    if Region.wanted o (yielded ops a.tmps) = true then o.wp P a w K Q else K (a.put o.dst undef) w

theorem wp_region_kill {P : Program} {id n : Nat} {ops : Array Oper} {Q : Exit → Act → World → Prop} {a : Act} {w : World} {ds : List Deferred} {fixed : List (Tmp × Value)} {kill : Nat → Nat → Bool} {C : Array Bool → World → Prop} {R : Nat → Value → World → Prop} (hm : P.follows .mixedOrders = true)
    (hck : checksB ops n (fixed.map (·.1)) = true) (hf : FS n ds fixed a) (hc : C (Array.replicate ops.size false) w.drew)
    (hob : ∀ (i : Nat) (o : Oper), ops[i]? = some o → ObK P ops n ds fixed kill C R Q i o)
    (hend : ∀ listed a w, (∀ i, i < ops.size → listed.getD i false = true) → C listed w → FS n ds fixed a → (∀ (i : Nat) (o : Oper) (d : Tmp), ops[i]? = some o → (∀ j, kill i j = false) → o.dst = some d → ∃ v, a.tmps[d]? = some v ∧ R i v w) → Q .normal a w) : (Code.region id ops true).wp P Q a w := by
  unfold checksB at hck
  rw [Bool.and_eq_true, Bool.and_eq_true, List.all_eq_true] at hck
  obtain ⟨⟨h1, h2⟩, h3⟩ := hck
  have hat : ∀ {i : Nat} {o : Oper}, ops[i]? = some o → ops.toList[i]? = some o := fun h => by simpa using h
  have hin : ∀ {i : Nat} {o : Oper} {d : Tmp}, ops[i]? = some o → o.dst = some d → d < n ∧ d ∉ fixed.map (·.1) := fun h hd => by
    have := h3 _ (List.mem_of_getElem? (hat h))
    rw [hd] at this
    simpa using this
  have hlow : ∀ (i : Nat) (o : Oper), ops[i]? = some o → ∀ e ∈ o.after, Region.binds .any e = true → e.on < i := fun i o ho e he _ => by
    have := lowB_at h1 (hat ho) e he
    omega
  have hdst : ∀ (i j : Nat) (o o' : Oper) (d : Tmp), ops[i]? = some o → ops[j]? = some o' → i ≠ j → o.dst = some d → o'.dst ≠ some d := fun i j o o' d hi hj hij hd hd' => by
    have hi' : (ops.toList.map (·.dst))[i]? = some (some d) := by rw [List.getElem?_map, hat hi]; simp [hd]
    have hj' : (ops.toList.map (·.dst))[j]? = some (some d) := by rw [List.getElem?_map, hat hj]; simp [hd']
    rcases Nat.lt_or_gt_of_ne hij with h | h
    · exact nodupB_at h2 h hi' hj'
    · exact nodupB_at h2 h hj' hi'
  have hF : ∀ (i : Nat) (o : Oper) (a : Act) (v : Value), ops[i]? = some o → FS n ds fixed a → FS n ds fixed (a.put o.dst v) := fun i o a v ho ⟨q1, q2, q3⟩ => by
    cases hd : o.dst with
    | none => exact ⟨q1, q2, q3⟩
    | some d =>
      obtain ⟨_, hn⟩ := hin ho hd
      refine ⟨by simpa [Act.put] using q1, q2, fun p hp => ?_⟩
      have hne : d ≠ p.1 := fun e => hn (e ▸ List.mem_map_of_mem hp)
      simp [Act.put, hne, q3 p hp]
  refine wp_region_any hm (wpAny_ind (I := InvK ops (FS n ds fixed) kill C R) (fun _ _ _ h => h.size) ?_ ?_ _ _ _ _ ⟨by simp, hc, hf, fun j o _ hl => ?_, fun i o d _ hl _ _ => ?_⟩ ?_)
  · intro listed a w h hr
    have hall := ready_nil h.size hlow hr
    refine hend listed a w hall h.c h.f fun i o d ho hk hd => h.r i o d ho (hall i (Array.getElem?_eq_some_iff.1 ho).1) (fun j hj => ?_) hd
    rw [hk j] at hj; cases hj
  · intro listed a w h i hi o ho K hK
    obtain ⟨g1, g2, o', ho', hdep⟩ := ready_spec hi
    rw [ho] at ho'; cases ho'
    refine hob i o ho listed a w h.c h.size g2 h.closed h.f (fun e he hb hk oe d hoe hd => h.r e.on oe d hoe (hdep e he hb) hk hd) K fun v w' hv hc' hst => hK _ _ ⟨by simpa using h.size, hc', hF i o a v ho h.f, fun j oj hj hlj e he hb => ?_, fun j oj d hj hlj hkj hdj => ?_⟩
    · have up : listed.getD e.on false = true → (listed.setIfInBounds i true).getD e.on false = true := fun hl => by
        rw [Array.getD_eq_getD_getElem?, Array.getElem?_setIfInBounds]
        split
        · split <;> simp_all
        · rw [← Array.getD_eq_getD_getElem?]; exact hl
      by_cases hji : j = i
      · subst hji
        rw [ho] at hj; cases hj
        exact up (hdep e he hb)
      · rw [Array.getD_eq_getD_getElem?, Array.getElem?_setIfInBounds, if_neg (Ne.symm hji)] at hlj
        exact up (h.closed j oj hj (by rw [Array.getD_eq_getD_getElem?]; exact hlj) e he hb)
    by_cases hji : j = i
    · subst hji
      rw [ho] at hj; cases hj
      refine ⟨v, ?_, hv d hdj⟩
      rw [hdj]
      simp [Act.put, h.f.1, (hin ho hdj).1]
    · have hlj' : listed.getD j false = true := by
        rw [Array.getD_eq_getD_getElem?, Array.getElem?_setIfInBounds, if_neg (Ne.symm hji)] at hlj
        rw [Array.getD_eq_getD_getElem?]; exact hlj
      have hset : ∀ m, (listed.setIfInBounds i true).getD m true = false → m ≠ i ∧ listed.getD m true = false := fun m hm => by
        rw [Array.getD_eq_getD_getElem?, Array.getElem?_setIfInBounds] at hm
        by_cases e : m = i
        · subst e
          simp [h.size, g1] at hm
        · rw [if_neg (Ne.symm e)] at hm
          exact ⟨e, by rw [Array.getD_eq_getD_getElem?]; exact hm⟩
      obtain ⟨u, hu1, hu2⟩ := h.r j oj d hj hlj' (fun m hm => (hset m (hkj m hm)).2) hdj
      refine ⟨u, ?_, hst j u hji (by cases hki : kill j i with | false => rfl | true => exact absurd rfl (hset i (hkj i hki)).1) hu2⟩
      cases hod : o.dst with
      | none => exact hu1
      | some d' =>
        have hne : d' ≠ d := fun e => hdst j i oj o d hj ho hji hdj (by rw [hod, e])
        simp [Act.put, hne, hu1]
  · rw [Array.getD_eq_getD_getElem?, Array.getElem?_replicate] at hl
    split at hl <;> simp at hl
  · rw [Array.getD_eq_getD_getElem?, Array.getElem?_replicate] at hl
    split at hl <;> simp at hl
  · unfold unl
    exact Nat.le_trans List.countP_le_length (by simp)

theorem getD_any {l : Array Bool} {k : Nat} (h : k < l.size) (x y : Bool) : l.getD k x = l.getD k y := by
  simp [Array.getD, h]
/-- Whether operation k must wait for operation i. -/
def ancB (ops : Array Oper) : Nat → Nat → Nat → Bool
  | 0, i, k => i == k
  | f + 1, i, k => i == k || match ops[k]? with
    | some o => o.after.any fun e => Region.binds .any e && ancB ops f i e.on
    | none => false
theorem ancB_listed {ops : Array Oper} {listed : Array Bool} (hcl : ∀ (j : Nat) (o : Oper), ops[j]? = some o → listed.getD j false = true → ∀ e ∈ o.after, Region.binds .any e = true → listed.getD e.on false = true) :
    ∀ (f i k : Nat), ancB ops f i k = true → listed.getD k false = true → listed.getD i false = true := by
  intro f
  induction f with
  | zero => intro i k h hk; simp [ancB] at h; subst h; exact hk
  | succ f ih =>
    intro i k h hk
    rw [ancB, Bool.or_eq_true] at h
    rcases h with h | h
    · simp at h; subst h; exact hk
    · cases ho : ops[k]? with
      | none => rw [ho] at h; cases h
      | some o =>
        rw [ho] at h
        obtain ⟨e, he, hb⟩ := Array.any_eq_true'.1 h
        rw [Bool.and_eq_true] at hb
        exact ih i e.on hb.2 (hcl k o ho hk e he hb.1)

/-- What an operation ahead of the store may lean on. -/
def DepsA (ops : Array Oper) (kill : Nat → Nat → Bool) (R : Nat → Value → World → Prop) (i : Nat) (o : Oper) (a : Act) (w : World) : Prop :=
  ∀ e ∈ o.after, Region.binds .any e = true → (∀ j, kill e.on j = true → ancB ops 12 i j = true) → ∀ (oe : Oper) (d : Tmp), ops[e.on]? = some oe → oe.dst = some d → ∃ v, a.tmps[d]? = some v ∧ R e.on v w
/-- An operation ahead of the region's store. -/
def ObA (P : Program) (ops : Array Oper) (n : Nat) (ds : List Deferred) (fixed : List (Tmp × Value)) (kill : Nat → Nat → Bool) (A : World → Prop) (R : Nat → Value → World → Prop) (Q : Exit → Act → World → Prop) (i : Nat) : Prop :=
  ∀ o, ops[i]? = some o → ∀ a w, A w → FS n ds fixed a → DepsA ops kill R i o a w → ∀ K : Act → World → Prop, (∀ v w', R i v w' → A w' → (∀ j u, j ≠ i → kill j i = false → R j u w → R j u w') → K (a.put o.dst v) w') →
    if Region.wanted o (yielded ops a.tmps) = true then o.wp P a w K Q else K (a.put o.dst undef) w
/-- The region's store. -/
def ObB (P : Program) (ops : Array Oper) (n : Nat) (ds : List Deferred) (fixed : List (Tmp × Value)) (kill : Nat → Nat → Bool) (A B : World → Prop) (R : Nat → Value → World → Prop) (Q : Exit → Act → World → Prop) (k : Nat) : Prop :=
  ∀ o, ops[k]? = some o → ∀ a w, A w → FS n ds fixed a → DepsA ops kill R k o a w → ∀ K : Act → World → Prop, (∀ v w', B w' → K (a.put o.dst v) w') →
    if Region.wanted o (yielded ops a.tmps) = true then o.wp P a w K Q else K (a.put o.dst undef) w
/-- A drawn region that ends in its one store. -/
theorem wp_region_store {P : Program} {id n : Nat} {ops : Array Oper} {Q : Exit → Act → World → Prop} {a : Act} {w : World} {ds : List Deferred} {fixed : List (Tmp × Value)} (kill : Nat → Nat → Bool) (A B : World → Prop) (R : Nat → Value → World → Prop) (k : Nat) (hm : P.follows .mixedOrders = true)
    (hck : checksB ops n (fixed.map (·.1)) = true) (hanc : (List.range k).all (fun i => ancB ops 12 i k) = true) (hk : (ops[k]?).map (·.dst) = some none) (hsz : ops.size = k + 1) (hkb : ∀ i j, kill i j = true → j < ops.size) (hf : FS n ds fixed a) (hc : A w.drew)
    (hob : ∀ i, i < k → ObA P ops n ds fixed kill A R Q i)
    (hobk : ObB P ops n ds fixed kill A B R Q k)
    (hend : ∀ a w, B w → FS n ds fixed a → Q .normal a w) : (Code.region id ops true).wp P Q a w := by
  refine wp_region_kill (n := n) (ds := ds) (fixed := fixed) (kill := fun i j => kill i j || j == k) (C := fun listed w => if listed.getD k true = true then B w else A w) (R := R) hm hck hf ?_ (fun i o ho => ?_) ?_
  · rw [if_neg (by rw [Array.getD_eq_getD_getElem?, Array.getElem?_replicate, if_pos (by omega)]; simp)]
    exact hc
  · intro listed a w hC hsl hl hcl hfs hd K hK
    have hi : i < ops.size := (Array.getElem?_eq_some_iff.1 ho).1
    have hlk : listed.getD k true = false := by
      cases h : listed.getD k true with
      | false => rfl
      | true =>
        exfalso
        have hik : i < k := by
          have : i ≠ k := fun e => by subst e; rw [h] at hl; cases hl
          omega
        have h1 := List.all_eq_true.1 hanc i (List.mem_range.2 hik)
        have h2 : listed.getD k false = true := by rw [getD_any (by omega) false true]; exact h
        have h3 := ancB_listed hcl 12 i k h1 h2
        rw [getD_any (by omega) false true, hl] at h3
        cases h3
    have hA : A w := by rw [if_neg (by rw [hlk]; exact Bool.false_ne_true)] at hC; exact hC
    have hdA : DepsA ops kill R i o a w := fun e he hb hk' oe d hoe hde => hd e he hb (fun j hj => by
      rcases Bool.or_eq_true_iff.1 hj with h | h
      · cases hlj : listed.getD j true with
        | false => rfl
        | true =>
          by_cases hjs : j < ops.size
          · have h3 := ancB_listed hcl 12 i j (hk' j h) (by rw [getD_any (by omega) false true]; exact hlj)
            rw [getD_any (by omega) false true, hl] at h3
            cases h3
          · exact absurd (hkb e.on j h) hjs
      · rw [eq_of_beq h]; exact hlk) oe d hoe hde
    by_cases hik : i = k
    · subst hik
      have hdn : o.dst = none := by rw [ho] at hk; simpa using hk
      refine hobk o ho a w hA hfs hdA K fun v w' hB => hK v w' (fun d hd' => by rw [hdn] at hd'; cases hd') ?_ fun j u _ hj _ => ?_
      · show if (listed.setIfInBounds i true).getD i true = true then B w' else A w'
        rw [if_pos (by rw [Array.getD_eq_getD_getElem?, Array.getElem?_setIfInBounds, if_pos rfl, if_pos (by omega)]; rfl)]
        exact hB
      · exact absurd (show (kill j i || i == i) = false from hj) (by simp)
    · refine hob i (by omega) o ho a w hA hfs hdA K fun v w' hR hA' hst => hK v w' (fun _ _ => hR) ?_ fun j u hji hj hr => hst j u hji (by
        cases hkj : kill j i with
        | false => rfl
        | true => exact absurd (show (kill j i || i == k) = false from hj) (by rw [hkj]; simp)) hr
      show if (listed.setIfInBounds i true).getD k true = true then B w' else A w'
      rw [if_neg (by rw [Array.getD_eq_getD_getElem?, Array.getElem?_setIfInBounds, if_neg hik, ← Array.getD_eq_getD_getElem?, hlk]; exact Bool.false_ne_true)]
      exact hA'
  · intro listed a w hall hC hfs _
    have h2 := hall k (by omega)
    have hks : k < listed.size := by
      rcases Nat.lt_or_ge k listed.size with h | h
      · exact h
      · rw [Array.getD_eq_getD_getElem?, Array.getElem?_eq_none h] at h2; cases h2
    rw [if_pos (by rw [getD_any hks true false]; exact h2)] at hC
    exact hend a w hC hfs
end Go.Proofs.YtkdhldhbjomiaaaDoor
/-
  keep.Other, case 2: a span ahead of the list of categories.
-/
namespace Go.Proofs.YtkdhldhbjomiaaaDoor
open Go.RowKit ND

section
variable {P : Program} {o : Oper} {a : Act} {X : World} {K : Act → World → Prop} {Q : Exit → Act → World → Prop}
/-- append(v, u..): spans that lie somewhere behind an own row. -/
theorem ob_app_spans {T e : TypeId} {i0 : TypeInfo} (s x : Operand)
    (ho : o.op = .call { callee := .builtin .append, args := #[s, x], argTypes := #[T, T] }) (ht : P.underlying T = some (.slice e)) (hi : P.info? e = some i0) (hz : i0.zero = some (.agg #[.int .i64 0, .int .i64 0, .int .i64 0])) (h1 : i0.size = 3) (h2 : i0.bytes = 24)
    (base : Nat) (v u : Value) (L0 L : List Sp) (B : Nat) (hs : a.eval s = v) (hx : a.eval x = u) (hown : X.ownsRow base e 3 v L0.length (L0.flatMap spCells)) (hu : Spans X B u L) (hl : L0.length + L.length ≤ 1000000) (hb : base ≤ X.heap.size)
    (h : ∀ v' w', w'.ownsRow base e 3 v' (L0 ++ L).length ((L0 ++ L).flatMap spCells) → X.grownBy w' v.ownBlock → K (a.put o.dst v') w') : o.wp P a X K Q := by
  obtain ⟨A, c, rfl, hc1, hc2, hA, hcell⟩ := hu
  cases A with
  | none =>
    obtain rfl : c = 0 := hA rfl
    obtain rfl : L = [] := List.eq_nil_of_length_eq_zero (by omega)
    have hr := run_append_none (P := P) (ty := o.type) ht hi hown
    have h3 := h v X (by simpa using hown) (grown_refl X _)
    unfold Oper.wp execOp
    simp only [ho, resolve, invoke, builtin, Sem.run_bind, Sem.run_pure, Result.andThen_ok, List.map_toArray, List.map_cons, List.map_nil, hs, hx, List.length_nil, hr]
    exact h3
  | some ad =>
    refine wp_append_own X s x T ho base e i0 (.agg #[.int .i64 0, .int .i64 0, .int .i64 0]) 3 24 ht hi hz h1 h2 rfl (by omega) v L0.length _ hs hown ad L.length c (L.flatMap spCells) hx (flat_len3 L) ?_ ?_ (by unfold maxLen; omega) (by omega) hb ?_
    · refine spans_news fun i x hi => ?_
      obtain ⟨ad', e1, _, e2⟩ := hcell i x hi
      cases e1; exact e2
    · intro q hq
      obtain ⟨y, _, hy⟩ := List.mem_flatMap.1 hq
      simp only [spCells, List.mem_cons, List.not_mem_nil, or_false] at hy
      rcases hy with rfl | rfl | rfl <;> rfl
    · intro v' w' p q r
      exact h v' w' (by simpa using p) q
end
noncomputable abbrev opsO (k : Nat) : Array Oper := opsAt Tryd.f14 k
theorem run_span1 {w : World} {a : Act} {o : Oper} {d : Tmp} {x y z : Int} (ho : o.op = .buildSlice 22 1 #[(0, .tmp d)]) (hd : a.tmps[d]? = some (.agg #[.int .i64 x, .int .i64 y, .int .i64 z])) :
    (execOp a.eval o).run Tryd.prog w = .ok (.value (.slice (some ⟨w.heap.size, 0, none⟩) 1 1)) (w.alloc (.cells #[.int .i64 x, .int .i64 y, .int .i64 z] 64)) := by
  unfold execOp
  rw [ho]
  go_simp
end Go.Proofs.YtkdhldhbjomiaaaDoor
/-
  Drawn regions that append and end in a store: what is said of slots that lie in memory.
-/
namespace Go.Proofs.YtkdhldhbjomiaaaDoor
open Go.RowKit ND

/-- A literal of integers in a block of its own above xb. -/
def LitI (xb : Nat) (xs : List Int) (v : Value) (w : World) : Prop := ∃ k, v = .slice (some ⟨k, 0, none⟩) xs.length xs.length ∧ Blk w k 3 (xs.map (Value.int .i64)).toArray ∧ xb < k
/-- A literal of mappings, likewise. -/
def LitM (xb : Nat) (F : List Mp) (v : Value) (w : World) : Prop := ∃ (k : Nat) (us : List (Int × Value)), v = .slice (some ⟨k, 0, none⟩) F.length F.length ∧ Blk w k 54 (mpCells us).toArray ∧ xb < k ∧ us.map (·.1) = F.map (·.1) ∧ ∀ (i : Nat) (p : Int × Value) (d : Mp), us[i]? = some p → F[i]? = some d → LitI xb d.2 p.2 w
/-- What is said of a slot. -/
inductive SpecM where
  | val (v : Value)
  | spans (L : List Sp)
  | maps (D : List Mp)
  | lit (xs : List Int)
  | pair (f : Int) (xs : List Int)
  | pairs (F : List Mp)
  | cellI (x : Int)
def SpecM.ok (xb : Nat) : SpecM → Value → World → Prop
  | .val u, v, _ => v = u
  | .spans L, v, w => w.ownsRow (xb + 1) 64 3 v L.length (L.flatMap spCells)
  | .maps D, v, w => OwnM [xb] w (xb + 1) v D
  | .lit xs, v, w => LitI xb xs v w
  | .pair f xs, v, w => ∃ u, v = .agg #[.int .i64 f, u] ∧ LitI xb xs u w
  | .pairs F, v, w => LitM xb F v w
  | .cellI x, v, w => ∃ (k i : Nat) (cs : Array Value), v = .pointer (some ⟨k, i, none⟩) ∧ Blk w k 3 cs ∧ cs[i]? = some (.int .i64 x) ∧ xb < k
def SpecM.isVal : SpecM → Bool
  | .val _ => true
  | _ => false
def RM (xb : Nat) (specs : List SpecM) (i : Nat) (v : Value) (w : World) : Prop := ∀ s, specs[i]? = some s → s.ok xb v w
/-- The append consumes what lies in memory. -/
def killM (specs : List SpecM) (kA i j : Nat) : Bool := j == kA && i != kA && match specs[i]? with | some s => !s.isVal | none => false

theorem LitI.later {xb : Nat} {xs : List Int} {v : Value} {w w' : World} (h : LitI xb xs v w) (hb : Below w.heap.size w w') : LitI xb xs v w' := by
  obtain ⟨k, e, hk, hx⟩ := h
  exact ⟨k, e, hk.later hb, hx⟩
theorem LitM.later {xb : Nat} {F : List Mp} {v : Value} {w w' : World} (h : LitM xb F v w) (hb : Below w.heap.size w w') : LitM xb F v w' := by
  obtain ⟨k, us, e, hk, hx, hm, hr⟩ := h
  exact ⟨k, us, e, hk.later hb, hx, hm, fun i p d hp hd => (hr i p d hp hd).later hb⟩
theorem SpecM.later {xb : Nat} {s : SpecM} {v : Value} {w w' : World} (h : s.ok xb v w) (hb : Below w.heap.size w w') : s.ok xb v w' := by
  cases s with
  | val u => exact h
  | spans L => exact own_later h hb
  | maps D => exact OwnM.later h hb (by simp)
  | lit xs => exact LitI.later h hb
  | pair f xs => obtain ⟨u, e, h⟩ := h; exact ⟨u, e, h.later hb⟩
  | pairs F => exact LitM.later h hb
  | cellI x => obtain ⟨k, i, cs, e, hk, hx⟩ := h; exact ⟨k, i, cs, e, hk.later hb, hx⟩
theorem RM.later {xb : Nat} {specs : List SpecM} {i : Nat} {v : Value} {w w' : World} (h : RM xb specs i v w) (hb : Below w.heap.size w w') : RM xb specs i v w' := fun s hs => SpecM.later (h s hs) hb
theorem rm_kept {xb : Nat} {specs : List SpecM} {kA j : Nat} {u : Value} {w w' : World} (hne : j ≠ kA) (h : killM specs kA j kA = false) (hr : RM xb specs j u w) : RM xb specs j u w' := fun s hs => by
  have h1 := hr s hs
  unfold killM at h
  rw [hs] at h
  cases s <;> first | exact h1 | simp [SpecM.isVal, hne] at h
theorem rm_of {xb : Nat} {specs : List SpecM} {i : Nat} {v : Value} {w : World} {s : SpecM} (hs : specs[i]? = some s) (h : s.ok xb v w) : RM xb specs i v w := fun s' hs' => by
  rw [hs] at hs'; cases hs'; exact h
theorem kill_lt {specs : List SpecM} {kA i j n : Nat} (h : killM specs kA i j = true) (hn : kA < n) : j < n := by
  unfold killM at h
  rw [Bool.and_eq_true, Bool.and_eq_true, beq_iff_eq] at h
  omega

theorem dep_m {ops : Array Oper} {specs : List SpecM} {xb kA i : Nat} {o : Oper} {a : Act} {w : World} (ho : ops[i]? = some o) (hd : DepsA ops (killM specs kA) (RM xb specs) i o a w) (j : Nat) (d : Tmp) (s : SpecM)
    (h1 : ((ops[i]?).map fun o => o.after.any fun e => Region.binds .any e && e.on == j) = some true) (h2 : ((ops[j]?).map (·.dst)) = some (some d)) (h3 : specs[j]? = some s) (h4 : (s.isVal || ancB ops 12 i kA || j == kA) = true) : ∃ v, a.tmps[d]? = some v ∧ s.ok xb v w := by
  have h5 := get_op (fun o => o.after.any fun e => Region.binds .any e && e.on == j) ho h1
  obtain ⟨e, he, hb⟩ := Array.any_eq_true'.1 h5
  rw [Bool.and_eq_true, beq_iff_eq] at hb
  cases hj : ops[j]? with
  | none => rw [hj] at h2; cases h2
  | some oj =>
    rw [hj] at h2
    obtain ⟨v, hv, hr⟩ := hd e he hb.1 (fun j' hk => by
      unfold killM at hk
      rw [hb.2, h3, Bool.and_eq_true, Bool.and_eq_true, beq_iff_eq] at hk
      rw [hk.1.1]
      rcases Bool.or_eq_true_iff.1 h4 with h | h
      · rcases Bool.or_eq_true_iff.1 h with h | h
        · have h6 := hk.2
          simp only [h] at h6
          cases h6
        · exact h
      · have h6 := hk.1.2
        rw [eq_of_beq h] at h6
        simp at h6) oj d (by rw [hb.2, hj]) (by simpa using h2)
    exact ⟨v, hv, hr s (by rw [hb.2]; exact h3)⟩

section
variable {P : Program} {ops : Array Oper} {o : Oper} {a : Act} {X : World} {K : Act → World → Prop} {Q : Exit → Act → World → Prop}
theorem ob_run {v : Value} {w' : World} (hr : (execOp a.eval o).run P X = .ok (.value v) w') (h : K (a.put o.dst v) w') : o.wp P a X K Q := by
  unfold Oper.wp
  rw [hr]
  exact h
theorem ob_skip {w' : World} (hr : (execOp a.eval o).run P X = .ok .skip w') (h : K (a.put o.dst undef) w') : o.wp P a X K Q := by
  unfold Oper.wp
  rw [hr]
  exact h
end
end Go.Proofs.YtkdhldhbjomiaaaDoor
/-
  keep.Other, case 2: a span ahead of the list of categories.
-/
namespace Go.Proofs.YtkdhldhbjomiaaaDoor
open Go.RowKit ND

section
variable {w : World} {a : Act} {o : Oper}
theorem run_field0 {x : Operand} {b : Nat} (ho : o.op = .fieldAddr 26 x 0) (hx : a.eval x = .pointer (some ⟨b, 0, none⟩)) : (execOp a.eval o).run Tryd.prog w = .ok (.value (.pointer (some ⟨b, 0, none⟩))) w := by
  unfold execOp
  rw [ho]
  simp only [hx]
  go_simp
theorem run_field9 {x : Operand} {b : Nat} (ho : o.op = .fieldAddr 26 x 9) (hx : a.eval x = .pointer (some ⟨b, 0, none⟩)) : (execOp a.eval o).run Tryd.prog w = .ok (.value (.pointer (some ⟨b, 9, none⟩))) w := by
  unfold execOp
  rw [ho]
  simp only [hx]
  go_simp
theorem run_load_sp {x : Operand} {b i : Nat} {v : Value} (ho : o.op = .load 22 x) (hx : a.eval x = .pointer (some ⟨b, i, none⟩)) (hc : w.cell? ⟨b, i, none⟩ = some v) : (execOp a.eval o).run Tryd.prog w = .ok (.value v) w := by
  unfold execOp
  rw [ho]
  simp only [hx]
  go_simp
theorem run_load_mp {x : Operand} {b i : Nat} {v : Value} (ho : o.op = .load 23 x) (hx : a.eval x = .pointer (some ⟨b, i, none⟩)) (hc : w.cell? ⟨b, i, none⟩ = some v) : (execOp a.eval o).run Tryd.prog w = .ok (.value v) w := by
  unfold execOp
  rw [ho]
  simp only [hx]
  go_simp
theorem run_span3 {d1 d2 : Tmp} {p q z : Int} (ho : o.op = .build 64 #[(0, .tmp d1), (1, .tmp d2), (2, .const (.int .i64 z))]) (h1 : a.tmps[d1]? = some (.int .i64 p)) (h2 : a.tmps[d2]? = some (.int .i64 q)) : (execOp a.eval o).run Tryd.prog w = .ok (.value (.agg #[.int .i64 p, .int .i64 q, .int .i64 z])) w := by
  unfold execOp
  rw [ho]
  go_simp
theorem run_store_sp {x y : Operand} {b i : Nat} {v u : Value} {t : TypeId} {cs : Array Value} (ho : o.op = .store 22 x y) (hx : a.eval x = .pointer (some ⟨b, i, none⟩)) (hy : a.eval y = v) (hv : ∃ A n c, v = .slice A n c) (hb : Blk w b t cs) (hi : cs[i]? = some u) : (execOp a.eval o).run Tryd.prog w = .ok .skip (w.setCell ⟨b, i, none⟩ v) := by
  have h1 := hb.at_ hi
  have h2 := hb.free i
  obtain ⟨A, n, c, rfl⟩ := hv
  unfold execOp
  rw [ho]
  simp only [hx, hy]
  go_simp
theorem run_store_mp {x y : Operand} {b i : Nat} {v u : Value} {t : TypeId} {cs : Array Value} (ho : o.op = .store 23 x y) (hx : a.eval x = .pointer (some ⟨b, i, none⟩)) (hy : a.eval y = v) (hv : ∃ A n c, v = .slice A n c) (hb : Blk w b t cs) (hi : cs[i]? = some u) : (execOp a.eval o).run Tryd.prog w = .ok .skip (w.setCell ⟨b, i, none⟩ v) := by
  have h1 := hb.at_ hi
  have h2 := hb.free i
  obtain ⟨A, n, c, rfl⟩ := hv
  unfold execOp
  rw [ho]
  simp only [hx, hy]
  go_simp
end
theorem own_span1 (w : World) (base : Nat) (hb : base ≤ w.heap.size) (x y z : Int) : (w.alloc (.cells #[.int .i64 x, .int .i64 y, .int .i64 z] 64)).ownsRow base 64 3 (.slice (some ⟨w.heap.size, 0, none⟩) 1 1) 1 (spCells (x, y, z)) :=
  ⟨by simp [spCells], .inr ⟨w.heap.size, 1, #[.int .i64 x, .int .i64 y, .int .i64 z], rfl, hb, heap_alloc_new w _, Nat.le_refl _, by unfold maxLen; omega, by simp, by simp [spCells]⟩⟩

abbrev nilCells : Array Value := #[.slice none 0 0, .slice none 0 0, .slice none 0 0, .slice none 0 0, .slice none 0 0, .slice none 0 0, .slice none 0 0, .slice none 0 0, .slice none 0 0, .slice none 0 0, .slice none 0 0, .slice none 0 0]
/-- Ahead of the store. -/
def C2A (xb : Nat) (W w : World) : Prop := Below (xb + 1) W w
def specs2 (tb xb : Nat) (c0 : Value) (L : List Sp) (vv p : Int) : List SpecM := [.val (.int .i64 vv), .val (.int .i64 p), .val (.int .i64 vv), .val (.int .i64 p), .val (.agg #[.int .i64 p, .int .i64 p, .int .i64 1]), .spans [(p, p, 1)], .val (.pointer (some ⟨tb, 0, none⟩)), .val c0, .spans ((p, p, 1) :: L), .val (.pointer (some ⟨xb, 0, none⟩))]
/-- The slots below 12, as they stand in keep.Other. -/
def fixedO (r : Nat → Value) (tb xb : Nat) (vv av : Int) : List (Tmp × Value) := [(0, r 0), (1, r 1), (2, .int .i64 av), (3, .int .i64 vv), (4, .pointer (some ⟨tb, 0, none⟩)), (5, r 5), (6, r 6), (7, r 7), (8, r 8), (9, .pointer (some ⟨xb, 0, none⟩)), (10, r 10), (11, r 11)]
/-- The act, as keep.Other's switch has it. -/
structure ActO (a : Act) (tb xb : Nat) (vv av : Int) : Prop where
  size : a.tmps.size = 194
  defers : a.defers = []
  s2 : a.tmps[2]? = some (.int .i64 av)
  s3 : a.tmps[3]? = some (.int .i64 vv)
  s4 : a.tmps[4]? = some (.pointer (some ⟨tb, 0, none⟩))
  s9 : a.tmps[9]? = some (.pointer (some ⟨xb, 0, none⟩))
theorem ActO.fs {a : Act} {tb xb : Nat} {vv av : Int} (h : ActO a tb xb vv av) : FS 194 [] (fixedO (fun i => (a.tmps[i]?).getD undef) tb xb vv av) a := by
  have hr : ∀ i, i < 194 → a.tmps[i]? = some ((a.tmps[i]?).getD undef) := fun i hi => by
    rw [Array.getElem?_eq_getElem (by rw [h.size]; exact hi)]; rfl
  refine ⟨h.size, h.defers, fun p hp => ?_⟩
  simp only [fixedO, List.mem_cons, List.not_mem_nil, or_false] at hp
  rcases hp with rfl | rfl | rfl | rfl | rfl | rfl | rfl | rfl | rfl | rfl | rfl | rfl
  · exact hr 0 (by decide)
  · exact hr 1 (by decide)
  · exact h.s2
  · exact h.s3
  · exact h.s4
  · exact hr 5 (by decide)
  · exact hr 6 (by decide)
  · exact hr 7 (by decide)
  · exact hr 8 (by decide)
  · exact h.s9
  · exact hr 10 (by decide)
  · exact hr 11 (by decide)
theorem ActO.split {a a' : Act} {tb xb : Nat} {vv av : Int} (h : ActO a tb xb vv av) (hf : FS 194 [] (fixedO (fun i => (a.tmps[i]?).getD undef) tb xb vv av) a') : ∃ f : Nat → Value, a' = ⟨(a.tmps.toList.take 12 ++ (List.range 182).map f).toArray, []⟩ := by
  obtain ⟨h1, h2, h3⟩ := hf
  have hr : ∀ i, i < 194 → a.tmps[i]? = some ((a.tmps[i]?).getD undef) := fun i hi => by
    rw [Array.getElem?_eq_getElem (by rw [h.size]; exact hi)]; rfl
  have hg : ∀ i, i < 12 → a'.tmps[i]? = a.tmps[i]? := fun i hi => by
    match i, hi with
    | 0, _ => exact (h3 (0, (a.tmps[0]?).getD undef) (by simp [fixedO])).trans (hr 0 (by decide)).symm
    | 1, _ => exact (h3 (1, (a.tmps[1]?).getD undef) (by simp [fixedO])).trans (hr 1 (by decide)).symm
    | 2, _ => exact (h3 (2, _) (by simp [fixedO])).trans h.s2.symm
    | 3, _ => exact (h3 (3, _) (by simp [fixedO])).trans h.s3.symm
    | 4, _ => exact (h3 (4, _) (by simp [fixedO])).trans h.s4.symm
    | 5, _ => exact (h3 (5, (a.tmps[5]?).getD undef) (by simp [fixedO])).trans (hr 5 (by decide)).symm
    | 6, _ => exact (h3 (6, (a.tmps[6]?).getD undef) (by simp [fixedO])).trans (hr 6 (by decide)).symm
    | 7, _ => exact (h3 (7, (a.tmps[7]?).getD undef) (by simp [fixedO])).trans (hr 7 (by decide)).symm
    | 8, _ => exact (h3 (8, (a.tmps[8]?).getD undef) (by simp [fixedO])).trans (hr 8 (by decide)).symm
    | 9, _ => exact (h3 (9, _) (by simp [fixedO])).trans h.s9.symm
    | 10, _ => exact (h3 (10, (a.tmps[10]?).getD undef) (by simp [fixedO])).trans (hr 10 (by decide)).symm
    | 11, _ => exact (h3 (11, (a.tmps[11]?).getD undef) (by simp [fixedO])).trans (hr 11 (by decide)).symm
    | m + 12, h => exact absurd h (by omega)
  refine ⟨fun i => (a'.tmps[i + 12]?).getD undef, ?_⟩
  obtain ⟨ts, ds⟩ := a'
  simp only at h1 h2 hg ⊢
  subst h2
  congr 1
  rw [← ts.toArray_toList]
  congr 1
  have hl : ts.toList.length = 194 := by simpa using h1
  have hla : a.tmps.toList.length = 194 := by simpa using h.size
  have h12 : (a.tmps.toList.take 12).length = 12 := by rw [List.length_take, hla]; rfl
  refine List.ext_getElem? fun i => ?_
  by_cases hi : i < 12
  · rw [List.getElem?_append_left (by rw [h12]; exact hi), List.getElem?_take, if_pos hi]
    have := hg i hi
    simpa using this
  · rw [List.getElem?_append_right (by omega), h12]
    by_cases hi2 : i < 194
    · rw [List.getElem?_map, List.getElem?_range (by omega)]
      simp only [Option.map_some]
      rw [show i - 12 + 12 = i by omega, List.getElem?_eq_getElem (by omega)]
      simp [h1, hi2]
    · rw [List.getElem?_eq_none (by omega), List.getElem?_eq_none (by simp; omega)]
section
variable {w0 W : World} {tb rb xb n : Nat} {t : Tv} {T : Tab} {vv av : Int} {r : Nat → Value} {Q : Exit → Act → World → Prop}
def Ob2 (r : Nat → Value) (av : Int) (W : World) (tb xb : Nat) (c0 : Value) (L : List Sp) (vv : Int) (Q : Exit → Act → World → Prop) (k : Nat) : Prop := ObA Tryd.prog (opsO 9) 194 [] (fixedO r tb xb vv av) (killM (specs2 tb xb c0 L vv (pick vv 300)) 8) (C2A xb W) (RM xb (specs2 tb xb c0 L vv (pick vv 300))) Q k
theorem ob2_0 : Ob2 r av W tb xb t.c0 T.category vv Q 0 := by
  intro o ho a w hA hf hd K hK
  rw [if_pos (wanted_none _ (get_op (·.guard) ho (by kernel_rfl)))]
  exact ob_move (get_op (·.op) ho (by kernel_rfl)) (eval_tmp (hf.2.2 (3, _) (by simp [fixedO]))) (hK _ _ (rm_of rfl rfl) hA (fun _ _ _ _ h => h))
theorem ob2_2 : Ob2 r av W tb xb t.c0 T.category vv Q 2 := by
  intro o ho a w hA hf hd K hK
  rw [if_pos (wanted_none _ (get_op (·.guard) ho (by kernel_rfl)))]
  exact ob_move (get_op (·.op) ho (by kernel_rfl)) (eval_tmp (hf.2.2 (3, _) (by simp [fixedO]))) (hK _ _ (rm_of rfl rfl) hA (fun _ _ _ _ h => h))
theorem ob2_1 : Ob2 r av W tb xb t.c0 T.category vv Q 1 := by
  intro o ho a w hA hf hd K hK
  rw [if_pos (wanted_none _ (get_op (·.guard) ho (by kernel_rfl)))]
  obtain ⟨v1, h1, e1⟩ := dep_m ho hd 0 55 (.val (.int .i64 vv)) (by kernel_rfl) (by kernel_rfl) rfl (by kernel_rfl)
  obtain rfl : v1 = _ := e1
  exact ob_enter (enter2 (y := .const (.int .i64 300)) (tys := #[3, 3]) (get_op (·.op) ho (by kernel_rfl)) (eval_tmp h1) rfl (fun args w => enters_of Tryd.func16 (by kernel_rfl) rfl args w)) (pick_any vv 300 w (by omega) (by omega)) fun e w' ⟨he, hw⟩ => ⟨_, he, by subst hw; exact hK _ _ (rm_of rfl rfl) hA (fun _ _ _ _ h => h)⟩
theorem ob2_3 : Ob2 r av W tb xb t.c0 T.category vv Q 3 := by
  intro o ho a w hA hf hd K hK
  rw [if_pos (wanted_none _ (get_op (·.guard) ho (by kernel_rfl)))]
  obtain ⟨v1, h1, e1⟩ := dep_m ho hd 2 57 (.val (.int .i64 vv)) (by kernel_rfl) (by kernel_rfl) rfl (by kernel_rfl)
  obtain rfl : v1 = _ := e1
  exact ob_enter (enter2 (y := .const (.int .i64 300)) (tys := #[3, 3]) (get_op (·.op) ho (by kernel_rfl)) (eval_tmp h1) rfl (fun args w => enters_of Tryd.func16 (by kernel_rfl) rfl args w)) (pick_any vv 300 w (by omega) (by omega)) fun e w' ⟨he, hw⟩ => ⟨_, he, by subst hw; exact hK _ _ (rm_of rfl rfl) hA (fun _ _ _ _ h => h)⟩
theorem ob2_4 : Ob2 r av W tb xb t.c0 T.category vv Q 4 := by
  intro o ho a w hA hf hd K hK
  rw [if_pos (wanted_none _ (get_op (·.guard) ho (by kernel_rfl)))]
  obtain ⟨v1, h1, e1⟩ := dep_m ho hd 1 56 (.val (.int .i64 (pick vv 300))) (by kernel_rfl) (by kernel_rfl) rfl (by kernel_rfl)
  obtain rfl : v1 = _ := e1
  obtain ⟨v2, h2, e2⟩ := dep_m ho hd 3 58 (.val (.int .i64 (pick vv 300))) (by kernel_rfl) (by kernel_rfl) rfl (by kernel_rfl)
  obtain rfl : v2 = _ := e2
  exact ob_value (run_span3 (get_op (·.op) ho (by kernel_rfl)) h1 h2) (hK _ _ (rm_of rfl rfl) hA (fun _ _ _ _ h => h))
theorem ob2_5 (hW : xb + 1 ≤ W.heap.size) : Ob2 r av W tb xb t.c0 T.category vv Q 5 := by
  intro o ho a w hA hf hd K hK
  rw [if_pos (wanted_none _ (get_op (·.guard) ho (by kernel_rfl)))]
  obtain ⟨v1, h1, e1⟩ := dep_m ho hd 4 59 (.val (.agg #[.int .i64 (pick vv 300), .int .i64 (pick vv 300), .int .i64 1])) (by kernel_rfl) (by kernel_rfl) rfl (by kernel_rfl)
  obtain rfl : v1 = _ := e1
  have hs := hA.size
  exact ob_run (run_span1 (get_op (·.op) ho (by kernel_rfl)) h1) (hK _ _ (rm_of rfl (own_span1 w _ (by omega) _ _ _)) (hA.alloc (by omega) _) (fun _ _ _ _ h => h.later ((Below.refl _ _).alloc (Nat.le_refl _) _)))
theorem ob2_6 : Ob2 r av W tb xb t.c0 T.category vv Q 6 := by
  intro o ho a w hA hf hd K hK
  rw [if_pos (wanted_none _ (get_op (·.guard) ho (by kernel_rfl)))]
  exact ob_value (run_field0 (get_op (·.op) ho (by kernel_rfl)) (eval_tmp (hf.2.2 (4, _) (by simp [fixedO])))) (hK _ _ (rm_of rfl rfl) hA (fun _ _ _ _ h => h))
theorem ob2_7 (hTB : Blk W tb 26 t.cells) (hlt : tb < xb) : Ob2 r av W tb xb t.c0 T.category vv Q 7 := by
  intro o ho a w hA hf hd K hK
  rw [if_pos (wanted_none _ (get_op (·.guard) ho (by kernel_rfl)))]
  obtain ⟨v1, h1, e1⟩ := dep_m ho hd 6 61 (.val (.pointer (some ⟨tb, 0, none⟩))) (by kernel_rfl) (by kernel_rfl) rfl (by kernel_rfl)
  obtain rfl : v1 = _ := e1
  exact ob_value (run_load_sp (get_op (·.op) ho (by kernel_rfl)) (eval_tmp h1) ((hTB.below hA (by omega)).at_ (i := 0) rfl)) (hK _ _ (rm_of rfl rfl) hA (fun _ _ _ _ h => h))
theorem ob2_8 {B : Nat} (hW : xb + 1 ≤ W.heap.size) (hS : Spans W B t.c0 T.category) (hB : B ≤ xb) (hl : T.category.length ≤ 1000) : Ob2 r av W tb xb t.c0 T.category vv Q 8 := by
  intro o ho a w hA hf hd K hK
  rw [if_pos (wanted_none _ (get_op (·.guard) ho (by kernel_rfl)))]
  obtain ⟨v1, h1, e1⟩ := dep_m ho hd 5 60 (.spans [(pick vv 300, pick vv 300, 1)]) (by kernel_rfl) (by kernel_rfl) rfl (by kernel_rfl)
  obtain ⟨v2, h2, e2⟩ := dep_m ho hd 7 62 (.val t.c0) (by kernel_rfl) (by kernel_rfl) rfl (by kernel_rfl)
  obtain rfl : v2 = _ := e2
  have hs := hA.size
  obtain ⟨i0, hi, hz, hz1, hz2⟩ := info_parts Tryd.infoSpan
  refine ob_app_spans (.tmp 60) (.tmp 62) (get_op (·.op) ho (by kernel_rfl)) Tryd.underlying22 hi hz hz1 hz2 (xb + 1) v1 t.c0 [(pick vv 300, pick vv 300, 1)] T.category B (eval_tmp h1) (eval_tmp h2) e1 (hS.below (hA.mono (by omega))) (by simp; omega) (by omega) fun v' w' hv' hg => ?_
  exact hK _ _ (rm_of rfl hv') (hA.grown hg (by omega) (fun k hk => (e1.lt k hk).1)) (fun _ _ hne h hr => rm_kept hne h hr)
theorem ob2_9 : Ob2 r av W tb xb t.c0 T.category vv Q 9 := by
  intro o ho a w hA hf hd K hK
  rw [if_pos (wanted_none _ (get_op (·.guard) ho (by kernel_rfl)))]
  exact ob_value (run_field0 (get_op (·.op) ho (by kernel_rfl)) (eval_tmp (hf.2.2 (9, _) (by simp [fixedO])))) (hK _ _ (rm_of rfl rfl) hA (fun _ _ _ _ h => h))
theorem ob2_10 (HX : Blk W xb 26 t.cells) (HR : Blk W rb 26 nilCells) (hrx : rb < xb) (ht : TabR w0 w0.heap.size t T) (hn : ShortT n T) (hb0 : Below w0.heap.size w0 W) (h0 : w0.heap.size ≤ xb) : ObB Tryd.prog (opsO 9) 194 [] (fixedO r tb xb vv av) (killM (specs2 tb xb t.c0 T.category vv (pick vv 300)) 8) (C2A xb W) (OthR w0 xb rb n) (RM xb (specs2 tb xb t.c0 T.category vv (pick vv 300))) Q 10 := by
  intro o ho a w hA hf hd K hK
  rw [if_pos (wanted_none _ (get_op (·.guard) ho (by kernel_rfl)))]
  obtain ⟨v1, h1, e1⟩ := dep_m ho hd 9 64 (.val (.pointer (some ⟨xb, 0, none⟩))) (by kernel_rfl) (by kernel_rfl) rfl (by kernel_rfl)
  obtain rfl : v1 = _ := e1
  obtain ⟨v2, h2, e2⟩ := dep_m ho hd 8 63 (.spans ((pick vv 300, pick vv 300, 1) :: T.category)) (by kernel_rfl) (by kernel_rfl) rfl (by kernel_rfl)
  have hX := HX.below hA (by omega)
  exact ob_skip (run_store_sp (get_op (·.op) ho (by kernel_rfl)) (eval_tmp h1) (eval_tmp h2) (own_slice e2) hX (i := 0) rfl) (hK _ _ (oth0 ht hn (by have := hn.c0; simp; omega) (hb0.trans (hA.mono (by omega))) h0 hX (HR.below hA (by omega)) (by omega) e2 (by omega)))
end
/-- The region of case 2. -/
theorem other_case2 {w0 W : World} {a : Act} {tb rb xb n : Nat} {t : Tv} {T : Tab} {vv av : Int} {Q : Exit → Act → World → Prop} (ha : ActO a tb xb vv av) (HT : Blk W tb 26 t.cells) (htx : tb < xb) (HX : Blk W xb 26 t.cells) (HR : Blk W rb 26 nilCells) (hrx : rb < xb) (ht : TabR w0 w0.heap.size t T) (hn : ShortT n T) (hn2 : n ≤ 1000) (hb0 : Below w0.heap.size w0 W) (h0 : w0.heap.size ≤ xb)
    (hend : ∀ (f : Nat → Value) w, OthR w0 xb rb n w → Q .normal ⟨(a.tmps.toList.take 12 ++ (List.range 182).map f).toArray, []⟩ w) : (Code.region 9 (opsO 9) true).wp Tryd.prog Q a W := by
  have hsz := HX.lt
  refine wp_region_store (ds := []) (fixed := fixedO (fun i => (a.tmps[i]?).getD undef) tb xb vv av) (n := 194) (killM (specs2 tb xb t.c0 T.category vv (pick vv 300)) 8) (C2A xb W.drew) (OthR w0 xb rb n) (RM xb (specs2 tb xb t.c0 T.category vv (pick vv 300))) 10 (by kernel_rfl) (by kernel_rfl) (by kernel_rfl) (by kernel_rfl) (by kernel_rfl) (fun i j h => kill_lt h (by rw [show (opsO 9).size = 11 by kernel_rfl]; decide)) ha.fs (Below.refl _ _) (fun i hi => ?_) (ob2_10 (W := W.drew) HX HR hrx ht hn hb0.drew h0) (fun a' w h hf => by obtain ⟨f, rfl⟩ := ha.split hf; exact hend f w h)
  have hS : Spans W.drew w0.heap.size t.c0 T.category := ht.r0.below hb0.drew
  match i, hi with
  | 0, _ => exact ob2_0
  | 1, _ => exact ob2_1
  | 2, _ => exact ob2_2
  | 3, _ => exact ob2_3
  | 4, _ => exact ob2_4
  | 5, _ => exact ob2_5 (by have := HX.drew.lt; omega)
  | 6, _ => exact ob2_6
  | 7, _ => exact ob2_7 HT htx
  | 8, _ => exact ob2_8 (by have := HX.drew.lt; omega) hS h0 (Nat.le_trans hn.c0 hn2)
  | 9, _ => exact ob2_9
end Go.Proofs.YtkdhldhbjomiaaaDoor
/-
  keep.Other, case 9: two decompositions behind the others.
-/
namespace Go.Proofs.YtkdhldhbjomiaaaDoor
open Go.RowKit ND

section
variable {w : World} {a : Act} {o : Oper}
theorem run_ints3 (x y z : Int) (ho : o.op = .buildSlice 24 3 #[(0, .const (.int .i64 x)), (1, .const (.int .i64 y)), (2, .const (.int .i64 z))]) : (execOp a.eval o).run Tryd.prog w = .ok (.value (.slice (some ⟨w.heap.size, 0, none⟩) 3 3)) (w.alloc (.cells #[.int .i64 x, .int .i64 y, .int .i64 z] 3)) := by
  unfold execOp
  rw [ho]
  go_simp
theorem run_ints2 {d : Tmp} {y : Int} (x : Int) (ho : o.op = .buildSlice 24 2 #[(0, .const (.int .i64 x)), (1, .tmp d)]) (hd : a.tmps[d]? = some (.int .i64 y)) : (execOp a.eval o).run Tryd.prog w = .ok (.value (.slice (some ⟨w.heap.size, 0, none⟩) 2 2)) (w.alloc (.cells #[.int .i64 x, .int .i64 y] 3)) := by
  unfold execOp
  rw [ho]
  go_simp
theorem run_pair {d : Tmp} {k : Nat} (x : Int) (ho : o.op = .build 54 #[(0, .const (.int .i64 x)), (1, .tmp d)]) (hd : a.tmps[d]? = some (.slice (some ⟨k, 0, none⟩) 2 2)) : (execOp a.eval o).run Tryd.prog w = .ok (.value (.agg #[.int .i64 x, .slice (some ⟨k, 0, none⟩) 2 2])) w := by
  unfold execOp
  rw [ho]
  go_simp
theorem run_pairs {d d' : Tmp} {k k' : Nat} {x x' : Int} (ho : o.op = .buildSlice 23 2 #[(0, .tmp d), (1, .tmp d')]) (hd : a.tmps[d]? = some (.agg #[.int .i64 x, .slice (some ⟨k, 0, none⟩) 2 2])) (hd' : a.tmps[d']? = some (.agg #[.int .i64 x', .slice (some ⟨k', 0, none⟩) 2 2])) : (execOp a.eval o).run Tryd.prog w = .ok (.value (.slice (some ⟨w.heap.size, 0, none⟩) 2 2)) (w.alloc (.cells #[.int .i64 x, .slice (some ⟨k, 0, none⟩) 2 2, .int .i64 x', .slice (some ⟨k', 0, none⟩) 2 2] 54)) := by
  unfold execOp
  rw [ho]
  go_simp
theorem run_at {x y : Operand} {k j n : Nat} (ho : o.op = .indexAddr 24 x y) (hx : a.eval x = .slice (some ⟨k, 0, none⟩) n n) (hy : a.eval y = .int .i64 (j : Int)) (hj : j < n) : (execOp a.eval o).run Tryd.prog w = .ok (.value (.pointer (some ⟨k, j, none⟩))) w := by
  have h0 : (0 : Int) ≤ (j : Int) := by omega
  have h1 : (j : Int) < (n : Int) := by omega
  unfold execOp
  rw [ho]
  simp only [hx, hy]
  go_simp
theorem run_load_int {x : Operand} {b i : Nat} {n : Int} (ho : o.op = .load 3 x) (hx : a.eval x = .pointer (some ⟨b, i, none⟩)) (hc : w.cell? ⟨b, i, none⟩ = some (.int .i64 n)) : (execOp a.eval o).run Tryd.prog w = .ok (.value (.int .i64 n)) w := by
  unfold execOp
  rw [ho]
  simp only [hx]
  go_simp
end
theorem lit_new (w : World) (xb : Nat) (hb : xb < w.heap.size) (xs : List Int) (n : Nat) (hn : xs.length = n) : LitI xb xs (.slice (some ⟨w.heap.size, 0, none⟩) n n) (w.alloc (.cells (xs.map (Value.int .i64)).toArray 3)) :=
  ⟨w.heap.size, by rw [hn], Blk.new _ _ _, hb⟩
theorem LitI.ints {S : List Nat} {xb base : Nat} {xs : List Int} {v u : Value} {w : World} {size n : Nat} {ys : List Value} (h : LitI xb xs v w) (hS : ∀ x ∈ S, x ≤ xb) (hu : w.ownsRow base 54 size u n ys) (hl : xs.length ≤ 1000000) : Ints (veil (S ++ u.ownBlock.toList) w) w.heap.size .i64 v xs := by
  obtain ⟨k, rfl, hk, hx⟩ := h
  refine ⟨some ⟨k, 0, none⟩, xs.length, rfl, Nat.le_refl _, by unfold maxLen; omega, (by intro h; cases h), fun i x hi => ⟨_, rfl, by have := hk.lt; simpa using this, ?_⟩⟩
  have hn' : k ∉ S ++ u.ownBlock.toList := fun hx' => by
    rcases List.mem_append.1 hx' with hx' | hx'
    · have := hS _ hx'; omega
    · rw [Option.mem_toList] at hx'
      exact own_ne hu hk (by decide) hx'
  have e : Addr.add ⟨k, 0, none⟩ i = ⟨k, i, none⟩ := by cases i <;> simp [Addr.add]
  rw [e, cell_veil (by exact hn')]
  exact hk.at_ (lit_at hi)

def F9 (x y : Int) : List Mp := [(131072, [97, x]), (131073, [97, y])]
def specs9 (tb xb : Nat) (c9 : Value) (D : List Mp) (vv av : Int) (i j : Nat) (x y : Int) : List SpecM := [.val (.pointer (some ⟨tb, 9, none⟩)), .val c9, .maps D, .lit [769, 776, 803], .val (.int .i64 vv), .val (.int .i64 (i : Int)), .cellI x, .val (.int .i64 x), .lit [97, x], .pair 131072 [97, x], .lit [769, 776, 803], .val (.int .i64 av), .val (.int .i64 (j : Int)), .cellI y, .val (.int .i64 y), .lit [97, y], .pair 131073 [97, y], .pairs (F9 x y), .maps (D ++ F9 x y), .val (.pointer (some ⟨xb, 9, none⟩))]
section
variable {w0 W : World} {tb rb xb n : Nat} {t : Tv} {T : Tab} {vv av : Int} {i j : Nat} {x y : Int} {r : Nat → Value} {Q : Exit → Act → World → Prop}
def Ob9 (r : Nat → Value) (W : World) (tb xb : Nat) (c9 : Value) (D : List Mp) (vv av : Int) (i j : Nat) (x y : Int) (Q : Exit → Act → World → Prop) (k : Nat) : Prop := ObA Tryd.prog (opsO 23) 194 [] (fixedO r tb xb vv av) (killM (specs9 tb xb c9 D vv av i j x y) 18) (C2A xb W) (RM xb (specs9 tb xb c9 D vv av i j x y)) Q k
theorem ob9_0 : Ob9 r W tb xb t.c9 T.decomps vv av i j x y Q 0 := by
  intro o ho a w hA hf hd K hK
  rw [if_pos (wanted_none _ (get_op (·.guard) ho (by kernel_rfl)))]
  exact ob_value (run_field9 (get_op (·.op) ho (by kernel_rfl)) (eval_tmp (hf.2.2 (4, _) (by simp [fixedO])))) (hK _ _ (rm_of rfl rfl) hA (fun _ _ _ _ h => h))
theorem ob9_1 (hTB : Blk W tb 26 t.cells) (hlt : tb < xb) : Ob9 r W tb xb t.c9 T.decomps vv av i j x y Q 1 := by
  intro o ho a w hA hf hd K hK
  rw [if_pos (wanted_none _ (get_op (·.guard) ho (by kernel_rfl)))]
  obtain ⟨v1, h1, e1⟩ := dep_m ho hd 0 152 (.val (.pointer (some ⟨tb, 9, none⟩))) (by kernel_rfl) (by kernel_rfl) rfl (by kernel_rfl)
  obtain rfl : v1 = _ := e1
  exact ob_value (run_load_mp (get_op (·.op) ho (by kernel_rfl)) (eval_tmp h1) ((hTB.below hA (by omega)).at_ (i := 9) rfl)) (hK _ _ (rm_of rfl rfl) hA (fun _ _ _ _ h => h))
theorem ob9_2 {B : Nat} (hW : xb + 1 ≤ W.heap.size) (hS : Mapps W B t.c9 T.decomps) (hB : B ≤ xb) (hl : T.decomps.length ≤ 1000) : Ob9 r W tb xb t.c9 T.decomps vv av i j x y Q 2 := by
  intro o ho a w hA hf hd K hK
  obtain ⟨v1, h1, e1⟩ := dep_m ho hd 1 153 (.val t.c9) (by kernel_rfl) (by kernel_rfl) rfl (by kernel_rfl)
  obtain rfl : v1 = _ := e1
  have hs := hA.size
  obtain ⟨i0, hi, hz, hz1, hz2⟩ := info_parts Tryd.infoMap
  refine step_copy_map (get_op (·.guard) ho (by kernel_rfl)) (.const (.slice none 0 0)) (.tmp 153) (get_op (·.op) ho (by kernel_rfl)) Tryd.underlying23 hi _ hz hz1 hz2 rfl [xb] (xb + 1) B t.c9 T.decomps (by simp; omega) rfl (eval_tmp h1) (hS.below (hA.mono (by omega))) (by omega) (by omega) (by omega) fun v' w' hv' hg => ?_
  exact hK _ _ (rm_of rfl hv') (hA.grown hg (by omega) (fun k hk => by cases hk)) (fun _ _ _ _ h => h.later ((Below.refl _ _).grown hg (Nat.le_refl _) (fun k hk => by cases hk)))
theorem ob9_3 (hW : xb + 1 ≤ W.heap.size) : Ob9 r W tb xb t.c9 T.decomps vv av i j x y Q 3 := by
  intro o ho a w hA hf hd K hK
  rw [if_pos (wanted_none _ (get_op (·.guard) ho (by kernel_rfl)))]
  have hs := hA.size
  exact ob_run (run_ints3 769 776 803 (get_op (·.op) ho (by kernel_rfl))) (hK _ _ (rm_of rfl (lit_new w xb (by omega) [769, 776, 803] 3 rfl)) (hA.alloc (by omega) _) (fun _ _ _ _ h => h.later ((Below.refl _ _).alloc (Nat.le_refl _) _)))
theorem ob9_10 (hW : xb + 1 ≤ W.heap.size) : Ob9 r W tb xb t.c9 T.decomps vv av i j x y Q 10 := by
  intro o ho a w hA hf hd K hK
  rw [if_pos (wanted_none _ (get_op (·.guard) ho (by kernel_rfl)))]
  have hs := hA.size
  exact ob_run (run_ints3 769 776 803 (get_op (·.op) ho (by kernel_rfl))) (hK _ _ (rm_of rfl (lit_new w xb (by omega) [769, 776, 803] 3 rfl)) (hA.alloc (by omega) _) (fun _ _ _ _ h => h.later ((Below.refl _ _).alloc (Nat.le_refl _) _)))
theorem ob9_4 : Ob9 r W tb xb t.c9 T.decomps vv av i j x y Q 4 := by
  intro o ho a w hA hf hd K hK
  rw [if_pos (wanted_none _ (get_op (·.guard) ho (by kernel_rfl)))]
  exact ob_move (get_op (·.op) ho (by kernel_rfl)) (eval_tmp (hf.2.2 (3, _) (by simp [fixedO]))) (hK _ _ (rm_of rfl rfl) hA (fun _ _ _ _ h => h))
theorem ob9_11 : Ob9 r W tb xb t.c9 T.decomps vv av i j x y Q 11 := by
  intro o ho a w hA hf hd K hK
  rw [if_pos (wanted_none _ (get_op (·.guard) ho (by kernel_rfl)))]
  exact ob_move (get_op (·.op) ho (by kernel_rfl)) (eval_tmp (hf.2.2 (2, _) (by simp [fixedO]))) (hK _ _ (rm_of rfl rfl) hA (fun _ _ _ _ h => h))
theorem ob9_5 (hp : pick vv 3 = (i : Int)) : Ob9 r W tb xb t.c9 T.decomps vv av i j x y Q 5 := by
  intro o ho a w hA hf hd K hK
  rw [if_pos (wanted_none _ (get_op (·.guard) ho (by kernel_rfl)))]
  obtain ⟨v1, h1, e1⟩ := dep_m ho hd 4 156 (.val (.int .i64 vv)) (by kernel_rfl) (by kernel_rfl) rfl (by kernel_rfl)
  obtain rfl : v1 = _ := e1
  exact ob_enter (enter2 (y := .const (.int .i64 3)) (tys := #[3, 3]) (get_op (·.op) ho (by kernel_rfl)) (eval_tmp h1) rfl (fun args w => enters_of Tryd.func16 (by kernel_rfl) rfl args w)) (pick_any vv 3 w (by omega) (by omega)) fun e w' ⟨he, hw⟩ => ⟨_, he, by subst hw; exact hK _ _ (rm_of rfl (by rw [hp]; rfl)) hA (fun _ _ _ _ h => h)⟩
theorem ob9_12 (hp : pick av 3 = (j : Int)) : Ob9 r W tb xb t.c9 T.decomps vv av i j x y Q 12 := by
  intro o ho a w hA hf hd K hK
  rw [if_pos (wanted_none _ (get_op (·.guard) ho (by kernel_rfl)))]
  obtain ⟨v1, h1, e1⟩ := dep_m ho hd 11 163 (.val (.int .i64 av)) (by kernel_rfl) (by kernel_rfl) rfl (by kernel_rfl)
  obtain rfl : v1 = _ := e1
  exact ob_enter (enter2 (y := .const (.int .i64 3)) (tys := #[3, 3]) (get_op (·.op) ho (by kernel_rfl)) (eval_tmp h1) rfl (fun args w => enters_of Tryd.func16 (by kernel_rfl) rfl args w)) (pick_any av 3 w (by omega) (by omega)) fun e w' ⟨he, hw⟩ => ⟨_, he, by subst hw; exact hK _ _ (rm_of rfl (by rw [hp]; rfl)) hA (fun _ _ _ _ h => h)⟩
theorem ob9_6 (hx : ([769, 776, 803] : List Int)[i]? = some x) : Ob9 r W tb xb t.c9 T.decomps vv av i j x y Q 6 := by
  intro o ho a w hA hf hd K hK
  rw [if_pos (wanted_none _ (get_op (·.guard) ho (by kernel_rfl)))]
  obtain ⟨v1, h1, e1⟩ := dep_m ho hd 3 155 (.lit [769, 776, 803]) (by kernel_rfl) (by kernel_rfl) rfl (by kernel_rfl)
  obtain ⟨v2, h2, e2⟩ := dep_m ho hd 5 157 (.val (.int .i64 (i : Int))) (by kernel_rfl) (by kernel_rfl) rfl (by kernel_rfl)
  obtain rfl : v2 = _ := e2
  obtain ⟨k, rfl, hk, hkx⟩ := e1
  exact ob_value (run_at (get_op (·.op) ho (by kernel_rfl)) (eval_tmp h1) (eval_tmp h2) (List.getElem?_eq_some_iff.1 hx).1) (hK _ _ (rm_of rfl ⟨k, i, _, rfl, hk, lit_at hx, hkx⟩) hA (fun _ _ _ _ h => h))
theorem ob9_13 (hx : ([769, 776, 803] : List Int)[j]? = some y) : Ob9 r W tb xb t.c9 T.decomps vv av i j x y Q 13 := by
  intro o ho a w hA hf hd K hK
  rw [if_pos (wanted_none _ (get_op (·.guard) ho (by kernel_rfl)))]
  obtain ⟨v1, h1, e1⟩ := dep_m ho hd 10 162 (.lit [769, 776, 803]) (by kernel_rfl) (by kernel_rfl) rfl (by kernel_rfl)
  obtain ⟨v2, h2, e2⟩ := dep_m ho hd 12 164 (.val (.int .i64 (j : Int))) (by kernel_rfl) (by kernel_rfl) rfl (by kernel_rfl)
  obtain rfl : v2 = _ := e2
  obtain ⟨k, rfl, hk, hkx⟩ := e1
  exact ob_value (run_at (get_op (·.op) ho (by kernel_rfl)) (eval_tmp h1) (eval_tmp h2) (List.getElem?_eq_some_iff.1 hx).1) (hK _ _ (rm_of rfl ⟨k, j, _, rfl, hk, lit_at hx, hkx⟩) hA (fun _ _ _ _ h => h))
theorem ob9_7 : Ob9 r W tb xb t.c9 T.decomps vv av i j x y Q 7 := by
  intro o ho a w hA hf hd K hK
  rw [if_pos (wanted_none _ (get_op (·.guard) ho (by kernel_rfl)))]
  obtain ⟨v1, h1, e1⟩ := dep_m ho hd 6 158 (.cellI x) (by kernel_rfl) (by kernel_rfl) rfl (by kernel_rfl)
  obtain ⟨k, i', cs, rfl, hk, hc, hkx⟩ := e1
  exact ob_value (run_load_int (get_op (·.op) ho (by kernel_rfl)) (eval_tmp h1) (hk.at_ hc)) (hK _ _ (rm_of rfl rfl) hA (fun _ _ _ _ h => h))
theorem ob9_14 : Ob9 r W tb xb t.c9 T.decomps vv av i j x y Q 14 := by
  intro o ho a w hA hf hd K hK
  rw [if_pos (wanted_none _ (get_op (·.guard) ho (by kernel_rfl)))]
  obtain ⟨v1, h1, e1⟩ := dep_m ho hd 13 165 (.cellI y) (by kernel_rfl) (by kernel_rfl) rfl (by kernel_rfl)
  obtain ⟨k, i', cs, rfl, hk, hc, hkx⟩ := e1
  exact ob_value (run_load_int (get_op (·.op) ho (by kernel_rfl)) (eval_tmp h1) (hk.at_ hc)) (hK _ _ (rm_of rfl rfl) hA (fun _ _ _ _ h => h))
theorem ob9_8 (hW : xb + 1 ≤ W.heap.size) : Ob9 r W tb xb t.c9 T.decomps vv av i j x y Q 8 := by
  intro o ho a w hA hf hd K hK
  rw [if_pos (wanted_none _ (get_op (·.guard) ho (by kernel_rfl)))]
  obtain ⟨v1, h1, e1⟩ := dep_m ho hd 7 159 (.val (.int .i64 x)) (by kernel_rfl) (by kernel_rfl) rfl (by kernel_rfl)
  obtain rfl : v1 = _ := e1
  have hs := hA.size
  exact ob_run (run_ints2 97 (get_op (·.op) ho (by kernel_rfl)) h1) (hK _ _ (rm_of rfl (lit_new w xb (by omega) [97, x] 2 rfl)) (hA.alloc (by omega) _) (fun _ _ _ _ h => h.later ((Below.refl _ _).alloc (Nat.le_refl _) _)))
theorem ob9_15 (hW : xb + 1 ≤ W.heap.size) : Ob9 r W tb xb t.c9 T.decomps vv av i j x y Q 15 := by
  intro o ho a w hA hf hd K hK
  rw [if_pos (wanted_none _ (get_op (·.guard) ho (by kernel_rfl)))]
  obtain ⟨v1, h1, e1⟩ := dep_m ho hd 14 166 (.val (.int .i64 y)) (by kernel_rfl) (by kernel_rfl) rfl (by kernel_rfl)
  obtain rfl : v1 = _ := e1
  have hs := hA.size
  exact ob_run (run_ints2 97 (get_op (·.op) ho (by kernel_rfl)) h1) (hK _ _ (rm_of rfl (lit_new w xb (by omega) [97, y] 2 rfl)) (hA.alloc (by omega) _) (fun _ _ _ _ h => h.later ((Below.refl _ _).alloc (Nat.le_refl _) _)))
theorem ob9_9 : Ob9 r W tb xb t.c9 T.decomps vv av i j x y Q 9 := by
  intro o ho a w hA hf hd K hK
  rw [if_pos (wanted_none _ (get_op (·.guard) ho (by kernel_rfl)))]
  obtain ⟨v1, h1, e1⟩ := dep_m ho hd 8 160 (.lit [97, x]) (by kernel_rfl) (by kernel_rfl) rfl (by kernel_rfl)
  obtain ⟨k, rfl, hk, hkx⟩ := e1
  exact ob_value (run_pair 131072 (get_op (·.op) ho (by kernel_rfl)) h1) (hK _ _ (rm_of rfl ⟨_, rfl, k, rfl, hk, hkx⟩) hA (fun _ _ _ _ h => h))
theorem ob9_16 : Ob9 r W tb xb t.c9 T.decomps vv av i j x y Q 16 := by
  intro o ho a w hA hf hd K hK
  rw [if_pos (wanted_none _ (get_op (·.guard) ho (by kernel_rfl)))]
  obtain ⟨v1, h1, e1⟩ := dep_m ho hd 15 167 (.lit [97, y]) (by kernel_rfl) (by kernel_rfl) rfl (by kernel_rfl)
  obtain ⟨k, rfl, hk, hkx⟩ := e1
  exact ob_value (run_pair 131073 (get_op (·.op) ho (by kernel_rfl)) h1) (hK _ _ (rm_of rfl ⟨_, rfl, k, rfl, hk, hkx⟩) hA (fun _ _ _ _ h => h))
theorem ob9_17 (hW : xb + 1 ≤ W.heap.size) : Ob9 r W tb xb t.c9 T.decomps vv av i j x y Q 17 := by
  intro o ho a w hA hf hd K hK
  rw [if_pos (wanted_none _ (get_op (·.guard) ho (by kernel_rfl)))]
  obtain ⟨v1, h1, e1⟩ := dep_m ho hd 9 161 (.pair 131072 [97, x]) (by kernel_rfl) (by kernel_rfl) rfl (by kernel_rfl)
  obtain ⟨v2, h2, e2⟩ := dep_m ho hd 16 168 (.pair 131073 [97, y]) (by kernel_rfl) (by kernel_rfl) rfl (by kernel_rfl)
  have hs := hA.size
  obtain ⟨u, rfl, k, rfl, hk, hkx⟩ := e1
  obtain ⟨u', rfl, k', rfl, hk', hkx'⟩ := e2
  have hbl : Below w.heap.size w (w.alloc (.cells #[.int .i64 131072, .slice (some ⟨k, 0, none⟩) 2 2, .int .i64 131073, .slice (some ⟨k', 0, none⟩) 2 2] 54)) := (Below.refl _ _).alloc (Nat.le_refl _) _
  refine ob_run (run_pairs (get_op (·.op) ho (by kernel_rfl)) h1 h2) (hK _ _ (rm_of rfl ⟨w.heap.size, [(131072, .slice (some ⟨k, 0, none⟩) 2 2), (131073, .slice (some ⟨k', 0, none⟩) 2 2)], rfl, Blk.new _ _ _, by omega, rfl, fun m p d hp hd => ?_⟩) (hA.alloc (by omega) _) (fun _ _ _ _ h => h.later ((Below.refl _ _).alloc (Nat.le_refl _) _)))
  match m, hp, hd with
  | 0, hp, hd => cases hp; cases hd; exact ⟨k, rfl, hk.later hbl, hkx⟩
  | 1, hp, hd => cases hp; cases hd; exact ⟨k', rfl, hk'.later hbl, hkx'⟩
  | _ + 2, hp, hd => simp at hp
theorem ob9_18 (hW : xb + 1 ≤ W.heap.size) (hl : T.decomps.length ≤ 1000) : Ob9 r W tb xb t.c9 T.decomps vv av i j x y Q 18 := by
  intro o ho a w hA hf hd K hK
  obtain ⟨v1, h1, e1⟩ := dep_m ho hd 2 154 (.maps T.decomps) (by kernel_rfl) (by kernel_rfl) rfl (by kernel_rfl)
  obtain ⟨v2, h2, e2⟩ := dep_m ho hd 17 169 (.pairs (F9 x y)) (by kernel_rfl) (by kernel_rfl) rfl (by kernel_rfl)
  have hs := hA.size
  obtain ⟨k, us, rfl, hk, hkx, hm, hr⟩ := e2
  obtain ⟨i0, hi, hz, hz1, hz2⟩ := info_parts Tryd.infoMap
  obtain ⟨ps, _, _, hown, _⟩ := id e1
  refine step_app_maps (get_op (·.guard) ho (by kernel_rfl)) (.tmp 154) (.tmp 169) (get_op (·.op) ho (by kernel_rfl)) Tryd.underlying23 hi _ hz hz1 hz2 rfl [xb] (xb + 1) v1 T.decomps (F9 x y) k us (eval_tmp h1) (eval_tmp h2) e1 hk hm (fun m p d hp hd => (hr m p d hp hd).ints (by simp) hown ?_) (by simp [F9]) (by simp [F9]; omega) (by omega) fun v' w' hv' hg _ _ => ?_
  · have := List.mem_of_getElem? hd
    simp [F9] at this
    rcases this with rfl | rfl <;> simp
  · exact hK _ _ (rm_of rfl hv') (hA.grown hg (by omega) (fun k hk => (hown.lt k hk).1)) (fun _ _ hne h hr => rm_kept hne h hr)
theorem ob9_19 : Ob9 r W tb xb t.c9 T.decomps vv av i j x y Q 19 := by
  intro o ho a w hA hf hd K hK
  rw [if_pos (wanted_none _ (get_op (·.guard) ho (by kernel_rfl)))]
  exact ob_value (run_field9 (get_op (·.op) ho (by kernel_rfl)) (eval_tmp (hf.2.2 (9, _) (by simp [fixedO])))) (hK _ _ (rm_of rfl rfl) hA (fun _ _ _ _ h => h))
theorem ob9_20 (HX : Blk W xb 26 t.cells) (HR : Blk W rb 26 nilCells) (hrx : rb < xb) (ht : TabR w0 w0.heap.size t T) (hn : ShortT n T) (hb0 : Below w0.heap.size w0 W) (h0 : w0.heap.size ≤ xb) : ObB Tryd.prog (opsO 23) 194 [] (fixedO r tb xb vv av) (killM (specs9 tb xb t.c9 T.decomps vv av i j x y) 18) (C2A xb W) (OthR w0 xb rb n) (RM xb (specs9 tb xb t.c9 T.decomps vv av i j x y)) Q 20 := by
  intro o ho a w hA hf hd K hK
  rw [if_pos (wanted_none _ (get_op (·.guard) ho (by kernel_rfl)))]
  obtain ⟨v1, h1, e1⟩ := dep_m ho hd 19 171 (.val (.pointer (some ⟨xb, 9, none⟩))) (by kernel_rfl) (by kernel_rfl) rfl (by kernel_rfl)
  obtain rfl : v1 = _ := e1
  obtain ⟨v2, h2, e2⟩ := dep_m ho hd 18 170 (.maps (T.decomps ++ F9 x y)) (by kernel_rfl) (by kernel_rfl) rfl (by kernel_rfl)
  have hX := HX.below hA (by omega)
  obtain ⟨ps, _, _, hown, _⟩ := id e2
  exact ob_skip (run_store_mp (get_op (·.op) ho (by kernel_rfl)) (eval_tmp h1) (eval_tmp h2) (own_slice hown) hX (i := 9) rfl) (hK _ _ (oth9 ht hn (by have := hn.c9; simp [F9]; omega) (hb0.trans (hA.mono (by omega))) h0 hX (HR.below hA (by omega)) (by omega) e2 (by omega)))
end
/-- The region of case 9. -/
theorem other_case9 {w0 W : World} {a : Act} {tb rb xb n : Nat} {t : Tv} {T : Tab} {vv av : Int} {Q : Exit → Act → World → Prop} (ha : ActO a tb xb vv av) (HT : Blk W tb 26 t.cells) (htx : tb < xb) (HX : Blk W xb 26 t.cells) (HR : Blk W rb 26 nilCells) (hrx : rb < xb) (ht : TabR w0 w0.heap.size t T) (hn : ShortT n T) (hn2 : n ≤ 1000) (hb0 : Below w0.heap.size w0 W) (h0 : w0.heap.size ≤ xb)
    (hend : ∀ (f : Nat → Value) w, OthR w0 xb rb n w → Q .normal ⟨(a.tmps.toList.take 12 ++ (List.range 182).map f).toArray, []⟩ w) : (Code.region 23 (opsO 23) true).wp Tryd.prog Q a W := by
  obtain ⟨p0, p1⟩ := pick_in vv (n := 3) (by decide)
  obtain ⟨q0, q1⟩ := pick_in av (n := 3) (by decide)
  obtain ⟨i, hpi⟩ := Int.eq_ofNat_of_zero_le p0
  obtain ⟨j, hpj⟩ := Int.eq_ofNat_of_zero_le q0
  have hi3 : i < ([769, 776, 803] : List Int).length := by show i < 3; omega
  have hj3 : j < ([769, 776, 803] : List Int).length := by show j < 3; omega
  obtain ⟨x, hx, _⟩ := get_of hi3
  obtain ⟨y, hy, _⟩ := get_of hj3
  refine wp_region_store (ds := []) (fixed := fixedO (fun i => (a.tmps[i]?).getD undef) tb xb vv av) (n := 194) (killM (specs9 tb xb t.c9 T.decomps vv av i j x y) 18) (C2A xb W.drew) (OthR w0 xb rb n) (RM xb (specs9 tb xb t.c9 T.decomps vv av i j x y)) 20 (by kernel_rfl) (by kernel_rfl) (by kernel_rfl) (by kernel_rfl) (by kernel_rfl) (fun i j h => kill_lt h (by rw [show (opsO 23).size = 21 by kernel_rfl]; decide)) ha.fs (Below.refl _ _) (fun i hi => ?_) (ob9_20 (W := W.drew) HX HR hrx ht hn hb0.drew h0) (fun a' w h hf => by obtain ⟨f, rfl⟩ := ha.split hf; exact hend f w h)
  have hS : Mapps W.drew w0.heap.size t.c9 T.decomps := ht.r9.below hb0.drew
  have hW : xb + 1 ≤ W.drew.heap.size := by have := HX.drew.lt; omega
  have hl : T.decomps.length ≤ 1000 := Nat.le_trans hn.c9 hn2
  match i, hi with
  | 0, _ => exact ob9_0
  | 1, _ => exact ob9_1 HT htx
  | 2, _ => exact ob9_2 hW hS h0 hl
  | 3, _ => exact ob9_3 hW
  | 4, _ => exact ob9_4
  | 5, _ => exact ob9_5 hpi
  | 6, _ => exact ob9_6 hx
  | 7, _ => exact ob9_7
  | 8, _ => exact ob9_8 hW
  | 9, _ => exact ob9_9
  | 10, _ => exact ob9_10 hW
  | 11, _ => exact ob9_11
  | 12, _ => exact ob9_12 hpj
  | 13, _ => exact ob9_13 hy
  | 14, _ => exact ob9_14
  | 15, _ => exact ob9_15 hW
  | 16, _ => exact ob9_16
  | 17, _ => exact ob9_17 hW
  | 18, _ => exact ob9_18 hW hl
  | 19, _ => exact ob9_19
  | m + 20, h => exact absurd h (by omega)
end Go.Proofs.YtkdhldhbjomiaaaDoor
/-
  keep.Other, case 10: one value in a copy of the joining types.
-/
namespace Go.Proofs.YtkdhldhbjomiaaaDoor
open Go.RowKit ND

section
variable {w : World} {a : Act} {o : Oper}
theorem run_field2 {x : Operand} {b : Nat} (ho : o.op = .fieldAddr 26 x 2) (hx : a.eval x = .pointer (some ⟨b, 0, none⟩)) : (execOp a.eval o).run Tryd.prog w = .ok (.value (.pointer (some ⟨b, 2, none⟩))) w := by
  unfold execOp
  rw [ho]
  simp only [hx]
  go_simp
theorem run_at_sp {x y : Operand} {g j n c : Nat} (ho : o.op = .indexAddr 22 x y) (hx : a.eval x = .slice (some ⟨g, 0, none⟩) n c) (hy : a.eval y = .int .i64 (j : Int)) (hj : j < n) : (execOp a.eval o).run Tryd.prog w = .ok (.value (.pointer (some ⟨g, j * 3, none⟩))) w := by
  have h0 : (0 : Int) ≤ (j : Int) := by omega
  have h1 : (j : Int) < (n : Int) := by omega
  unfold execOp
  rw [ho]
  simp only [hx, hy]
  go_simp
theorem run_val {x : Operand} {g i : Nat} (ho : o.op = .fieldAddr 64 x 2) (hx : a.eval x = .pointer (some ⟨g, i, none⟩)) : (execOp a.eval o).run Tryd.prog w = .ok (.value (.pointer (some ⟨g, i + 2, none⟩))) w := by
  unfold execOp
  rw [ho]
  simp only [hx]
  go_simp
theorem run_len_sp {x : Operand} {A : Option Addr} {n c : Nat} (ho : o.op = .call { callee := .builtin .len, args := #[x], argTypes := #[22] }) (hx : a.eval x = .slice A n c) : (execOp a.eval o).run Tryd.prog w = .ok (.value (.int .i64 (n : Int))) w := by
  unfold execOp
  rw [ho]
  simp only [resolve, invoke, builtin, Sem.run_bind, Sem.run_pure, Result.andThen_ok, List.map_toArray, List.map_cons, List.map_nil, hx]
  go_simp
theorem run_store_int {x y : Operand} {b i : Nat} {n : Int} {u : Value} (ho : o.op = .store 3 x y) (hx : a.eval x = .pointer (some ⟨b, i, none⟩)) (hy : a.eval y = .int .i64 n) (h1 : w.cell? ⟨b, i, none⟩ = some u) (h2 : w.frozen? ⟨b, i, none⟩ = false) : (execOp a.eval o).run Tryd.prog w = .ok .skip (w.setCell ⟨b, i, none⟩ (.int .i64 n)) := by
  unfold execOp
  rw [ho]
  simp only [hx, hy]
  go_simp
end
theorem own_le {w : World} {base base' size n : Nat} {e : TypeId} {v : Value} {xs : List Value} (h : w.ownsRow base e size v n xs) (hb : base' ≤ base) : w.ownsRow base' e size v n xs :=
  ⟨h.1, h.2.imp id fun ⟨g, cap, cur, hv, h1, h2⟩ => ⟨g, cap, cur, hv, Nat.le_trans hb h1, h2⟩⟩
/-- Another value at j. -/
def setV (L : List Sp) (j : Nat) (p : Int) : List Sp := match L[j]? with
  | some s => L.set j (s.1, s.2.1, p)
  | none => L
theorem setV_len (L : List Sp) (j : Nat) (p : Int) : (setV L j p).length = L.length := by
  unfold setV; split <;> simp
theorem setV_cells : ∀ (L : List Sp) (j : Nat) (p : Int), j < L.length → (L.flatMap spCells).set (j * 3 + 2) (.int .i64 p) = (setV L j p).flatMap spCells := by
  intro L
  induction L with
  | nil => intro j p h; simp at h
  | cons s r ih =>
    intro j p h
    cases j with
    | zero => simp [setV, spCells]
    | succ j =>
      have h2 := ih j p (by simpa using h)
      have e : setV (s :: r) (j + 1) p = s :: setV r j p := by
        unfold setV
        rw [List.getElem?_cons_succ]
        cases r[j]? <;> rfl
      rw [e, List.flatMap_cons, List.flatMap_cons, ← h2]
      have e2 : (j + 1) * 3 + 2 = j * 3 + 2 + 3 := by omega
      rw [e2]
      simp [spCells]

section
variable {w0 w6 : World} {xb rb n base : Nat} {t : Tv} {T : Tab} {v6 : Value}
/-- The copy stands in its field. -/
theorem oth2' {D' : List Sp} (ht : TabR w0 w0.heap.size t T) (hn : ShortT n T) (hD : D'.length ≤ n + 2) (hb : Below w0.heap.size w0 w6) (hX : Blk w6 xb 26 #[t.c0, t.c1, v6, t.c3, t.c4, t.c5, t.c6, t.c7, t.c8, t.c9, t.c10, t.c11]) (hR : Blk w6 rb 26 nilCells) (hM : w6.ownsRow base 64 3 v6 D'.length (D'.flatMap spCells)) :
    OthR w0 xb rb n w6 := by
  have ht' := (ht.below hb).more hb.size
  exact ⟨{ t with c2 := v6 }, { T with joining := D' }, hX, { ht' with r2 := Spans.of_own hM }, { hn.more (Nat.le_add_right n 2) with c2 := hD }, hb, hR⟩
end

def CAt (W w : World) : Prop := w = W
def specs10 (xb : Nat) (g c len : Nat) (vv av : Int) (j : Nat) : List SpecM := [.val (.pointer (some ⟨xb, 2, none⟩)), .val (.slice (some ⟨g, 0, none⟩) len c), .val (.int .i64 av), .val (.pointer (some ⟨xb, 2, none⟩)), .val (.slice (some ⟨g, 0, none⟩) len c), .val (.int .i64 (len : Int)), .val (.int .i64 (j : Int)), .val (.int .i64 vv), .val (.int .i64 (pick vv 8)), .val (.pointer (some ⟨g, j * 3, none⟩)), .val (.pointer (some ⟨g, j * 3 + 2, none⟩))]
section
variable {w0 W : World} {xb rb n : Nat} {t : Tv} {T : Tab} {vv av : Int} {j g c len tb : Nat} {r : Nat → Value} {Q : Exit → Act → World → Prop}
def Ob10 (r : Nat → Value) (tb : Nat) (W : World) (xb g c len : Nat) (vv av : Int) (j : Nat) (Q : Exit → Act → World → Prop) (k : Nat) : Prop := ObA Tryd.prog (opsO 27) 194 [] (fixedO r tb xb vv av) (killM (specs10 xb g c len vv av j) 11) (CAt W) (RM xb (specs10 xb g c len vv av j)) Q k
theorem ob10_0 : Ob10 r tb W xb g c len vv av j Q 0 := by
  intro o ho a w hA hf hd K hK
  rw [if_pos (wanted_none _ (get_op (·.guard) ho (by kernel_rfl)))]
  exact ob_value (run_field2 (get_op (·.op) ho (by kernel_rfl)) (eval_tmp (hf.2.2 (9, _) (by simp [fixedO])))) (hK _ _ (rm_of rfl rfl) hA (fun _ _ _ _ h => h))
theorem ob10_3 : Ob10 r tb W xb g c len vv av j Q 3 := by
  intro o ho a w hA hf hd K hK
  rw [if_pos (wanted_none _ (get_op (·.guard) ho (by kernel_rfl)))]
  exact ob_value (run_field2 (get_op (·.op) ho (by kernel_rfl)) (eval_tmp (hf.2.2 (9, _) (by simp [fixedO])))) (hK _ _ (rm_of rfl rfl) hA (fun _ _ _ _ h => h))
theorem ob10_1 {cs : Array Value} (hX : Blk W xb 26 cs) (hc : cs[2]? = some (.slice (some ⟨g, 0, none⟩) len c)) : Ob10 r tb W xb g c len vv av j Q 1 := by
  intro o ho a w hA hf hd K hK
  rw [if_pos (wanted_none _ (get_op (·.guard) ho (by kernel_rfl)))]
  obtain ⟨v1, h1, e1⟩ := dep_m ho hd 0 182 (.val (.pointer (some ⟨xb, 2, none⟩))) (by kernel_rfl) (by kernel_rfl) rfl (by kernel_rfl)
  obtain rfl : v1 = _ := e1
  obtain rfl : w = W := hA
  exact ob_value (run_load_sp (get_op (·.op) ho (by kernel_rfl)) (eval_tmp h1) (hX.at_ hc)) (hK _ _ (rm_of rfl rfl) rfl (fun _ _ _ _ h => h))
theorem ob10_4 {cs : Array Value} (hX : Blk W xb 26 cs) (hc : cs[2]? = some (.slice (some ⟨g, 0, none⟩) len c)) : Ob10 r tb W xb g c len vv av j Q 4 := by
  intro o ho a w hA hf hd K hK
  rw [if_pos (wanted_none _ (get_op (·.guard) ho (by kernel_rfl)))]
  obtain ⟨v1, h1, e1⟩ := dep_m ho hd 3 185 (.val (.pointer (some ⟨xb, 2, none⟩))) (by kernel_rfl) (by kernel_rfl) rfl (by kernel_rfl)
  obtain rfl : v1 = _ := e1
  obtain rfl : w = W := hA
  exact ob_value (run_load_sp (get_op (·.op) ho (by kernel_rfl)) (eval_tmp h1) (hX.at_ hc)) (hK _ _ (rm_of rfl rfl) rfl (fun _ _ _ _ h => h))
theorem ob10_2 : Ob10 r tb W xb g c len vv av j Q 2 := by
  intro o ho a w hA hf hd K hK
  rw [if_pos (wanted_none _ (get_op (·.guard) ho (by kernel_rfl)))]
  exact ob_move (get_op (·.op) ho (by kernel_rfl)) (eval_tmp (hf.2.2 (2, _) (by simp [fixedO]))) (hK _ _ (rm_of rfl rfl) hA (fun _ _ _ _ h => h))
theorem ob10_7 : Ob10 r tb W xb g c len vv av j Q 7 := by
  intro o ho a w hA hf hd K hK
  rw [if_pos (wanted_none _ (get_op (·.guard) ho (by kernel_rfl)))]
  exact ob_move (get_op (·.op) ho (by kernel_rfl)) (eval_tmp (hf.2.2 (3, _) (by simp [fixedO]))) (hK _ _ (rm_of rfl rfl) hA (fun _ _ _ _ h => h))
theorem ob10_5 : Ob10 r tb W xb g c len vv av j Q 5 := by
  intro o ho a w hA hf hd K hK
  rw [if_pos (wanted_none _ (get_op (·.guard) ho (by kernel_rfl)))]
  obtain ⟨v1, h1, e1⟩ := dep_m ho hd 4 186 (.val (.slice (some ⟨g, 0, none⟩) len c)) (by kernel_rfl) (by kernel_rfl) rfl (by kernel_rfl)
  obtain rfl : v1 = _ := e1
  exact ob_value (run_len_sp (get_op (·.op) ho (by kernel_rfl)) (eval_tmp h1)) (hK _ _ (rm_of rfl rfl) hA (fun _ _ _ _ h => h))
theorem ob10_6 (hp : pick av (len : Int) = (j : Int)) (h0 : 0 < len) (hl : len ≤ 1000) : Ob10 r tb W xb g c len vv av j Q 6 := by
  intro o ho a w hA hf hd K hK
  rw [if_pos (wanted_none _ (get_op (·.guard) ho (by kernel_rfl)))]
  obtain ⟨v1, h1, e1⟩ := dep_m ho hd 2 184 (.val (.int .i64 av)) (by kernel_rfl) (by kernel_rfl) rfl (by kernel_rfl)
  obtain rfl : v1 = _ := e1
  obtain ⟨v2, h2, e2⟩ := dep_m ho hd 5 187 (.val (.int .i64 (len : Int))) (by kernel_rfl) (by kernel_rfl) rfl (by kernel_rfl)
  obtain rfl : v2 = _ := e2
  exact ob_enter (enter2 (tys := #[3, 3]) (get_op (·.op) ho (by kernel_rfl)) (eval_tmp h1) (eval_tmp h2) (fun args w => enters_of Tryd.func16 (by kernel_rfl) rfl args w)) (pick_any av (len : Int) w (by omega) (by omega)) fun e w' ⟨he, hw⟩ => ⟨_, he, by subst hw; exact hK _ _ (rm_of rfl (by rw [hp]; rfl)) hA (fun _ _ _ _ h => h)⟩
theorem ob10_8 : Ob10 r tb W xb g c len vv av j Q 8 := by
  intro o ho a w hA hf hd K hK
  rw [if_pos (wanted_none _ (get_op (·.guard) ho (by kernel_rfl)))]
  obtain ⟨v1, h1, e1⟩ := dep_m ho hd 7 189 (.val (.int .i64 vv)) (by kernel_rfl) (by kernel_rfl) rfl (by kernel_rfl)
  obtain rfl : v1 = _ := e1
  exact ob_enter (enter2 (y := .const (.int .i64 8)) (tys := #[3, 3]) (get_op (·.op) ho (by kernel_rfl)) (eval_tmp h1) rfl (fun args w => enters_of Tryd.func16 (by kernel_rfl) rfl args w)) (pick_any vv 8 w (by omega) (by omega)) fun e w' ⟨he, hw⟩ => ⟨_, he, by subst hw; exact hK _ _ (rm_of rfl rfl) hA (fun _ _ _ _ h => h)⟩
theorem ob10_9 (hj : j < len) : Ob10 r tb W xb g c len vv av j Q 9 := by
  intro o ho a w hA hf hd K hK
  rw [if_pos (wanted_none _ (get_op (·.guard) ho (by kernel_rfl)))]
  obtain ⟨v1, h1, e1⟩ := dep_m ho hd 1 183 (.val (.slice (some ⟨g, 0, none⟩) len c)) (by kernel_rfl) (by kernel_rfl) rfl (by kernel_rfl)
  obtain rfl : v1 = _ := e1
  obtain ⟨v2, h2, e2⟩ := dep_m ho hd 6 188 (.val (.int .i64 (j : Int))) (by kernel_rfl) (by kernel_rfl) rfl (by kernel_rfl)
  obtain rfl : v2 = _ := e2
  exact ob_value (run_at_sp (get_op (·.op) ho (by kernel_rfl)) (eval_tmp h1) (eval_tmp h2) hj) (hK _ _ (rm_of rfl rfl) hA (fun _ _ _ _ h => h))
theorem ob10_10 : Ob10 r tb W xb g c len vv av j Q 10 := by
  intro o ho a w hA hf hd K hK
  rw [if_pos (wanted_none _ (get_op (·.guard) ho (by kernel_rfl)))]
  obtain ⟨v1, h1, e1⟩ := dep_m ho hd 9 191 (.val (.pointer (some ⟨g, j * 3, none⟩))) (by kernel_rfl) (by kernel_rfl) rfl (by kernel_rfl)
  obtain rfl : v1 = _ := e1
  exact ob_value (run_val (get_op (·.op) ho (by kernel_rfl)) (eval_tmp h1)) (hK _ _ (rm_of rfl rfl) hA (fun _ _ _ _ h => h))
theorem ob10_11 (HX : Blk W xb 26 #[t.c0, t.c1, .slice (some ⟨g, 0, none⟩) T.joining.length c, t.c3, t.c4, t.c5, t.c6, t.c7, t.c8, t.c9, t.c10, t.c11]) (HR : Blk W rb 26 nilCells) (hrx : rb < xb) (ht : TabR w0 w0.heap.size t T) (hn : ShortT n T) (hb0 : Below w0.heap.size w0 W) (h0 : w0.heap.size ≤ xb)
    (hj : j < T.joining.length) (hM : W.ownsRow (xb + 1) 64 3 (.slice (some ⟨g, 0, none⟩) T.joining.length c) T.joining.length (T.joining.flatMap spCells)) : ObB Tryd.prog (opsO 27) 194 [] (fixedO r tb xb vv av) (killM (specs10 xb g c T.joining.length vv av j) 11) (CAt W) (OthR w0 xb rb n) (RM xb (specs10 xb g c T.joining.length vv av j)) Q 11 := by
  intro o ho a w hA hf hd K hK
  rw [if_pos (wanted_none _ (get_op (·.guard) ho (by kernel_rfl)))]
  obtain ⟨v1, h1, e1⟩ := dep_m ho hd 10 192 (.val (.pointer (some ⟨g, j * 3 + 2, none⟩))) (by kernel_rfl) (by kernel_rfl) rfl (by kernel_rfl)
  obtain rfl : v1 = _ := e1
  obtain ⟨v2, h2, e2⟩ := dep_m ho hd 8 190 (.val (.int .i64 (pick vv 8))) (by kernel_rfl) (by kernel_rfl) rfl (by kernel_rfl)
  obtain rfl : v2 = _ := e2
  obtain rfl : w = W := hA
  obtain ⟨s, hs⟩ : ∃ s, T.joining[j]? = some s := ⟨_, List.getElem?_eq_getElem hj⟩
  obtain ⟨_, _, c2⟩ := spCells_at hs
  have hlt := (hM.lt g rfl).1
  obtain ⟨q1, q2⟩ := hM.stored (j * 3 + 2) (.int .i64 (pick vv 8))
  rw [setV_cells _ _ _ hj] at q1
  refine ob_skip (run_store_int (get_op (·.op) ho (by kernel_rfl)) (eval_tmp h1) (eval_tmp h2) ((hM.cellAt (j * 3 + 2) (by omega)).trans c2) (hM.frozenAt _)) (hK _ _ ?_)
  refine oth2' (D' := setV T.joining j (pick vv 8)) (v6 := .slice (some ⟨g, 0, none⟩) T.joining.length c) (base := xb + 1) ht hn ?_ (hb0.setCell (p := ⟨g, j * 3 + 2, none⟩) (by show _ ≤ g; omega) _) (HX.far (by show xb ≠ g; omega) _) (HR.far (by show rb ≠ g; omega) _) ?_
  · rw [setV_len]; have := hn.c2; omega
  · rw [setV_len]; exact q1
end
/-- The region of case 10. -/
theorem other_case10 {w0 W : World} {a : Act} {tb rb xb n g c : Nat} {t : Tv} {T : Tab} {vv av : Int} {Q : Exit → Act → World → Prop} (ha : ActO a tb xb vv av) (HX : Blk W xb 26 #[t.c0, t.c1, .slice (some ⟨g, 0, none⟩) T.joining.length c, t.c3, t.c4, t.c5, t.c6, t.c7, t.c8, t.c9, t.c10, t.c11]) (HR : Blk W rb 26 nilCells) (hrx : rb < xb) (ht : TabR w0 w0.heap.size t T) (hn : ShortT n T) (hn2 : n ≤ 1000) (hb0 : Below w0.heap.size w0 W) (h0 : w0.heap.size ≤ xb)
    (hpos : 0 < T.joining.length) (hM : W.ownsRow (xb + 1) 64 3 (.slice (some ⟨g, 0, none⟩) T.joining.length c) T.joining.length (T.joining.flatMap spCells))
    (hend : ∀ (f : Nat → Value) w, OthR w0 xb rb n w → Q .normal ⟨(a.tmps.toList.take 12 ++ (List.range 182).map f).toArray, []⟩ w) : (Code.region 27 (opsO 27) true).wp Tryd.prog Q a W := by
  obtain ⟨p0, p1⟩ := pick_in av (n := (T.joining.length : Int)) (by omega)
  obtain ⟨j, hpj⟩ := Int.eq_ofNat_of_zero_le p0
  have hj : j < T.joining.length := by omega
  have hl : T.joining.length ≤ 1000 := Nat.le_trans hn.c2 hn2
  refine wp_region_store (ds := []) (fixed := fixedO (fun i => (a.tmps[i]?).getD undef) tb xb vv av) (n := 194) (killM (specs10 xb g c T.joining.length vv av j) 11) (CAt W.drew) (OthR w0 xb rb n) (RM xb (specs10 xb g c T.joining.length vv av j)) 11 (by kernel_rfl) (by kernel_rfl) (by kernel_rfl) (by kernel_rfl) (by kernel_rfl) (fun i j h => kill_lt h (by rw [show (opsO 27).size = 12 by kernel_rfl]; decide)) ha.fs rfl (fun i hi => ?_) (ob10_11 (W := W.drew) HX HR hrx ht hn hb0.drew h0 hj hM.drew) (fun a' w h hf => by obtain ⟨f, rfl⟩ := ha.split hf; exact hend f w h)
  match i, hi with
  | 0, _ => exact ob10_0
  | 1, _ => exact ob10_1 HX.drew rfl
  | 2, _ => exact ob10_2
  | 3, _ => exact ob10_3
  | 4, _ => exact ob10_4 HX.drew rfl
  | 5, _ => exact ob10_5
  | 6, _ => exact ob10_6 hpj hpos hl
  | 7, _ => exact ob10_7
  | 8, _ => exact ob10_8
  | 9, _ => exact ob10_9 hj
  | 10, _ => exact ob10_10
  | m + 11, h => exact absurd h (by omega)
end Go.Proofs.YtkdhldhbjomiaaaDoor
