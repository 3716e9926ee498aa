/-
  Merged texts: lemmas and walks that the last text of this claim leans on.
-/
import Derived.Test.YtikcfoobfobmnaaGreatDoorMgB75
import Derived.Test.YtikcfoobfobmnaaGreatDoorMgB71
import Derived.Lib.QuietBelow
import Derived.BigQuiet
import Derived.Test.YtikcfoobfobmnaaGreatDoorMgB73
import Derived.Test.YtikcfoobfobmnaaGreatDoorMgB74
import Derived.Deep.LoopGhost
/-
  The state of keep.decomps' loop, and what keeps it.
-/
namespace Go.Proofs.YtikcfoobfobmnaaGreatDoor
open Go.RowKit ND

theorem OwnM.restrict {S S' : List Nat} {w : World} {base : Nat} {v : Value} {D : List Mp} (h : OwnM S w base v D) (hS : ∀ x ∈ S', x ∈ S) : OwnM S' w base v D := by
  obtain ⟨ps, hm, hlen, hown, hr⟩ := h
  refine ⟨ps, hm, hlen, hown, fun i p d hp hd => (hr i p d hp hd).reveil fun p x _ hn hx => ⟨fun h => hn ?_, hx⟩⟩
  rcases List.mem_append.1 h with h | h
  · exact List.mem_append_left _ (hS _ h)
  · exact List.mem_append_right _ h
theorem own_own {W : World} {base base' : Nat} {t e : TypeId} {size size' n n' : Nat} {v v' : Value} {xs xs' : List Value} (h : W.ownsRow base e size v n xs) (h' : W.ownsRow base' t size' v' n' xs') (hne : t ≠ e) : ∀ q, v.ownBlock = some q → v'.ownBlock ≠ some q := by
  intro q hq
  rcases h.2 with ⟨rfl, _⟩ | ⟨g', cap, cur, rfl, _, hg, _⟩
  · cases hq
  · simp only [Value.ownBlock, Option.some.injEq] at hq
    subst hq
    exact own_ne h' (show Blk W g' e cur from hg) (fun e => hne e.symm)

theorem Blk.drew {w : World} {g : Nat} {t : TypeId} {cs : Array Value} (h : Blk w g t cs) : Blk w.drew g t cs := h
theorem own_one {W : World} {B g : Nat} {e : TypeId} {u : Value} (h : W.ownsRow B e 1 (.slice (some ⟨g, 0, none⟩) 1 1) 1 [u]) : Blk W g e #[u] := by
  rcases h.2 with ⟨h, _⟩ | ⟨g', cap, cur, hv, _, hg, _, _, hs, ht⟩
  · cases h
  · cases hv
    have e1 : cur.toList = [u] := by rw [← ht, List.take_of_length_le (by rw [Array.length_toList, hs]; omega)]
    have e2 : cur = #[u] := by rw [← Array.toList_inj, e1]
    rw [← e2]; exact hg
theorem own_of_one {W : World} {B g : Nat} {e : TypeId} {u : Value} (h : Blk W g e #[u]) (hB : B ≤ g) : W.ownsRow B e 1 (.slice (some ⟨g, 0, none⟩) 1 1) 1 [u] :=
  ⟨rfl, .inr ⟨g, 1, #[u], rfl, hB, h, Nat.le_refl _, by decide, rfl, rfl⟩⟩

theorem Ints.veil_own' {S : List Nat} {w : World} {base : Nat} {e : TypeId} {k : IntKind} {v : Value} {xs : List Int} (h : w.ownsRow base e 1 v xs.length (xs.map (Value.int k))) (hS : ∀ q, v.ownBlock = some q → q ∉ S) : Ints (veil S w) w.heap.size k v xs := by
  obtain ⟨A, c, hv, h1, h2, h3, h4⟩ := Ints.of_own h
  refine ⟨A, c, hv, h1, h2, h3, fun i x hi => ?_⟩
  obtain ⟨ad, rfl, hb, c0⟩ := h4 i x hi
  have hn : ad.block ∉ S := hS ad.block (by rw [hv]; rfl)
  exact ⟨ad, rfl, hb, by rw [cell_veil (by rw [block_of_add]; exact hn)]; exact c0⟩
theorem XAt.below {W W' : World} {x B : Nat} {c : Int} {sv : Value} {l : List Int} (h : XAt W x B c sv l) (hb : Below W.heap.size W W') : XAt W' x B c sv l :=
  ⟨h.1.later hb, own_later h.2 hb⟩
theorem XAt.far {W W' : World} {x B : Nat} {row : Option Nat} {c : Int} {sv : Value} {l : List Int} (h : XAt W x B c sv l) (hg : W.grownBy W' row) (h1 : row ≠ some x) (h2 : ∀ q, sv.ownBlock = some q → row ≠ some q) : XAt W' x B c sv l :=
  ⟨h.1.grown hg (fun e => h1 e.symm), h.2.kept hg (by
    cases hv : sv.ownBlock with
    | none => exact .inl rfl
    | some q => exact .inr (fun e => h2 q hv e.symm))⟩
theorem Src.below {W W' : World} {g n : Nat} {v : Value} (h : Src W g v n) (hb : Below W.heap.size W W') : Src W' g v n := by
  obtain ⟨i, h1, h2⟩ := h
  exact ⟨i, h1, h2.later hb⟩
theorem take_ne {D : List Mp} {l : List Int} {j : Nat} {d : Mp} (hd : D[j]? = some d) (h : ∀ d ∈ D.take j, d.2 ≠ l) (hl : d.2 ≠ l) : ∀ d ∈ D.take (j + 1), d.2 ≠ l := by
  intro x hx
  rw [take_snoc_get hd] at hx
  rcases List.mem_append.1 hx with hx | hx
  · exact h x hx
  · rw [List.mem_singleton] at hx; subst hx; exact hl

structure DSt (w : World) (g b n : Nat) (v c0 c1 c2 c3 c4 c5 c6 c7 c8 c11 : Value) (v9 v10 : Value) (D : List Mp) (X : List Int) (wr : World) : Prop where
  blk : Blk wr b 29 #[c0, c1, c2, c3, c4, c5, c6, c7, c8, v9, v10, c11]
  om : OwnM (List.range w.heap.size ++ v10.ownBlock.toList) wr w.heap.size v9 D
  ox : wr.ownsRow w.heap.size 3 1 v10 X.length (X.map (Value.int .i64))
  src : Src wr g v n
  oi : onlyIn [g, b] w wr

section
variable {w : World} {g b n : Nat} {v c0 c1 c2 c3 c4 c5 c6 c7 c8 c11 : Value} {v9 v10 : Value} {D : List Mp} {X : List Int} {wr w' : World}
theorem DSt.own9 (h : DSt w g b n v c0 c1 c2 c3 c4 c5 c6 c7 c8 c11 v9 v10 D X wr) : ∀ q, v9.ownBlock = some q → w.heap.size ≤ q ∧ q < wr.heap.size := fun q hq => by
  obtain ⟨ps, _, _, ho, _⟩ := h.om
  exact ho.lt q hq
theorem DSt.own10 (h : DSt w g b n v c0 c1 c2 c3 c4 c5 c6 c7 c8 c11 v9 v10 D X wr) : ∀ q, v10.ownBlock = some q → w.heap.size ≤ q ∧ q < wr.heap.size := fun q hq => h.ox.lt q hq
theorem DSt.apart (h : DSt w g b n v c0 c1 c2 c3 c4 c5 c6 c7 c8 c11 v9 v10 D X wr) : ∀ q, v9.ownBlock = some q → v10.ownBlock ≠ some q := by
  obtain ⟨ps, _, _, ho, _⟩ := h.om
  exact own_own ho h.ox (by decide)
theorem DSt.only (h : DSt w g b n v c0 c1 c2 c3 c4 c5 c6 c7 c8 c11 v9 v10 D X wr) (hgb : g < b) (hb : b < w.heap.size) (ho : onlyIn [g] wr w') (hs : Src w' g v n) :
    DSt w g b n v c0 c1 c2 c3 c4 c5 c6 c7 c8 c11 v9 v10 D X w' := by
  have h9 := h.own9
  have h10 := h.own10
  refine ⟨ho.blk h.blk (by simp; omega), h.om.kept (ho.more fun x hx => List.mem_append_left _ (by simp at hx ⊢; omega)) (fun q hq hx => ?_), ?_, hs, h.oi.trans (ho.more fun x hx => by simp at hx ⊢; exact .inl hx)⟩
  · rcases List.mem_append.1 hx with hx | hx
    · have := h9 q hq; simp at hx; omega
    · rw [Option.mem_toList] at hx; exact h.apart q hq hx
  · refine ⟨h.ox.1, ?_⟩
    rcases h.ox.2 with hn | ⟨q, cap, cur, rfl, hq, hg, hrest⟩
    · exact .inl hn
    · exact .inr ⟨q, cap, cur, rfl, hq, ho.blk hg (by simp; omega), hrest⟩
/-- A mapping is appended to the own row. -/
theorem DSt.append (h : DSt w g b n v c0 c1 c2 c3 c4 c5 c6 c7 c8 c11 v9 v10 D X wr) (hgb : g < b) (hb : b < w.heap.size) {Y : World} {v9' : Value} {D' : List Mp}
    (ho : onlyIn [] wr Y) (hg : Y.grownBy w' v9.ownBlock) (hM : OwnM (List.range w.heap.size ++ v10.ownBlock.toList) w' w.heap.size v9' D') :
    DSt w g b n v c0 c1 c2 c3 c4 c5 c6 c7 c8 c11 v9' v10 D' X (w'.setCell ⟨b, 9, none⟩ v9') := by
  have h9 := h.own9
  have h10 := h.own10
  have hnot : ∀ q, q < w.heap.size → some q ≠ v9.ownBlock := fun q hq e => by have := h9 q e.symm; omega
  have hset : w'.grownBy (w'.setCell ⟨b, 9, none⟩ v9') (some b) := grown_setCell (grown_refl w' (some b)) 9 v9'
  have hox' : w'.ownsRow w.heap.size 3 1 v10 X.length (X.map (Value.int .i64)) := by
    refine ⟨h.ox.1, ?_⟩
    rcases h.ox.2 with hn | ⟨q, cap, cur, rfl, hq, hgq, hrest⟩
    · exact .inl hn
    · exact .inr ⟨q, cap, cur, rfl, hq, Blk.grown (show Blk Y q 3 cur from ho.blk hgq (by simp)) hg (fun e => h.apart q e.symm rfl), hrest⟩
  have hno9 : ∀ q, v9'.ownBlock = some q → w.heap.size ≤ q ∧ v10.ownBlock ≠ some q := fun q hq => by
    obtain ⟨ps, _, _, hown, _⟩ := hM
    exact ⟨(hown.lt q hq).1, own_own hown hox' (by decide) q hq⟩
  refine ⟨?_, ?_, ?_, ?_, ?_⟩
  · simpa using ((ho.blk h.blk (by simp)).grown hg (hnot b (by omega))).put 9 v9'
  · refine hM.kept (onlyIn.of_grown hset (List.mem_append_left _ (by simp; omega))) fun q hq hx => ?_
    rcases List.mem_append.1 hx with hx | hx
    · have := hno9 q hq; simp at hx; omega
    · rw [Option.mem_toList] at hx; exact (hno9 q hq).2 hx
  · exact hox'.kept hset (by
      cases hv : v10.ownBlock with
      | none => exact .inl rfl
      | some q => have := h10 q hv; refine .inr (fun e => ?_); injection e; omega)
  · obtain ⟨i, h1, h2⟩ := h.src
    exact ⟨i, h1, ((ho.blk h2 (by simp)).grown hg (hnot g (by omega))).far (by simp; omega) _⟩
  · have oX := h.oi.trans (ho.more (S' := [g, b]) (by simp))
    refine onlyIn.trans ⟨hg.os.trans oX.1, hg.tape.trans oX.2.1, hg.output.trans oX.2.2.1, Nat.le_trans oX.2.2.2.1 hg.size, fun q hq hl => (hg.block q (by have := oX.2.2.2.1; omega) (hnot q (by omega))).trans (oX.2.2.2.2 q hq hl)⟩ (onlyIn.of_grown hset (by simp))
/-- A code point is excluded. -/
theorem DSt.exclude (h : DSt w g b n v c0 c1 c2 c3 c4 c5 c6 c7 c8 c11 v9 v10 D X wr) (hgb : g < b) (hb : b < w.heap.size) {Y : World} {v10' : Value} {X' : List Int}
    (ho : onlyIn [] wr Y) (hg : Y.grownBy w' v10.ownBlock) (hr : ∀ q, v10'.ownBlock = some q → v10.ownBlock = some q ∨ q = Y.heap.size) (hX : w'.ownsRow w.heap.size 3 1 v10' X'.length (X'.map (Value.int .i64))) :
    DSt w g b n v c0 c1 c2 c3 c4 c5 c6 c7 c8 c11 v9 v10' D X' (w'.setCell ⟨b, 10, none⟩ v10') := by
  have h9 := h.own9
  have h10 := h.own10
  have hnot : ∀ q, q < w.heap.size → some q ≠ v10.ownBlock := fun q hq e => by have := h10 q e.symm; omega
  have hset : w'.grownBy (w'.setCell ⟨b, 10, none⟩ v10') (some b) := grown_setCell (grown_refl w' (some b)) 10 v10'
  have hYs : wr.heap.size ≤ Y.heap.size := ho.2.2.2.1
  refine ⟨?_, ?_, ?_, ?_, ?_⟩
  · simpa using ((ho.blk h.blk (by simp)).grown hg (hnot b (by omega))).put 10 v10'
  · have ho' : onlyIn (List.range w.heap.size ++ v10.ownBlock.toList) wr (w'.setCell ⟨b, 10, none⟩ v10') := by
      refine (ho.more (by simp)).trans ((onlyIn.of_own hg fun q hq => ?_).trans (onlyIn.of_grown hset (List.mem_append_left _ (by simp; omega))))
      exact List.mem_append_right _ (by rw [Option.mem_toList]; exact hq)
    have hk := h.om.kept ho' (fun q hq hx => by
      rcases List.mem_append.1 hx with hx | hx
      · have := h9 q hq; simp at hx; omega
      · rw [Option.mem_toList] at hx; exact h.apart q hq hx)
    obtain ⟨ps, hm, hlen, hown, hrd⟩ := h.om
    obtain ⟨ps0, hm0, hlen0, hown0, hrd0⟩ := hk
    have hsz : w'.heap.size ≤ (w'.setCell ⟨b, 10, none⟩ v10').heap.size := hset.size
    refine ⟨ps, hm, hlen, ?_, fun i p d hp hd => ?_⟩
    · refine ⟨hown.1, ?_⟩
      rcases hown.2 with hn | ⟨q, cap, cur, rfl, hb', hgq, hrest⟩
      · exact .inl hn
      · refine .inr ⟨q, cap, cur, rfl, hb', ?_, hrest⟩
        have hlt : q < wr.heap.size := (Array.getElem?_eq_some_iff.1 hgq).1
        have hqb := h9 q rfl
        exact ((Blk.grown (show Blk Y q 51 cur from ho.blk hgq (by simp)) hg (fun e => h.apart q rfl e.symm))).far (by simp; omega) _
    · refine (((hrd i p d hp hd).reveil (S' := List.range w.heap.size ++ v10'.ownBlock.toList ++ v9.ownBlock.toList) (w' := w'.setCell ⟨b, 10, none⟩ v10') fun pp x hpb hpn hpc => ?_)).more (Nat.le_trans hYs (Nat.le_trans hg.size hsz))
      simp only [List.mem_append, Option.mem_toList, not_or] at hpn ⊢
      obtain ⟨⟨hn1, hn2⟩, hn3⟩ := hpn
      refine ⟨⟨⟨hn1, fun e => ?_⟩, hn3⟩, ?_⟩
      · rcases hr _ e with e | e
        · exact hn2 e
        · omega
      · have e1 := ho.2.2.2.2 pp.block (by simp) hpb
        have e2 := hg.block pp.block (by omega) (fun e => hn2 e.symm)
        have e3 := hset.block pp.block (by have := hg.size; omega) (fun e => by injection e with e; rw [e] at hn1; simp at hn1; omega)
        unfold World.cell? at hpc ⊢
        rw [e3, e2, e1]; exact hpc
  · exact hX.kept hset (by
      cases hv : v10'.ownBlock with
      | none => exact .inl rfl
      | some q => have := (hX.lt q hv).1; refine .inr (fun e => ?_); injection e; omega)
  · obtain ⟨i, h1, h2⟩ := h.src
    exact ⟨i, h1, ((ho.blk h2 (by simp)).grown hg (hnot g (by omega))).far (by simp; omega) _⟩
  · have oX := h.oi.trans (ho.more (S' := [g, b]) (by simp))
    refine onlyIn.trans ⟨hg.os.trans oX.1, hg.tape.trans oX.2.1, hg.output.trans oX.2.2.1, Nat.le_trans oX.2.2.2.1 hg.size, fun q hq hl => (hg.block q (by have := oX.2.2.2.1; omega) (hnot q (by omega))).trans (oX.2.2.2.2 q hq hl)⟩ (onlyIn.of_grown hset (by simp))
end
end Go.Proofs.YtikcfoobfobmnaaGreatDoor
/-
  The state of keep.prototypes' loop, and what keeps it.
-/
namespace Go.Proofs.YtikcfoobfobmnaaGreatDoor
open Go.RowKit ND

theorem TabR.reveil {S S' : List Nat} {w w' : World} {B : Nat} {t : Tv} {T : Tab} (h : TabR (veil S w) B t T)
    (hk : ∀ p x, p.block < B → p.block ∉ S → w.cell? p = some x → p.block ∉ S' ∧ w'.cell? p = some x) : TabR (veil S' w') B t T :=
  ⟨h.r0.reveil hk, h.r1.reveil hk, h.r2.reveil hk, h.r3.reveil hk, h.r4.reveil hk, h.r5.reveil hk, h.r6.reveil hk, h.r7.reveil hk, h.r8.reveil hk, h.r9.reveil hk, h.r10.reveil hk, h.r11.reveil hk⟩

theorem Ints.of_blk {S : List Nat} {W : World} {k : Nat} {e : TypeId} {ys : List Int} (hb : Blk W k e (ys.map (Value.int .i64)).toArray) (hk : k ∉ S) (hl : ys.length ≤ 1000000) : Ints (veil S W) W.heap.size .i64 (.slice (some ⟨k, 0, none⟩) ys.length ys.length) ys :=
  ⟨_, _, rfl, Nat.le_refl _, by unfold maxLen; omega, (by intro h; cases h), fun i x hi => ⟨_, rfl, hb.lt, by
    rw [cell_veil (by rw [block_of_add]; exact hk)]
    have : Addr.add ⟨k, 0, none⟩ i = ⟨k, i, none⟩ := by cases i <;> simp [Addr.add]
    rw [this]
    exact hb.at_ (by simp [hi])⟩⟩
theorem Mapps.of_blk {S : List Nat} {W : World} {k : Nat} {ps : List (Int × Value)} {D : List Mp} (hb : Blk W k 51 (mpCells ps).toArray) (hk : k ∉ S) (hl : ps.length ≤ 1000000) (hm : ps.map (·.1) = D.map (·.1))
    (hi : ∀ (i : Nat) (p : Int × Value) (d : Mp), ps[i]? = some p → D[i]? = some d → Ints (veil S W) W.heap.size .i64 p.2 d.2) : Mapps (veil S W) W.heap.size (.slice (some ⟨k, 0, none⟩) D.length ps.length) D := by
  have hlen : ps.length = D.length := by have := congrArg List.length hm; simpa using this
  refine ⟨_, _, rfl, by omega, by unfold maxLen; omega, (by intro h; cases h), fun i d hd => ?_⟩
  obtain ⟨p, hp⟩ : ∃ p, ps[i]? = some p := by
    have := (List.getElem?_eq_some_iff.1 hd).1
    exact ⟨_, List.getElem?_eq_getElem (by omega)⟩
  obtain ⟨a0, a1⟩ := mpCells_at hp
  have e1 : p.1 = d.1 := by
    have h1 : (ps.map (·.1))[i]? = (D.map (·.1))[i]? := by rw [hm]
    rw [List.getElem?_map, List.getElem?_map, hp, hd] at h1
    simpa using h1
  have hc : ∀ (j : Nat) (u : Value), (mpCells ps)[j]? = some u → (veil S W).cell? (Addr.add ⟨k, 0, none⟩ j) = some u := fun j u hj => by
    rw [cell_veil (by rw [block_of_add]; exact hk)]
    have : Addr.add ⟨k, 0, none⟩ j = ⟨k, j, none⟩ := by cases j <;> simp [Addr.add]
    rw [this]
    exact hb.at_ (by simpa using hj)
  exact ⟨_, p.2, rfl, hb.lt, by rw [← e1]; exact hc _ _ a0, hc _ _ a1, hi i p d hp hd⟩

structure PSt (w : World) (g b n : Nat) (v : Value) (t : Tv) (T : Tab) (lv : Value) (v11 : Value) (D : List Mp) (wr : World) : Prop where
  blk : Blk wr b 29 #[t.c0, t.c1, t.c2, t.c3, t.c4, t.c5, t.c6, t.c7, t.c8, t.c9, t.c10, v11]
  tr : TabR (veil ([g, b] ++ v11.ownBlock.toList) wr) wr.heap.size { t with c11 := .slice none 0 0 } { T with prototypes := [] }
  om : OwnM [g, b] wr w.heap.size v11 D
  lit : Mapps (veil ([g, b] ++ v11.ownBlock.toList) wr) wr.heap.size lv protoL
  src : Src wr g v n
  oi : onlyIn [g, b] w wr

section
variable {w : World} {g b n : Nat} {v : Value} {t : Tv} {T : Tab} {lv v11 : Value} {D : List Mp} {wr w' : World}
theorem PSt.own (h : PSt w g b n v t T lv v11 D wr) : ∀ q, v11.ownBlock = some q → w.heap.size ≤ q ∧ q < wr.heap.size := fun q hq => by
  obtain ⟨ps, _, _, ho, _⟩ := h.om
  exact ho.lt q hq
theorem PSt.only (h : PSt w g b n v t T lv v11 D wr) (hgb : g < b) (hb : b < w.heap.size) (ho : onlyIn [g] wr w') (hs : Src w' g v n) : PSt w g b n v t T lv v11 D w' := by
  have hown := h.own
  have ho2 : onlyIn [g, b] wr w' := ho.more fun x hx => by simp at hx ⊢; exact .inl hx
  have hk := onlyIn_reveil (S1 := [g, b] ++ v11.ownBlock.toList) ho2 fun x hx => List.mem_append_left _ hx
  exact ⟨ho.blk h.blk (by simp; omega), (h.tr.reveil hk).more ho.2.2.2.1, h.om.kept ho2 (fun q hq hx => by have := hown q hq; simp at hx; omega), (h.lit.reveil hk).more ho.2.2.2.1, hs, h.oi.trans ho2⟩
/-- A mapping is appended to the own row. -/
theorem PSt.append (h : PSt w g b n v t T lv v11 D wr) (hgb : g < b) (hb : b < w.heap.size) {Y : World} {v11' : Value} {D' : List Mp}
    (ho : onlyIn [] wr Y) (hg : Y.grownBy w' v11.ownBlock) (hr : ∀ q, v11'.ownBlock = some q → v11.ownBlock = some q ∨ q = Y.heap.size) (hM : OwnM [g, b] w' w.heap.size v11' D') :
    PSt w g b n v t T lv v11' D' (w'.setCell ⟨b, 11, none⟩ v11') := by
  have hown := h.own
  have hnot : ∀ q, q < w.heap.size → some q ≠ v11.ownBlock := fun q hq e => by have := hown q e.symm; omega
  have hset : w'.grownBy (w'.setCell ⟨b, 11, none⟩ v11') (some b) := grown_setCell (grown_refl w' (some b)) 11 v11'
  have hso : onlyIn [g, b] w' (w'.setCell ⟨b, 11, none⟩ v11') := onlyIn.of_grown hset (by simp)
  have ho2 : onlyIn [g, b] wr Y := ho.more (by simp)
  have k1 := onlyIn_reveil (S1 := [g, b] ++ v11.ownBlock.toList) ho2 fun x hx => List.mem_append_left _ hx
  have k2 := grown_reveil (S := [g, b]) (v := v11) (v' := v11') hg hr
  have k3 := onlyIn_reveil (S1 := [g, b] ++ v11'.ownBlock.toList) hso fun x hx => List.mem_append_left _ hx
  refine ⟨?_, ?_, ?_, ?_, ?_, ?_⟩
  · simpa using ((ho.blk h.blk (by simp)).grown hg (hnot b (by omega))).put 11 v11'
  · exact ((((((h.tr.reveil k1).more ho.2.2.2.1).reveil k2).more hg.size).reveil k3)).more hset.size
  · exact hM.kept hso (fun q hq hx => by
      rcases hr q hq with e | e
      · have := hown q e; simp at hx; omega
      · have := ho.2.2.2.1; have := h.oi.2.2.2.1; simp at hx; omega)
  · exact ((((((h.lit.reveil k1).more ho.2.2.2.1).reveil k2).more hg.size).reveil k3)).more hset.size
  · obtain ⟨i, h1, h2⟩ := h.src
    exact ⟨i, h1, ((ho.blk h2 (by simp)).grown hg (hnot g (by omega))).far (by simp; omega) _⟩
  · have oX := h.oi.trans ho2
    exact onlyIn.trans ⟨hg.os.trans oX.1, hg.tape.trans oX.2.1, hg.output.trans oX.2.2.1, Nat.le_trans oX.2.2.2.1 hg.size, fun q hq hl => (hg.block q (by have := oX.2.2.2.1; omega) (hnot q (by omega))).trans (oX.2.2.2.2 q hq hl)⟩ hso
/-- The whole of the tables. -/
theorem PSt.tab (h : PSt w g b n v t T lv v11 D wr) (hgb : g < b) (hb : b < w.heap.size) : TabR (veil [g, b] wr) wr.heap.size { t with c11 := v11 } { T with prototypes := D } := by
  have hk : ∀ (p : Addr) (x : Value), p.block < wr.heap.size → p.block ∉ [g, b] ++ v11.ownBlock.toList → wr.cell? p = some x → p.block ∉ [g, b] ∧ wr.cell? p = some x := fun p x _ hn hx => ⟨fun h => hn (List.mem_append_left _ h), hx⟩
  have hm := h.om.mapps (by intro x hx; simp at hx; omega)
  rw [veil_size] at hm
  have ht := h.tr.reveil hk
  exact ⟨ht.r0, ht.r1, ht.r2, ht.r3, ht.r4, ht.r5, ht.r6, ht.r7, ht.r8, ht.r9, ht.r10, hm⟩
end
end Go.Proofs.YtikcfoobfobmnaaGreatDoor
/-
  Contracts as a region that draws its order asks for them, where callees make memory and hand back plain values.
-/
namespace Go.Proofs.YtikcfoobfobmnaaGreatDoor
open Go.RowKit

theorem quiet_b {P : Program} {f : FuncId} {args : Array Value} {w : World} {d : Nat} {os : Array Obj} {v : Value} (h : ∀ W, Calls P f args W fun e w' => e = .returned v ∧ Below W.heap.size W w') :
    Calls P f args (Go.Sort.grow (redrawn w d) os) fun e w'' => e = .returned v ∧ ∃ p : Regrown, w'' = Go.Sort.grow (redrawn w p.d) p.os := Calls.regrown_of (h _)
theorem quiet_s {P : Program} {f : FuncId} {args : Array Value} {w : World} {d : Nat} {os : Array Obj} {v : Value} (h : ∀ W, Calls P f args W fun e w' => e = .returned v ∧ W = w') :
    Calls P f args (Go.Sort.grow (redrawn w d) os) fun e w'' => e = .returned v ∧ ∃ p : Regrown, w'' = Go.Sort.grow (redrawn w p.d) p.os :=
  (h _).mono fun _ _ ⟨he, hw⟩ => ⟨he, ⟨⟨d, os⟩, hw.symm⟩⟩
end Go.Proofs.YtikcfoobfobmnaaGreatDoor
/-
  A region that draws its order, whose first operations can come up in one order alone: they are walked one by one; what is left is quiet.
-/
namespace Go.Proofs.YtikcfoobfobmnaaGreatDoor
open Go.RowKit

theorem wpAny_one {P : Program} {ops : Array Oper} {Q : Exit → Act → World → Prop} {md : Region.Mode} {fuel : Nat} {listed : Array Bool} {a : Act} {w : World} (i : Nat) (o : Oper) (hr : Region.ready md ops listed = [i]) (ho : ops[i]? = some o)
    (h : ∀ K : Act → World → Prop, (∀ a w, wpAny P md ops Q fuel (listed.setIfInBounds i true) a w → K a w) → if Region.wanted o (yielded ops a.tmps) = true then o.wp P a w K Q else K (a.put o.dst undef) w) :
    wpAny P md ops Q (fuel + 1) listed a w := by
  refine ⟨fun h0 => absurd (hr.symm.trans h0) (by simp), fun j hj => ?_⟩
  rw [hr, List.mem_singleton] at hj
  subst hj
  have h1 := h _ (fun _ _ h => h)
  unfold wpOp
  rw [ho]
  simp only
  split
  · rename_i hw; rw [if_pos hw] at h1; exact .inl h1
  · rename_i hw; rw [if_neg hw] at h1; exact h1

theorem wpAny_below {P : Program} {ops : Array Oper} {Q : Exit → Act → World → Prop} {listed : Array Bool} {a : Act} {w : World} {n : Nat} (k : Nat) (l : List Oper) (hl : l = ops.toList.drop k) (hn : l.length = n) (hs : Region.noSelect ops = true) (hB : Region.lexFrom .any ops n k listed = true)
    (h : wpQuiet P ops (fun w' => ∃ p : Regrown, w' = Go.Sort.grow (redrawn w p.d) p.os) (fun a' => ∀ w', (∃ p : Regrown, w' = Go.Sort.grow (redrawn w p.d) p.os) → Q .normal a' w') l a) : wpAny P .any ops Q n listed a w := by
  subst hn
  refine wpAny_of_quiet (C := fun w' => ∃ p : Regrown, w' = Go.Sort.grow (redrawn w p.d) p.os) (Q := fun a' => ∀ w', (∃ p : Regrown, w' = Go.Sort.grow (redrawn w p.d) p.os) → Q .normal a' w') (fun _ w' hw' h => h w' hw') _ _ _ _ ⟨⟨w.drawn, #[]⟩, by rw [Go.Sort.grow_empty]; rfl⟩ ?_
  refine wpAnyQ_lex hs l k _ _ (fun j => ?_) hB h
  subst hl
  simp [List.getElem?_drop]
end Go.Proofs.YtikcfoobfobmnaaGreatDoor
/-
  The walks through table.columns, table.mappings and the reference's spans and mappings.
-/
namespace Go.Proofs.YtikcfoobfobmnaaGreatDoor
open Go.RowKit ND

/-- A row of columns from address ad on: the spans, the least value, the greatest value. -/
def ColAt (W : World) (B : Nat) (ad : Addr) (T : Tab) : Prop :=
  ad.block < B ∧ ∀ k c, T.cols[k]? = some c → ∃ v, W.cell? (ad.add (k * 3)) = some v ∧ W.cell? (ad.add (k * 3 + 1)) = some (.int .i64 c.2.1) ∧ W.cell? (ad.add (k * 3 + 2)) = some (.int .i64 c.2.2) ∧ Spans W B v c.1
/-- A row of lists of mappings. -/
def MpsAt (W : World) (B : Nat) (ad : Addr) (T : Tab) : Prop :=
  ad.block < B ∧ ∀ k c, T.mps[k]? = some c → ∃ v, W.cell? (ad.add k) = some v ∧ Mapps W B v c
/-- A row of lists of spans. -/
def LstAt (W : World) (B : Nat) (ad : Addr) (T : Tab) : Prop :=
  ad.block < B ∧ ∀ k c, T.cols[k]? = some c → ∃ v, W.cell? (ad.add k) = some v ∧ Spans W B v c.1
def mostL : List Int := [8, 254, 5, 11, 60, 4, 1]
def MstAt (W : World) (B : Nat) (ad : Addr) : Prop := ad.block < B ∧ ∀ (k : Nat) (m : Int), mostL[k]? = some m → W.cell? (ad.add k) = some (.int .i64 m)

def RetCols (T : Tab) (w : World) (e : Ending) (w' : World) : Prop := ∃ ad, e = .returned (.slice (some ad) 7 7) ∧ ColAt w' w'.heap.size ad T ∧ Below w.heap.size w w'
def RetMps (T : Tab) (w : World) (e : Ending) (w' : World) : Prop := ∃ ad, e = .returned (.slice (some ad) 4 4) ∧ MpsAt w' w'.heap.size ad T ∧ Below w.heap.size w w'
def RetLst (T : Tab) (w : World) (e : Ending) (w' : World) : Prop := ∃ ad am, e = .returned (.tuple #[.slice (some ad) 7 7, .slice (some am) 7 7]) ∧ LstAt w' w'.heap.size ad T ∧ MstAt w' w'.heap.size am ∧ Below w.heap.size w w'

theorem cols_of_block {w0 w : World} {t : Tv} {T : Tab} {e : TypeId} (ht : TabR w0 w0.heap.size t T) (hb : Below w0.heap.size w0 w) {h : Nat} (hh : w.heap.size = h) :
    ColAt (w.alloc (.cells #[t.c0, .int .i64 0, .int .i64 8, t.c1, .int .i64 1, .int .i64 254, t.c2, .int .i64 0, .int .i64 5, t.c3, .int .i64 0, .int .i64 11, t.c4, .int .i64 0, .int .i64 60, t.c5, .int .i64 0, .int .i64 4, t.c6, .int .i64 1, .int .i64 1] e))
      (w.alloc (.cells #[t.c0, .int .i64 0, .int .i64 8, t.c1, .int .i64 1, .int .i64 254, t.c2, .int .i64 0, .int .i64 5, t.c3, .int .i64 0, .int .i64 11, t.c4, .int .i64 0, .int .i64 60, t.c5, .int .i64 0, .int .i64 4, t.c6, .int .i64 1, .int .i64 1] e)).heap.size ⟨h, 0, none⟩ T := by
  subst hh
  have hc := cells_new w [t.c0, .int .i64 0, .int .i64 8, t.c1, .int .i64 1, .int .i64 254, t.c2, .int .i64 0, .int .i64 5, t.c3, .int .i64 0, .int .i64 11, t.c4, .int .i64 0, .int .i64 60, t.c5, .int .i64 0, .int .i64 4, t.c6, .int .i64 1, .int .i64 1] e
  have hr := ht.later (hb.alloc hb.size (.cells #[t.c0, .int .i64 0, .int .i64 8, t.c1, .int .i64 1, .int .i64 254, t.c2, .int .i64 0, .int .i64 5, t.c3, .int .i64 0, .int .i64 11, t.c4, .int .i64 0, .int .i64 60, t.c5, .int .i64 0, .int .i64 4, t.c6, .int .i64 1, .int .i64 1] e))
  refine ⟨by simp, fun k c hk => ?_⟩
  have hk7 : k < 7 := (List.getElem?_eq_some_iff.1 hk).1
  have h7 : k = 0 ∨ k = 1 ∨ k = 2 ∨ k = 3 ∨ k = 4 ∨ k = 5 ∨ k = 6 := by omega
  rcases h7 with rfl | rfl | rfl | rfl | rfl | rfl | rfl <;> cases hk
  · exact ⟨_, hc 0 _ rfl, hc 1 _ rfl, hc 2 _ rfl, hr.r0⟩
  · exact ⟨_, hc 3 _ rfl, hc 4 _ rfl, hc 5 _ rfl, hr.r1⟩
  · exact ⟨_, hc 6 _ rfl, hc 7 _ rfl, hc 8 _ rfl, hr.r2⟩
  · exact ⟨_, hc 9 _ rfl, hc 10 _ rfl, hc 11 _ rfl, hr.r3⟩
  · exact ⟨_, hc 12 _ rfl, hc 13 _ rfl, hc 14 _ rfl, hr.r4⟩
  · exact ⟨_, hc 15 _ rfl, hc 16 _ rfl, hc 17 _ rfl, hr.r5⟩
  · exact ⟨_, hc 18 _ rfl, hc 19 _ rfl, hc 20 _ rfl, hr.r6⟩
theorem mps_of_block {w0 w : World} {t : Tv} {T : Tab} {e : TypeId} (ht : TabR w0 w0.heap.size t T) (hb : Below w0.heap.size w0 w) {h : Nat} (hh : w.heap.size = h) :
    MpsAt (w.alloc (.cells #[t.c7, t.c8, t.c9, t.c11] e)) (w.alloc (.cells #[t.c7, t.c8, t.c9, t.c11] e)).heap.size ⟨h, 0, none⟩ T := by
  subst hh
  have hc := cells_new w [t.c7, t.c8, t.c9, t.c11] e
  have hr := ht.later (hb.alloc hb.size (.cells #[t.c7, t.c8, t.c9, t.c11] e))
  refine ⟨by simp, fun k c hk => ?_⟩
  have hk7 : k < 4 := (List.getElem?_eq_some_iff.1 hk).1
  have h7 : k = 0 ∨ k = 1 ∨ k = 2 ∨ k = 3 := by omega
  rcases h7 with rfl | rfl | rfl | rfl <;> cases hk
  · exact ⟨_, hc 0 _ rfl, hr.r7⟩
  · exact ⟨_, hc 1 _ rfl, hr.r8⟩
  · exact ⟨_, hc 2 _ rfl, hr.r9⟩
  · exact ⟨_, hc 3 _ rfl, hr.r11⟩
theorem lst_of_block {w0 w : World} {t : Tv} {T : Tab} {e : TypeId} (ht : TabR w0 w0.heap.size t T) (hb : Below w0.heap.size w0 w) {h : Nat} (hh : w.heap.size = h) :
    LstAt (w.alloc (.cells #[t.c0, t.c1, t.c2, t.c3, t.c4, t.c5, t.c6] e)) (w.alloc (.cells #[t.c0, t.c1, t.c2, t.c3, t.c4, t.c5, t.c6] e)).heap.size ⟨h, 0, none⟩ T := by
  subst hh
  have hc := cells_new w [t.c0, t.c1, t.c2, t.c3, t.c4, t.c5, t.c6] e
  have hr := ht.later (hb.alloc hb.size (.cells #[t.c0, t.c1, t.c2, t.c3, t.c4, t.c5, t.c6] e))
  refine ⟨by simp, fun k c hk => ?_⟩
  have hk7 : k < 7 := (List.getElem?_eq_some_iff.1 hk).1
  have h7 : k = 0 ∨ k = 1 ∨ k = 2 ∨ k = 3 ∨ k = 4 ∨ k = 5 ∨ k = 6 := by omega
  rcases h7 with rfl | rfl | rfl | rfl | rfl | rfl | rfl <;> cases hk
  · exact ⟨_, hc 0 _ rfl, hr.r0⟩
  · exact ⟨_, hc 1 _ rfl, hr.r1⟩
  · exact ⟨_, hc 2 _ rfl, hr.r2⟩
  · exact ⟨_, hc 3 _ rfl, hr.r3⟩
  · exact ⟨_, hc 4 _ rfl, hr.r4⟩
  · exact ⟨_, hc 5 _ rfl, hr.r5⟩
  · exact ⟨_, hc 6 _ rfl, hr.r6⟩
theorem LstAt.later {w w' : World} {ad : Addr} {T : Tab} (h : LstAt w w.heap.size ad T) (hb : Below w.heap.size w w') : LstAt w' w'.heap.size ad T :=
  ⟨Nat.lt_of_lt_of_le h.1 hb.size, fun k c hk => by
    obtain ⟨v, h1, h2⟩ := h.2 k c hk
    exact ⟨v, (hb.cell (p := ad.add k) (by rw [block_of_add]; exact h.1)).trans h1, h2.later hb⟩⟩
theorem mst_of_block (w : World) (e : TypeId) {h : Nat} (hh : w.heap.size = h) : MstAt (w.alloc (.cells #[.int .i64 8, .int .i64 254, .int .i64 5, .int .i64 11, .int .i64 60, .int .i64 4, .int .i64 1] e)) (w.alloc (.cells #[.int .i64 8, .int .i64 254, .int .i64 5, .int .i64 11, .int .i64 60, .int .i64 4, .int .i64 1] e)).heap.size ⟨h, 0, none⟩ := by
  subst hh
  refine ⟨by simp, fun k m hk => ?_⟩
  refine cells_new w (mostL.map (Value.int .i64)) e k _ ?_
  rw [List.getElem?_map, hk]; rfl

theorem TabR.shape {w : World} {B : Nat} {t : Tv} {T : Tab} (h : TabR w B t T) : ∃ (A0 A1 A2 A3 A4 A5 A6 A7 A8 A9 A10 A11 : Option Addr) (k0 k1 k2 k3 k4 k5 k6 k7 k8 k9 k10 k11 : Nat),
    t = ⟨.slice A0 T.category.length k0, .slice A1 T.cls.length k1, .slice A2 T.joining.length k2, .slice A3 T.bidi.length k3, .slice A4 T.script.length k4, .slice A5 T.status.length k5, .slice A6 T.ignorable.length k6,
      .slice A7 T.extensions.length k7, .slice A8 T.maps.length k8, .slice A9 T.decomps.length k9, .slice A10 T.excluded.length k10, .slice A11 T.prototypes.length k11⟩ := by
  obtain ⟨c0, c1, c2, c3, c4, c5, c6, c7, c8, c9, c10, c11⟩ := t
  obtain ⟨A0, k0, h0, _⟩ := h.r0
  obtain ⟨A1, k1, h1, _⟩ := h.r1
  obtain ⟨A2, k2, h2, _⟩ := h.r2
  obtain ⟨A3, k3, h3, _⟩ := h.r3
  obtain ⟨A4, k4, h4, _⟩ := h.r4
  obtain ⟨A5, k5, h5, _⟩ := h.r5
  obtain ⟨A6, k6, h6, _⟩ := h.r6
  obtain ⟨A7, k7, h7, _⟩ := h.r7
  obtain ⟨A8, k8, h8, _⟩ := h.r8
  obtain ⟨A9, k9, h9, _⟩ := h.r9
  obtain ⟨A10, k10, h10, _⟩ := h.r10
  obtain ⟨A11, k11, h11, _⟩ := h.r11
  simp only at h0 h1 h2 h3 h4 h5 h6 h7 h8 h9 h10 h11
  subst h0 h1 h2 h3 h4 h5 h6 h7 h8 h9 h10 h11
  exact ⟨A0, A1, A2, A3, A4, A5, A6, A7, A8, A9, A10, A11, k0, k1, k2, k3, k4, k5, k6, k7, k8, k9, k10, k11, rfl⟩

set_option maxRecDepth 100000 in
set_option maxHeartbeats 400000 in
theorem columns_any (t : Tv) (T : Tab) (w : World) (ht : TabR w w.heap.size t T) : Calls Tryz.prog 88 #[t.val] w (RetCols T w) := by
  obtain ⟨A0, A1, A2, A3, A4, A5, A6, A7, A8, A9, A10, A11, k0, k1, k2, k3, k4, k5, k6, k7, k8, k9, k10, k11, rfl⟩ := ht.shape
  have HT := Lib.hid ht; clear ht
  go_enter Tryz.func88, Tryz.ntmps88
  go_wp2_with fail
  go_ret
  refine ⟨_, rfl, cols_of_block HT.out ?_ (by simp), ?_⟩
  all_goals
    repeat (first | exact Below.refl _ _ | refine Below.setCell ?_ (by simp) _ | refine Below.alloc ?_ (by simp <;> omega) _)
set_option maxRecDepth 100000 in
set_option maxHeartbeats 400000 in
theorem mappings_any (t : Tv) (T : Tab) (w : World) (ht : TabR w w.heap.size t T) : Calls Tryz.prog 89 #[t.val] w (RetMps T w) := by
  obtain ⟨A0, A1, A2, A3, A4, A5, A6, A7, A8, A9, A10, A11, k0, k1, k2, k3, k4, k5, k6, k7, k8, k9, k10, k11, rfl⟩ := ht.shape
  have HT := Lib.hid ht; clear ht
  go_enter Tryz.func89, Tryz.ntmps89
  go_wp2_with fail
  go_ret
  refine ⟨_, rfl, mps_of_block HT.out ?_ (by simp), ?_⟩
  all_goals
    repeat (first | exact Below.refl _ _ | refine Below.setCell ?_ (by simp) _ | refine Below.alloc ?_ (by simp <;> omega) _)
set_option maxRecDepth 100000 in
set_option maxHeartbeats 400000 in
theorem refMappings_any (t : Tv) (T : Tab) (w : World) (ht : TabR w w.heap.size t T) : Calls Tryz.prog 18 #[t.val] w (RetMps T w) := by
  obtain ⟨A0, A1, A2, A3, A4, A5, A6, A7, A8, A9, A10, A11, k0, k1, k2, k3, k4, k5, k6, k7, k8, k9, k10, k11, rfl⟩ := ht.shape
  have HT := Lib.hid ht; clear ht
  go_enter Tryz.func18, Tryz.ntmps18
  go_wp2_with fail
  go_ret
  refine ⟨_, rfl, mps_of_block HT.out ?_ (by simp), ?_⟩
  all_goals
    repeat (first | exact Below.refl _ _ | refine Below.setCell ?_ (by simp) _ | refine Below.alloc ?_ (by simp <;> omega) _)
set_option maxRecDepth 100000 in
set_option maxHeartbeats 400000 in
theorem refSpans_any (t : Tv) (T : Tab) (w : World) (ht : TabR w w.heap.size t T) : Calls Tryz.prog 16 #[t.val] w (RetLst T w) := by
  obtain ⟨A0, A1, A2, A3, A4, A5, A6, A7, A8, A9, A10, A11, k0, k1, k2, k3, k4, k5, k6, k7, k8, k9, k10, k11, rfl⟩ := ht.shape
  have HT := Lib.hid ht; clear ht
  go_enter Tryz.func16, Tryz.ntmps16
  go_wp2_with fail
  go_ret2
  refine ⟨_, _, rfl, (lst_of_block HT.out ?_ (by simp)).later ((Below.refl _ _).alloc (Nat.le_refl _) _), mst_of_block _ _ (by simp), ?_⟩
  all_goals
    repeat (first | exact Below.refl _ _ | refine Below.setCell ?_ (by simp) _ | refine Below.alloc ?_ (by simp <;> omega) _)
end Go.Proofs.YtikcfoobfobmnaaGreatDoor
/-
  The walks through table.rows and the reference's small: rule 1.
-/
namespace Go.Proofs.YtikcfoobfobmnaaGreatDoor
open Go.RowKit ND

theorem Blk.tab {w : World} {g : Nat} {e : TypeId} {c0 c1 c2 c3 c4 c5 c6 c7 c8 c9 c10 c11 : Value} (h : Blk w g e #[c0, c1, c2, c3, c4, c5, c6, c7, c8, c9, c10, c11]) : w.cell? ⟨g, 0, none⟩ = some c0 ∧ w.cell? ⟨g, 1, none⟩ = some c1 ∧ w.cell? ⟨g, 2, none⟩ = some c2 ∧ w.cell? ⟨g, 3, none⟩ = some c3 ∧ w.cell? ⟨g, 4, none⟩ = some c4 ∧ w.cell? ⟨g, 5, none⟩ = some c5 ∧
    w.cell? ⟨g, 6, none⟩ = some c6 ∧ w.cell? ⟨g, 7, none⟩ = some c7 ∧ w.cell? ⟨g, 8, none⟩ = some c8 ∧ w.cell? ⟨g, 9, none⟩ = some c9 ∧ w.cell? ⟨g, 10, none⟩ = some c10 ∧ w.cell? ⟨g, 11, none⟩ = some c11 :=
  ⟨h.at_ rfl, h.at_ rfl, h.at_ rfl, h.at_ rfl, h.at_ rfl, h.at_ rfl, h.at_ rfl, h.at_ rfl, h.at_ rfl, h.at_ rfl, h.at_ rfl, h.at_ rfl⟩
/-- The step of a conjunction over a list. -/
theorem all_go {α : Type} {f : α → Bool} {xs : List α} {k : Nat} {x : α} {b R : Bool} (hx : xs[k]? = some x) (h : (b && (xs.drop k).all f) = R) {r : Bool} (hr : f x = r) : ((b && r) && (xs.drop (k + 1)).all f) = R := by
  rw [← h, drop_of_get hx, List.all_cons, hr, Bool.and_assoc]
theorem all_done {α : Type} {f : α → Bool} {xs : List α} {k : Nat} {b R : Bool} (hk : xs.length ≤ k) (h : (b && (xs.drop k).all f) = R) : b = R := by
  rw [List.drop_eq_nil_of_le hk] at h; simpa using h
/-- The step of a loop that leaves at the first one that fails. -/
theorem each_go {α : Type} {f : α → Bool} {xs : List α} {k : Nat} {x : α} {R : Bool} (hx : xs[k]? = some x) (h : (xs.drop k).all f = R) (hf : f x = true) : (xs.drop (k + 1)).all f = R := by
  rw [← h, drop_of_get hx, List.all_cons, hf, Bool.true_and]
theorem each_no {α : Type} {f : α → Bool} {xs : List α} {k : Nat} {x : α} {R : Bool} (hx : xs[k]? = some x) (h : (xs.drop k).all f = R) (hf : f x = false) : R = false := by
  rw [← h, drop_of_get hx, List.all_cons, hf, Bool.false_and]
theorem each_end {α : Type} {f : α → Bool} {xs : List α} {k : Nat} {R : Bool} (hk : xs.length ≤ k) (h : (xs.drop k).all f = R) : R = true := by
  rw [← h, List.drop_eq_nil_of_le hk]; rfl

theorem cast_le (n : Nat) : decide ((n : Int) ≤ 256) = decide (n ≤ 256) := by
  by_cases h : n ≤ 256
  · rw [decide_eq_true h, decide_eq_true (by omega)]
  · rw [decide_eq_false h, decide_eq_false (by omega)]
def lenC_ (c : List Sp × Int × Int) : Bool := decide ((c.1.length : Int) ≤ 256)
def lenM_ (c : List Mp) : Bool := decide ((c.length : Int) ≤ 256)
theorem rule1_cast (T : Tab) : T.rule1 = (decide ((T.excluded.length : Int) ≤ 256) && (T.cols.all lenC_ && T.mps.all lenM_)) := by
  have h1 : lenC_ = fun c : List Sp × Int × Int => decide (c.1.length ≤ 256) := funext fun c => cast_le _
  have h2 : lenM_ = fun c : List Mp => decide (c.length ≤ 256) := funext fun c => cast_le _
  rw [h1, h2, cast_le]; rfl

set_option maxRecDepth 100000 in
set_option maxHeartbeats 1000000 in
theorem rows_any (t : Tv) (T : Tab) (w : World) (ht : TabR w w.heap.size t T) :
    Calls Tryz.prog 55 #[t.val] w fun e w' => e = .returned (.bool T.rule1) ∧ Below w.heap.size w w' := by
  obtain ⟨A0, A1, A2, A3, A4, A5, A6, A7, A8, A9, A10, A11, k0, k1, k2, k3, k4, k5, k6, k7, k8, k9, k10, k11, rfl⟩ := ht.shape
  have HR := Lib.hid (fun o : Obj => ht.later ((Below.refl _ _).alloc (Nat.le_refl _) o))
  clear ht
  obtain ⟨R, hR⟩ : ∃ R, R = T.rule1 := ⟨_, rfl⟩
  rw [← hR]
  obtain ⟨R1, hR1⟩ : ∃ R1, R1 = (decide ((T.excluded.length : Int) ≤ 256) && T.cols.all lenC_) := ⟨_, rfl⟩
  have HR1 : Hid ((decide ((T.excluded.length : Int) ≤ 256) && (T.cols.drop 0).all lenC_) = R1) := Lib.hid hR1.symm
  have HRR : Hid ((R1 && (T.mps.drop 0).all lenM_) = R) := Lib.hid (by rw [hR, hR1, rule1_cast, Bool.and_assoc]; rfl)
  clear hR hR1
  go_enter Tryz.func55, Tryz.ntmps55
  go_wp2_with fail
  refine (columns_any _ T _ (HR.out _)).mono ?_
  rintro e w1 ⟨ad, rfl, hc, b1⟩
  have HC := Lib.hid hc.2
  have hca := hc.1
  have HB := Lib.hid ((Blk.new w 29 _).later b1)
  have HT := Lib.hid ((HR.out _).later b1)
  have hbel1 := below_next ((Below.refl _ _).alloc (Nat.le_refl _) _) b1
  clear hc b1 HR
  go_wp2_with fail
  go_loopw [3, 15] (fun o i wr => ∃ (k : Nat) (b : Bool), k ≤ 7 ∧ i = .int .i64 k ∧ o = .bool b ∧ Hid ((b && (T.cols.drop k).all lenC_) = R1) ∧ Below w1.heap.size w1 wr) (fun _ i _ => 7 - (intOf i).toNat)
  case atStart => exact ⟨0, _, by omega, rfl, rfl, HR1, Below.refl _ _⟩
  case round =>
    obtain ⟨k, b, hk, rfl, rfl, HS, hbel⟩ := hrel
    clear HR1
    by_cases hlt : k < 7
    · obtain ⟨⟨l, lo, hi⟩, hxk, _⟩ := get_el (xs := T.cols) (k := k) hlt
      obtain ⟨v, d0, d1, d2, A, c, rfl, _⟩ := HC.out k _ hxk
      simp only at d0 d1 d2
      obtain ⟨e0, e1, e2⟩ := span_cells hbel hca d0 d1 d2
      have HX := Lib.hid hxk
      clear d0 d1 d2 hxk
      have k0 : (0 : Int) ≤ (k : Int) := by omega
      have k1 : (k : Int) < (7 : Int) := by omega
      have HN := Lib.hid (all_go (r := decide ((l.length : Int) ≤ 256)) HX.out HS.out rfl)
      cases b
      all_goals
        go_wp2_with fail
        go_roundw
        case rel => exact ⟨k + 1, _, by omega, by go_num, rfl, HN, hbel.alloc hbel.size _⟩
        case measure => simp [intOf]; omega
    · have HN := Lib.hid (all_done (by show 7 ≤ k; omega) HS.out)
      obtain ⟨x0, x1, x2, x3, x4, x5, x6, x7, x8, x9, x10, x11⟩ := (HB.out.later hbel).tab
      have HT2 := Lib.hid (HT.out.later hbel)
      clear HT HB HC hca HS
      go_wp2_with fail
      refine (mappings_any _ T _ HT2.out).mono ?_
      rintro e w2 ⟨am, rfl, hm, b2⟩
      have HM := Lib.hid hm.2
      have hma := hm.1
      have hbel2 := below_next hbel1 (below_next hbel b2)
      clear hm HT2 hbel hbel1 b2 x0 x1 x2 x3 x4 x5 x6 x7 x8 x9 x10 x11
      have HRR2 : Hid ((b && (T.mps.drop 0).all lenM_) = R) := Lib.hid (by rw [HN.out]; exact HRR.out)
      clear HRR HN
      go_wp2_with fail
      go_loop [3, 30] (fun o i => ∃ (k : Nat) (b : Bool), k ≤ 4 ∧ i = .int .i64 k ∧ o = .bool b ∧ Hid ((b && (T.mps.drop k).all lenM_) = R)) (fun _ i => 4 - (intOf i).toNat)
      case atStart => exact ⟨0, _, by omega, rfl, rfl, HRR2⟩
      case round =>
        obtain ⟨k, b, hk, rfl, rfl, HS⟩ := hrel
        clear HRR2
        by_cases hlt : k < 4
        · obtain ⟨l, hxk, _⟩ := get_el (xs := T.mps) (k := k) hlt
          obtain ⟨v, d0, A, c, rfl, _⟩ := HM.out k _ hxk
          have HX := Lib.hid hxk
          clear hxk
          have k0 : (0 : Int) ≤ (k : Int) := by omega
          have k1 : (k : Int) < (4 : Int) := by omega
          have HN := Lib.hid (all_go (r := decide ((l.length : Int) ≤ 256)) HX.out HS.out rfl)
          cases b
          all_goals
            go_wp2_with fail
            go_round
            case rel => exact ⟨k + 1, _, by omega, by go_num, rfl, HN⟩
            case measure => simp [intOf]; omega
        · have HN := Lib.hid (all_done (by show 4 ≤ k; omega) HS.out)
          go_wp2_with fail
          go_ret
          rw [HN.out]
          exact ⟨rfl, hbel2⟩
end Go.Proofs.YtikcfoobfobmnaaGreatDoor
/-
  The walk through sort.Search, over whatever closure.
-/
namespace Go.Proofs.YtikcfoobfobmnaaGreatDoor
open Go.RowKit

/-- What a search hands back: the first place at which p holds. -/
def RetSearch (w : World) (n : Nat) (p : Nat → Bool) (e : Ending) (w' : World) : Prop :=
  ∃ k : Nat, e = .returned (.int .i64 k) ∧ k ≤ n ∧ (∀ i, i < k → p i = false) ∧ (k < n → p k = true) ∧ Below w.heap.size w w'
/-- A closure, called in whatever later world, says p. -/
def Says (P : Program) (w : World) (g : FuncId) (cb : Array Value) (n : Nat) (p : Nat → Bool) : Prop :=
  ∀ (W : World) (i : Nat), Below w.heap.size w W → i < n → Calls P g (#[.int .i64 i] ++ cb) W fun e W' => e = .returned (.bool (p i)) ∧ Below W.heap.size W W'

set_option maxRecDepth 100000 in
set_option maxHeartbeats 1000000 in
theorem search_any (g : Nat) (cb : Array Value) (n : Nat) (p : Nat → Bool) (w : World) (eg : ∀ args w, (callFunc g args).run Tryz.prog w = .ok (.enter g args) w) (hsz : n < 4611686018427387904)
    (hf : Says Tryz.prog w g cb n p) (hmono : ∀ a b, a ≤ b → b < n → p a = true → p b = true) :
    Calls Tryz.prog 104 #[.int .i64 n, .func (.func g) #[] cb] w (RetSearch w n p) := by
  have HF := Lib.hid hf
  have HM := Lib.hid hmono
  clear hf hmono
  go_enter Tryz.func104, Tryz.ntmps104
  go_wp2_with fail
  go_loopw [5, 6] (fun s5 s6 wr => ∃ (lo hi : Nat), s5 = .int .i64 lo ∧ s6 = .int .i64 hi ∧ lo ≤ hi ∧ hi ≤ n ∧ Below w.heap.size w wr ∧ Hid ((∀ t, t < lo → p t = false) ∧ (∀ t, hi ≤ t → t < n → p t = true))) (fun s5 s6 _ => (intOf s6).toNat - (intOf s5).toNat)
  case atStart => exact ⟨0, n, rfl, rfl, Nat.zero_le _, Nat.le_refl _, Below.refl _ _, Lib.hid ⟨fun t ht => absurd ht (Nat.not_lt_zero _), fun t h1 h2 => by omega⟩⟩
  case round =>
    obtain ⟨lo, hi, rfl, rfl, hlh, hin, hbel, HI⟩ := hrel
    by_cases hlt : lo < hi
    · have hc := HF.out wr ((lo + hi) / 2) hbel (by omega)
      rw [show (((lo + hi) / 2 : Nat) : Int) = ((lo : Int) + (hi : Int)) / 2 by omega] at hc
      cases hp : p ((lo + hi) / 2) <;> rw [hp] at hc
      · have HC := Lib.hid hc
        have HI2 : Hid ((∀ t, t < (lo + hi) / 2 + 1 → p t = false) ∧ (∀ t, hi ≤ t → t < n → p t = true)) := Lib.hid ⟨fun t ht => (by
            cases h : p t with
            | false => rfl
            | true => have := HM.out t ((lo + hi) / 2) (by omega) (by omega) h; rw [hp] at this; cases this), HI.out.2⟩
        clear hp hc HI
        go_wp2_with fail
        refine HC.out.mono ?_
        rintro e w1 ⟨rfl, b1⟩
        clear HC
        go_wp2_with fail
        have hbel2 := below_next hbel b1
        go_roundw
        case rel => exact ⟨(lo + hi) / 2 + 1, hi, by rw [show ((lo : Int) + (hi : Int)) / 2 + 1 = (((lo + hi) / 2 + 1 : Nat) : Int) by omega], rfl, by omega, hin, hbel2, HI2⟩
        case measure => simp [intOf]; omega
      · have HC := Lib.hid hc
        have HI2 : Hid ((∀ t, t < lo → p t = false) ∧ (∀ t, (lo + hi) / 2 ≤ t → t < n → p t = true)) := Lib.hid ⟨HI.out.1, fun t ht htn => HM.out ((lo + hi) / 2) t ht htn hp⟩
        clear hp hc HI
        go_wp2_with fail
        refine HC.out.mono ?_
        rintro e w1 ⟨rfl, b1⟩
        clear HC
        go_wp2_with fail
        have hbel2 := below_next hbel b1
        go_roundw
        case rel => exact ⟨lo, (lo + hi) / 2, rfl, by rw [show ((lo : Int) + (hi : Int)) / 2 = (((lo + hi) / 2 : Nat) : Int) by omega], by omega, by omega, hbel2, HI2⟩
        case measure => simp [intOf]; omega
    · obtain rfl : hi = lo := by omega
      go_wp2_with fail
      go_ret
      exact ⟨hi, rfl, hin, HI.out.1, fun h => HI.out.2 hi (Nat.le_refl _) h, hbel⟩
end Go.Proofs.YtikcfoobfobmnaaGreatDoor
