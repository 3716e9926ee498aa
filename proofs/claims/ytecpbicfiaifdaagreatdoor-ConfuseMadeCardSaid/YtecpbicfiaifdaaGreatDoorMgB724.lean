/-
  Merged texts: lemmas and walks that the last text of this claim leans on.
-/
import Derived.Test.YtecpbicfiaifdaaGreatDoorMgB723
import Derived.Test.YtecpbicfiaifdaaGreatDoorMgB75
import Derived.Test.YtecpbicfiaifdaaGreatDoorMgB73
import Derived.Test.YtecpbicfiaifdaaGreatDoorMgB721
import Derived.Test.YtecpbicfiaifdaaGreatDoorMgB77
import Derived.IntWalk
/-
  Slices of slices of integers: one that is read, and a row of the call's own to which slices are appended.
-/
namespace Go.Proofs.YtecpbicfiaifdaaGreatDoor
open Go.RowKit

/-- The slice value v holds slices that read as the lists yss; all cells lie below block B. -/
def Lists (w : World) (B : Nat) (v : Value) (yss : List (List Int)) : Prop :=
  ∃ A c, v = .slice A yss.length c ∧ yss.length ≤ c ∧ c ≤ maxLen ∧ (A = none → c = 0) ∧
    ∀ i ys, yss[i]? = some ys → ∃ ad u, A = some ad ∧ ad.block < B ∧ w.cell? (ad.add i) = some u ∧ Ints w B .i64 u ys
section
variable {w w' : World} {B B' : Nat} {v : Value} {yss : List (List Int)}
theorem Lists.keep (h : Lists w B v yss) (hk : ∀ p : Addr, p.block < B → w'.cell? p = w.cell? p) : Lists w' B v yss := by
  obtain ⟨A, c, hv, h1, h2, h3, h4⟩ := h
  refine ⟨A, c, hv, h1, h2, h3, fun i x hi => ?_⟩
  obtain ⟨ad, u, e, hb, c0, hi'⟩ := h4 i x hi
  exact ⟨ad, u, e, hb, (hk _ (by rw [block_of_add]; exact hb)).trans c0, hi'.keep hk⟩
theorem Lists.more (h : Lists w B v yss) (hB : B ≤ B') : Lists w B' v yss := by
  obtain ⟨A, c, hv, h1, h2, h3, h4⟩ := h
  refine ⟨A, c, hv, h1, h2, h3, fun i x hi => ?_⟩
  obtain ⟨ad, u, e, hb, c0, hi'⟩ := h4 i x hi
  exact ⟨ad, u, e, by omega, c0, hi'.more hB⟩
theorem Lists.below (h : Lists w B v yss) (hb : Below B w w') : Lists w' B v yss := h.keep fun _ hp => hb.cell hp
theorem Lists.later (h : Lists w w.heap.size v yss) (hb : Below w.heap.size w w') : Lists w' w'.heap.size v yss := (h.below hb).more hb.size
theorem Lists.none_ : Lists w B (.slice none 0 0) [] := ⟨none, 0, rfl, Nat.le_refl _, Nat.zero_le _, fun _ => rfl, fun _ _ h => by simp at h⟩
/-- What stands at place i. -/
theorem Lists.at_ (h : Lists w B v yss) {i : Nat} {ys : List Int} (hi : yss[i]? = some ys) : ∃ A c ad A' c', v = .slice A yss.length c ∧ A = some ad ∧ ad.block < B ∧ w.cell? (ad.add i) = some (.slice A' ys.length c') ∧ Ints w B .i64 (.slice A' ys.length c') ys := by
  obtain ⟨A, c, hv, _, _, _, h4⟩ := h
  obtain ⟨ad, u, e, hb, c0, hi'⟩ := h4 i ys hi
  obtain ⟨A', c', rfl, _⟩ := id hi'
  exact ⟨A, c, ad, A', c', hv, e, hb, c0, hi'⟩
end

/-- A row of the call's own that holds slices; none of them lies in the row itself. -/
def LRow (w : World) (base : Nat) (v : Value) (yss : List (List Int)) : Prop :=
  ∃ vs : List Value, vs.length = yss.length ∧ w.ownsRow base 22 1 v yss.length vs ∧
    ∀ (i : Nat) (u : Value) (ys : List Int), vs[i]? = some u → yss[i]? = some ys → ∃ A c, u = .slice A ys.length c ∧ Ints w w.heap.size .i64 u ys ∧ ∀ ad, A = some ad → ad.block < w.heap.size ∧ v.ownBlock ≠ some ad.block
section
variable {w w' : World} {base : Nat} {v : Value} {yss : List (List Int)}
theorem LRow.nil (w : World) (base : Nat) : LRow w base (.slice none 0 0) [] := ⟨[], rfl, World.ownsRow_nil _ _ _ _, fun i u ys h => by simp at h⟩
theorem LRow.shape (h : LRow w base v yss) : ∃ A c, v = .slice A yss.length c := by
  obtain ⟨vs, _, ho, _⟩ := h
  rcases ho.2 with ⟨rfl, h0⟩ | ⟨g, cap, cur, rfl, _⟩
  · exact ⟨none, 0, by rw [h0]⟩
  · exact ⟨_, _, rfl⟩
theorem LRow.later (h : LRow w base v yss) (hb : Below w.heap.size w w') : LRow w' base v yss := by
  obtain ⟨vs, hl, ho, hr⟩ := h
  refine ⟨vs, hl, own_later ho hb, fun i u ys hi hy => ?_⟩
  obtain ⟨A, c, e, hi', hd⟩ := hr i u ys hi hy
  exact ⟨A, c, e, hi'.later hb, fun ad ha => ⟨Nat.lt_of_lt_of_le (hd ad ha).1 hb.size, (hd ad ha).2⟩⟩
/-- The row, read. -/
theorem LRow.lists (h : LRow w base v yss) : Lists w w.heap.size v yss := by
  obtain ⟨vs, hl, ho, hr⟩ := h
  rcases ho.2 with ⟨rfl, h0⟩ | ⟨g, cap, cur, rfl, hbg, hgg, hnc, hcm, hcs, htake⟩
  · obtain rfl : yss = [] := List.eq_nil_of_length_eq_zero h0
    exact Lists.none_
  · refine ⟨_, _, rfl, hnc, hcm, (by simp), fun i ys hi => ?_⟩
    obtain ⟨u, hu⟩ : ∃ u, vs[i]? = some u := ⟨_, List.getElem?_eq_getElem (by rw [hl]; exact (List.getElem?_eq_some_iff.1 hi).1)⟩
    obtain ⟨A, c, rfl, hi', _⟩ := hr i u ys hu hi
    exact ⟨_, _, rfl, (own_base ho g rfl).2, ho.cells (g := g) rfl i _ hu, hi'⟩
theorem ints_far {w w' : World} {v : Value} {v' u : Value} {A : Option Addr} {c : Nat} {ys : List Int} (hg : Gr w v w' v') (hi : Ints w w.heap.size .i64 u ys) (hu : u = .slice A ys.length c) (hd : ∀ ad, A = some ad → v.ownBlock ≠ some ad.block) : Ints w' w'.heap.size .i64 u ys := by
  obtain ⟨A', c', e, h1, h2, h3, h4⟩ := hi
  rw [e] at hu; cases hu
  refine ⟨A, c, e, h1, h2, h3, fun i x hx => ?_⟩
  obtain ⟨ad, e2, hb, hc⟩ := h4 i x hx
  refine ⟨ad, e2, Nat.lt_of_lt_of_le hb hg.1.2.2.2.1, ?_⟩
  rw [← hc]
  exact World.cell?_of_block (by rw [block_of_add]; exact hg.1.2.2.2.2 _ (fun hm => hd ad e2 (mem_ownS.1 hm)) hb)
/-- A slice has been appended. -/
theorem LRow.push (h : LRow w base v yss) {v' : Value} {A : Option Addr} {c : Nat} {ys : List Int} (hg : Gr w v w' v') (ho : ∀ ws : List Value, w.ownsRow base 22 1 v yss.length ws → w'.ownsRow base 22 1 v' (yss.length + 1) (ws ++ [.slice A ys.length c]))
    (hu : Ints w w.heap.size .i64 (.slice A ys.length c) ys) (hd : ∀ ad, A = some ad → ad.block < w.heap.size ∧ v.ownBlock ≠ some ad.block) : LRow w' base v' (yss ++ [ys]) := by
  obtain ⟨ws, hl, ho0, hr⟩ := h
  have hsz := hg.1.2.2.2.1
  have hne : ∀ (A : Option Addr), (∀ ad, A = some ad → ad.block < w.heap.size ∧ v.ownBlock ≠ some ad.block) → ∀ ad, A = some ad → ad.block < w'.heap.size ∧ v'.ownBlock ≠ some ad.block := fun A h1 ad ha => by
    refine ⟨by have := (h1 ad ha).1; omega, fun he => ?_⟩
    rcases hg.2 with h3 | h3
    · rw [h3] at he; exact (h1 ad ha).2 he
    · have := h3 _ he
      have := (h1 ad ha).1
      omega
  refine ⟨ws ++ [.slice A ys.length c], by simp [hl], by simpa using ho ws ho0, fun i u zs hi hz => ?_⟩
  by_cases hlt2 : i < yss.length
  · rw [List.getElem?_append_left (by omega)] at hi hz
    obtain ⟨A2, c2, e2, h2, h3⟩ := hr i u zs hi hz
    exact ⟨A2, c2, e2, ints_far hg h2 e2 fun ad ha => (h3 ad ha).2, hne A2 h3⟩
  · rw [List.getElem?_append_right (by omega)] at hi hz
    have hi0 : i - yss.length = 0 := by
      have := (List.getElem?_eq_some_iff.1 hz).1
      simp at this; omega
    rw [hi0] at hz
    rw [hl, hi0] at hi
    simp at hi hz
    subst hi hz
    exact ⟨A, c, rfl, ints_far hg hu rfl fun ad ha => (hd ad ha).2, hne A hd⟩
end
/-- append(v, u): one slice onto a row of slices. -/
theorem wpList_append_slice {P : Program} {ops : Array Oper} {rest : List Oper} {o : Oper} {a : Act} {w : World} {Q : Exit → Act → World → Prop} {T : TypeId} {i0 : TypeInfo} (hw : Region.wanted o (yielded ops a.tmps) = true) (s x : Operand)
    (ho : o.op = .call { callee := .builtin .append, args := #[s, x], argTypes := #[T, T] }) (ht : P.underlying T = some (.slice 22)) (hi : P.info? 22 = some i0) (hz : i0.zero = some (.slice none 0 0)) (h1 : i0.size = 1) (h2 : i0.bytes = 24)
    (base : Nat) (v : Value) (yss : List (List Int)) (ad : Addr) (A : Option Addr) (c : Nat) (ys : List Int) (hs : a.eval s = v) (hown : LRow w base v yss) (hx : a.eval x = .slice (some ad) 1 1) (hc : w.cell? ad = some (.slice A ys.length c))
    (hu : Ints w w.heap.size .i64 (.slice A ys.length c) ys) (hd : ∀ ad, A = some ad → ad.block < w.heap.size ∧ v.ownBlock ≠ some ad.block) (hl : yss.length ≤ 1000000) (hb : base ≤ w.heap.size)
    (h : ∀ v' w', LRow w' base v' (yss ++ [ys]) → Gr w v w' v' → wpList P ops Q rest (a.put o.dst v') w') : wpList P ops Q (o :: rest) a w := by
  refine wpList_step fun K hK => ?_
  rw [if_pos hw]
  obtain ⟨ws, hwl, hown0, _⟩ := id hown
  have hnews : ∀ (j : Nat) (q : Value), [Value.slice A ys.length c][j]? = some q → w.cell? (ad.add j) = some q := by
    intro j q hq
    cases j with
    | zero => simp at hq; subst hq; rw [← hc]; simp [Addr.add]
    | succ j => simp at hq
  have hone : ∀ q ∈ [Value.slice A ys.length c], q.oneCell' = true := by intro q hq; simp at hq; subst hq; rfl
  obtain ⟨v', w', hr, ho', hg', _⟩ := run_append_own (P := P) w base T o.type 22 i0 (.slice none 0 0) 1 24 ht hi hz h1 h2 rfl (by omega) v yss.length ws hown0 ad 1 1 [.slice A ys.length c] (by simp) hnews hone (by unfold maxLen; omega) (by omega) hb
  have hst : v'.ownBlock = v.ownBlock ∨ ∀ g, v'.ownBlock = some g → w.heap.size ≤ g := by
    have h63' : yss.length + 1 ≤ maxLen := by unfold maxLen; omega
    rcases hown0.2 with ⟨rfl, h0⟩ | ⟨g, cap, cur, rfl, hbg, hg, hnc, hcm, hcs, htake⟩
    · have hx : ws = [] := List.eq_nil_of_length_eq_zero (by omega)
      obtain ⟨v2, w2, e2, ho2, _⟩ := run_append_own (P := P) w w.heap.size T o.type 22 i0 (.slice none 0 0) 1 24 ht hi hz h1 h2 rfl (by omega) (.slice none 0 0) 0 [] (World.ownsRow_nil _ _ _ _) ad 1 1 [.slice A ys.length c] (by simp) hnews hone (by unfold maxLen; omega) (by omega) (Nat.le_refl _)
      rw [hr] at e2; cases e2
      exact .inr fun g hg => (own_base ho2 g hg).1
    · by_cases hroom : yss.length + 1 ≤ cap
      · have e2 := run_append_room (P := P) w T o.type 22 i0 ht hi g yss.length cap cur hg ad 1 1 [.slice A ys.length c] (by simp [h1]) hnews hone hroom (by rw [h1, hcs]; simp; omega)
        rw [hr] at e2; cases e2
        exact .inl rfl
      · obtain ⟨v2, w2, e2, ho2, _⟩ := run_append_arg_grows (P := P) w T o.type 22 i0 (.slice none 0 0) 1 24 ht hi hz h1 h2 rfl (by omega) ⟨g, 0, none⟩ yss.length cap ws hown0.1 (hown0.cells (g := g) rfl) ad 1 1 [.slice A ys.length c] (by simp) hnews (by omega) h63' (by omega)
        rw [hr] at e2; cases e2
        exact .inr fun q hq => (own_base ho2 q hq).1
  have hG : Gr w v w' v' := ⟨onlyIn.of_own hg' fun g hg => mem_ownS.2 hg, hst⟩
  have h3 := hK _ _ (h v' w' (hown.push hG (fun ws2 ho2 => by
    obtain ⟨v3, w3, hr3, ho3, _⟩ := run_append_own (P := P) w base T o.type 22 i0 (.slice none 0 0) 1 24 ht hi hz h1 h2 rfl (by omega) v yss.length ws2 ho2 ad 1 1 [.slice A ys.length c] (by simp) hnews hone (by unfold maxLen; omega) (by omega) hb
    rw [hr] at hr3; cases hr3
    exact ho3) hu hd) hG)
  unfold Oper.wp execOp
  simp only [ho, resolve, invoke, builtin, Sem.run_bind, Sem.run_pure, Result.andThen_ok, List.map_toArray, List.map_cons, List.map_nil, hs, hx, hr]
  exact h3
/-- A literal of slices. -/
theorem lists_lit (w : World) (vs : List Value) (yss : List (List Int)) (hl : vs.length = yss.length) (h1 : yss.length ≤ 1000) (h : ∀ (i : Nat) (u : Value) (ys : List Int), vs[i]? = some u → yss[i]? = some ys → Ints w w.heap.size .i64 u ys) :
    Lists (w.alloc (.cells vs.toArray 22)) (w.alloc (.cells vs.toArray 22)).heap.size (.slice (some ⟨w.heap.size, 0, none⟩) vs.length vs.length) yss := by
  have hb : Below w.heap.size w (w.alloc (.cells vs.toArray 22)) := (Below.refl _ _).alloc (Nat.le_refl _) _
  refine ⟨_, _, by rw [hl], by omega, by unfold maxLen; omega, (by simp), fun i ys hi => ?_⟩
  obtain ⟨u, hu⟩ : ∃ u, vs[i]? = some u := ⟨_, List.getElem?_eq_getElem (by rw [hl]; exact (List.getElem?_eq_some_iff.1 hi).1)⟩
  refine ⟨_, u, rfl, by simp, ?_, (h i u ys hu hi).later hb⟩
  exact cells_new w vs 22 i u hu
end Go.Proofs.YtecpbicfiaifdaaGreatDoor
/-
  Literals of spans and of mappings, as they lie in memory.
-/
namespace Go.Proofs.YtecpbicfiaifdaaGreatDoor
open Go.RowKit ND

theorem lit_i (w : World) (xs : List Int) (hl : xs.length ≤ 1000000) : Ints (w.alloc (.cells (xs.map (Value.int .i64)).toArray 3)) (w.alloc (.cells (xs.map (Value.int .i64)).toArray 3)).heap.size .i64 (.slice (some ⟨w.heap.size, 0, none⟩) xs.length xs.length) xs :=
  Ints.of_own (own_new w 3 xs hl)
/-- One span. -/
theorem lit_span (w : World) (a b c : Int) : Spans (w.alloc (.cells #[.int .i64 a, .int .i64 b, .int .i64 c] 64)) (w.alloc (.cells #[.int .i64 a, .int .i64 b, .int .i64 c] 64)).heap.size (.slice (some ⟨w.heap.size, 0, none⟩) 1 1) [(a, b, c)] := by
  have h := cells_new w [.int .i64 a, .int .i64 b, .int .i64 c] 64
  refine ⟨_, _, rfl, Nat.le_refl _, by unfold maxLen; omega, (by simp), fun i x hi => ?_⟩
  cases i with
  | zero =>
    simp at hi; subst hi
    exact ⟨_, rfl, by simp, h 0 _ rfl, h 1 _ rfl, h 2 _ rfl⟩
  | succ i => simp at hi
/-- One mapping. -/
theorem lit_map (w : World) (a : Int) (v : Value) (xs : List Int) (hv : Ints w w.heap.size .i64 v xs) : Mapps (w.alloc (.cells #[.int .i64 a, v] 71)) (w.alloc (.cells #[.int .i64 a, v] 71)).heap.size (.slice (some ⟨w.heap.size, 0, none⟩) 1 1) [(a, xs)] := by
  have h := cells_new w [.int .i64 a, v] 71
  have hb : Below w.heap.size w (w.alloc (.cells #[.int .i64 a, v] 71)) := (Below.refl _ _).alloc (Nat.le_refl _) _
  refine ⟨_, _, rfl, Nat.le_refl _, by unfold maxLen; omega, (by simp), fun i x hi => ?_⟩
  cases i with
  | zero =>
    simp at hi; subst hi
    exact ⟨_, v, rfl, by simp, h 0 _ rfl, h 1 _ rfl, hv.later hb⟩
  | succ i => simp at hi
/-- Two mappings. -/
theorem lit_map2 (w : World) (a : Int) (v : Value) (xs : List Int) (a' : Int) (v' : Value) (xs' : List Int) (hv : Ints w w.heap.size .i64 v xs) (hv' : Ints w w.heap.size .i64 v' xs') : Mapps (w.alloc (.cells #[.int .i64 a, v, .int .i64 a', v'] 71)) (w.alloc (.cells #[.int .i64 a, v, .int .i64 a', v'] 71)).heap.size (.slice (some ⟨w.heap.size, 0, none⟩) 2 2) [(a, xs), (a', xs')] := by
  have h := cells_new w [.int .i64 a, v, .int .i64 a', v'] 71
  have hb : Below w.heap.size w (w.alloc (.cells #[.int .i64 a, v, .int .i64 a', v'] 71)) := (Below.refl _ _).alloc (Nat.le_refl _) _
  refine ⟨_, _, rfl, Nat.le_refl _, by unfold maxLen; omega, (by simp), fun i x hi => ?_⟩
  match i, hi with
  | 0, hi =>
    simp at hi; subst hi
    exact ⟨_, v, rfl, by simp, h 0 _ rfl, h 1 _ rfl, hv.later hb⟩
  | 1, hi =>
    simp at hi; subst hi
    exact ⟨_, v', rfl, by simp, h 2 _ rfl, h 3 _ rfl, hv'.later hb⟩
  | i + 2, hi => simp at hi
end Go.Proofs.YtecpbicfiaifdaaGreatDoor
/-
  Literals of one, two and three slices.
-/
namespace Go.Proofs.YtecpbicfiaifdaaGreatDoor
open Go.RowKit

theorem lists_one (w : World) (u : Value) (xs : List Int) (h1 : Ints w w.heap.size .i64 u xs) :
    Lists (w.alloc (.cells #[u] 22)) (w.alloc (.cells #[u] 22)).heap.size (.slice (some ⟨w.heap.size, 0, none⟩) 1 1) [xs] :=
  lists_lit w [u] [xs] rfl (by simp) fun i a ys h h' => by
    match i, h, h' with
    | 0, h, h' => simp at h h'; subst h h'; exact h1
    | i + 1, h, _ => simp at h
theorem lists_two (w : World) (u v : Value) (xs ys : List Int) (h1 : Ints w w.heap.size .i64 u xs) (h2 : Ints w w.heap.size .i64 v ys) :
    Lists (w.alloc (.cells #[u, v] 22)) (w.alloc (.cells #[u, v] 22)).heap.size (.slice (some ⟨w.heap.size, 0, none⟩) 2 2) [xs, ys] :=
  lists_lit w [u, v] [xs, ys] rfl (by simp) fun i a zs h h' => by
    match i, h, h' with
    | 0, h, h' => simp at h h'; subst h h'; exact h1
    | 1, h, h' => simp at h h'; subst h h'; exact h2
    | i + 2, h, _ => simp at h
theorem lists_three (w : World) (u v z : Value) (xs ys zs : List Int) (h1 : Ints w w.heap.size .i64 u xs) (h2 : Ints w w.heap.size .i64 v ys) (h3 : Ints w w.heap.size .i64 z zs) :
    Lists (w.alloc (.cells #[u, v, z] 22)) (w.alloc (.cells #[u, v, z] 22)).heap.size (.slice (some ⟨w.heap.size, 0, none⟩) 3 3) [xs, ys, zs] :=
  lists_lit w [u, v, z] [xs, ys, zs] rfl (by simp) fun i a qs h h' => by
    match i, h, h' with
    | 0, h, h' => simp at h h'; subst h h'; exact h1
    | 1, h, h' => simp at h h'; subst h h'; exact h2
    | 2, h, h' => simp at h h'; subst h h'; exact h3
    | i + 3, h, _ => simp at h
end Go.Proofs.YtecpbicfiaifdaaGreatDoor
/-
  Plain mathematics of chapter 7: full decompositions and normalization form D. No program in sight.
-/
namespace Go.Proofs.YtecpbicfiaifdaaGreatDoor
open Go.RowKit ND

/-- The parts of a syllable. -/
def hangD (c : Int) : List Int :=
  if sylB c = true then (if (c - 44032) % 28 = 0 then [4352 + (c - 44032) / 28 / 21, 4449 + (c - 44032) / 28 % 21] else [4352 + (c - 44032) / 28 / 21, 4449 + (c - 44032) / 28 % 21, 4519 + (c - 44032) % 28]) else []
/-- The full decomposition of a code point. -/
def expandL (T : Tab) (c : Int) : List Int := if sylB c = true then hangD c else expF T.decomps T.decomps.length c
/-- All full decompositions, one after another. -/
def flatD (T : Tab) (l : List Int) : List Int := l.flatMap (expandL T)
def nfdL (T : Tab) (l : List Int) : List Int := can T.classOf (flatD T l)

theorem hangD_none {c : Int} (h : sylB c = false) : hangD c = [] := by unfold hangD; rw [h]; rfl
theorem hangD_ne {c : Int} (h : sylB c = true) : hangD c ≠ [] := by
  unfold hangD; rw [if_pos h]; split <;> simp
theorem hangD_nil {c : Int} : hangD c = [] ↔ sylB c = false := by
  cases h : sylB c
  · simp [hangD_none h]
  · simp [hangD_ne h]
theorem hangD_len (c : Int) : (hangD c).length ≤ 3 := by
  unfold hangD; split
  · split <;> simp
  · simp
theorem hangD_jamo {c x : Int} (hx : x ∈ hangD c) : jamoB x = true ∧ sylB x = false := by
  unfold hangD at hx
  rw [jamoB_iff]
  have hs : ∀ y : Int, y < 44032 → sylB y = false := fun y hy => by unfold sylB; rw [decide_eq_false_iff_not]; omega
  split at hx
  · rename_i hc
    rw [sylB_iff] at hc
    split at hx
    · simp only [List.mem_cons, List.not_mem_nil, or_false] at hx
      rcases hx with rfl | rfl
      · exact ⟨by omega, hs _ (by omega)⟩
      · exact ⟨by omega, hs _ (by omega)⟩
    · simp only [List.mem_cons, List.not_mem_nil, or_false] at hx
      rcases hx with rfl | rfl | rfl
      · exact ⟨by omega, hs _ (by omega)⟩
      · exact ⟨by omega, hs _ (by omega)⟩
      · exact ⟨by omega, hs _ (by omega)⟩
  · cases hx
theorem expandL_syl {T : Tab} {c : Int} (h : sylB c = true) : expandL T c = hangD c := by unfold expandL; rw [if_pos h]
theorem expandL_not {T : Tab} {c : Int} (h : sylB c = false) : expandL T c = expF T.decomps T.decomps.length c := by unfold expandL; rw [if_neg (by simp [h])]

/-- What well-formed tables say of decompositions. -/
structure DecOk (T : Tab) : Prop where
  len : T.decomps.length ≤ 256
  srt : sortM T.decomps
  ne : ∀ m ∈ T.decomps, m.2 ≠ [] ∧ m.2.length ≤ 1000
  key : ∀ m ∈ T.decomps, resB m.1 = false ∧ 0 ≤ m.1 ∧ m.1 ≤ 1114111
  el : ∀ m ∈ T.decomps, ∀ c ∈ m.2, sylB c = false ∧ jamoB c = false ∧ scalarB c = true ∧ c ≠ 46
  two : ∀ m ∈ T.decomps, m.2.length ≤ 2
  fin : ∀ c, fin T.decomps T.decomps.length c = true
  le : ∀ c, (expF T.decomps T.decomps.length c).length ≤ 18
  full : ∀ c, fullF T.decomps 257 [c] = some (expF T.decomps T.decomps.length c)
theorem decOk_of {T : Tab} (h : T.check = 0) : DecOk T := by
  have hsh := shape_of h
  have hsz := sized_of h
  obtain ⟨_, _, _, r4, _, r6, _⟩ := rules_of h
  unfold Tab.rule6 at r6
  rw [Bool.and_eq_true, List.all_eq_true, List.all_eq_true] at r6
  unfold Tab.rule4 at r4
  simp only [Bool.and_eq_true] at r4
  have r4' := List.all_eq_true.1 r4.2.2.1
  have hld : T.decomps.length ≤ 256 := hsh.ld
  have hsizes : ∀ c, sizeF T.decomps (T.decomps.length + 1) c ≤ 18 := fun c => by
    by_cases h0 : findL T.decomps c = []
    · rw [sizeF, if_pos h0]; omega
    · have := r6.2 _ (findL_mem h0)
      unfold Tab.szOk at this
      simpa using this
  have hfull : ∀ c, fullF T.decomps 257 [c] = some (expF T.decomps T.decomps.length c) ∧ ND.fin T.decomps T.decomps.length c = true ∧ (expF T.decomps T.decomps.length c).length ≤ 18 := fun c => by
    rcases full_size hld c with ⟨_, h1, h2, h3⟩ | ⟨h1, _⟩
    · exact ⟨h1, h2, h3⟩
    · exact absurd (hsizes c) h1
  refine ⟨hld, keysB_sort hsh.kd, hsz.nd, fun m hm => ?_, fun m hm c hc => ?_, fun m hm => ?_, fun c => (hfull c).2.1, fun c => (hfull c).2.2, fun c => (hfull c).1⟩
  · have := keysB_at hsh.kd m.1 (by unfold keysOf; exact List.mem_map_of_mem hm)
    rcases this.2.2 with h1 | ⟨h1, _⟩
    · exact ⟨h1, by omega, this.2.1⟩
    · cases h1
  · have h1 := r6.1 m hm
    unfold decOk at h1
    have h2 := (toB_iff.1 (r4' m hm)).2.2
    simp only [Bool.false_eq_true, if_false] at h2
    rw [List.all_eq_true] at h2
    rw [Bool.and_eq_true, List.all_eq_true] at h1
    have h3 := h1.2 c hc
    unfold decEl at h3
    simp only [Bool.not_eq_true', Bool.or_eq_false_iff, decide_eq_false_iff_not] at h3
    exact ⟨h3.1.2, h3.2, h2 c hc, h3.1.1⟩
  · have h1 := r6.1 m hm
    unfold decOk at h1
    simp only [Bool.and_eq_true, decide_eq_true_eq] at h1
    exact h1.1
theorem find_res {T : Tab} (h : DecOk T) {c : Int} (hr : resB c = true) : findL T.decomps c = [] := by
  by_cases h0 : findL T.decomps c = []
  · exact h0
  · have := (h.key _ (findL_mem h0)).1
    simp only at this
    rw [hr] at this; cases this
theorem jamo_res {c : Int} (h : jamoB c = true) : resB c = true := by rw [jamoB_iff] at h; rw [resB_iff]; omega
theorem syl_res {c : Int} (h : sylB c = true) : resB c = true := by rw [sylB_iff] at h; rw [resB_iff]; omega
/-- A leaf of a decomposition. -/
theorem expF_leaf {T : Tab} (h : DecOk T) : ∀ (f : Nat) (c x : Int), x ∈ expF T.decomps f c → x = c ∨ (sylB x = false ∧ jamoB x = false ∧ scalarB x = true ∧ x ≠ 46) := by
  intro f
  induction f with
  | zero => intro c x hx; simp [expF] at hx; exact .inl hx
  | succ f ih =>
    intro c x hx
    by_cases h0 : findL T.decomps c = []
    · rw [expF_none h0] at hx; simp at hx; exact .inl hx
    · rw [expF_some h0, List.mem_flatMap] at hx
      obtain ⟨d, hd, hx⟩ := hx
      rcases ih d x hx with rfl | h1
      · exact .inr (h.el _ (findL_mem h0) _ hd)
      · exact .inr h1
/-- Nothing in a full decomposition can be decomposed. -/
theorem expandL_fix {T : Tab} (h : DecOk T) {c x : Int} (hx : x ∈ expandL T c) : findL T.decomps x = [] ∧ sylB x = false := by
  cases hs : sylB c
  · rw [expandL_not hs] at hx
    refine ⟨?_, ?_⟩
    · have := h.fin c
      unfold ND.fin doneB at this
      rw [List.all_eq_true] at this
      simpa using this x hx
    · rcases expF_leaf h _ _ _ hx with rfl | h1
      · exact hs
      · exact h1.1
  · rw [expandL_syl hs] at hx
    obtain ⟨h1, h2⟩ := hangD_jamo hx
    exact ⟨find_res h (jamo_res h1), h2⟩
theorem expandL_done {T : Tab} {x : Int} (h1 : findL T.decomps x = []) (h2 : sylB x = false) : expandL T x = [x] := by
  rw [expandL_not h2, expF_none h1]
theorem expandL_len {T : Tab} (h : DecOk T) (c : Int) : 1 ≤ (expandL T c).length ∧ (expandL T c).length ≤ 18 := by
  cases hs : sylB c
  · rw [expandL_not hs]
    exact ⟨length_pos_ne (expF_ne _ _ _), h.le c⟩
  · rw [expandL_syl hs]
    exact ⟨length_pos_ne (hangD_ne hs), by have := hangD_len c; omega⟩
theorem expandL_scal {T : Tab} (h : DecOk T) {c x : Int} (hc : scalarB c = true) (hx : x ∈ expandL T c) : scalarB x = true := by
  cases hs : sylB c
  · rw [expandL_not hs] at hx
    rcases expF_leaf h _ _ _ hx with rfl | h1
    · exact hc
    · exact h1.2.2.1
  · rw [expandL_syl hs] at hx
    have := (hangD_jamo hx).1
    rw [jamoB_iff] at this
    rw [scalarB_iff]; omega
theorem flatD_app {T : Tab} (a b : List Int) : flatD T (a ++ b) = flatD T a ++ flatD T b := by unfold flatD; rw [List.flatMap_append]
theorem flatD_cons {T : Tab} (a : Int) (b : List Int) : flatD T (a :: b) = expandL T a ++ flatD T b := by unfold flatD; rw [List.flatMap_cons]
theorem flatD_len {T : Tab} (h : DecOk T) : ∀ l : List Int, l.length ≤ (flatD T l).length ∧ (flatD T l).length ≤ 18 * l.length := by
  intro l
  induction l with
  | nil => simp [flatD]
  | cons a r ih =>
    have := expandL_len h a
    rw [flatD_cons, List.length_append, List.length_cons]; omega
theorem flatD_fix {T : Tab} (h : DecOk T) {l : List Int} {x : Int} (hx : x ∈ flatD T l) : findL T.decomps x = [] ∧ sylB x = false := by
  unfold flatD at hx
  rw [List.mem_flatMap] at hx
  obtain ⟨c, _, hx⟩ := hx
  exact expandL_fix h hx
theorem flatD_scal {T : Tab} (h : DecOk T) {l : List Int} (hl : l.all scalarB = true) : (flatD T l).all scalarB = true := by
  rw [List.all_eq_true] at hl ⊢
  intro x hx
  unfold flatD at hx
  rw [List.mem_flatMap] at hx
  obtain ⟨c, hc, hx⟩ := hx
  exact expandL_scal h (hl c hc) hx
theorem flatD_done {T : Tab} : ∀ l : List Int, (∀ x ∈ l, findL T.decomps x = [] ∧ sylB x = false) → flatD T l = l := by
  intro l
  induction l with
  | nil => intro _; rfl
  | cons a r ih =>
    intro h
    rw [flatD_cons, ih fun x hx => h x (List.mem_cons_of_mem _ hx), expandL_done (h a List.mem_cons_self).1 (h a List.mem_cons_self).2]; rfl
theorem flatD_twice {T : Tab} (h : DecOk T) (l : List Int) : flatD T (flatD T l) = flatD T l := flatD_done _ fun _ hx => flatD_fix h hx
theorem nfdL_mem {T : Tab} {l : List Int} {x : Int} : x ∈ nfdL T l ↔ x ∈ flatD T l := can_mem
theorem nfdL_length {T : Tab} (l : List Int) : (nfdL T l).length = (flatD T l).length := can_length _ _
theorem nfdL_fix {T : Tab} (h : DecOk T) {l : List Int} {x : Int} (hx : x ∈ nfdL T l) : findL T.decomps x = [] ∧ sylB x = false := flatD_fix h (nfdL_mem.1 hx)
theorem nfdL_flat {T : Tab} (h : DecOk T) (l : List Int) : flatD T (nfdL T l) = nfdL T l := flatD_done _ fun _ hx => nfdL_fix h hx
theorem nfdL_twice {T : Tab} (h : DecOk T) (l : List Int) : nfdL T (nfdL T l) = nfdL T l := by
  show can _ (flatD T (nfdL T l)) = _
  rw [nfdL_flat h]; exact can_can _ _
theorem all_can {f : Int → Int} {p : Int → Bool} {l : List Int} (h : l.all p = true) : (can f l).all p = true := by
  rw [List.all_eq_true] at h ⊢
  intro x hx; exact h x (can_mem.1 hx)
theorem nfdL_scal {T : Tab} (h : DecOk T) {l : List Int} (hl : l.all scalarB = true) : (nfdL T l).all scalarB = true := all_can (flatD_scal h hl)

/-- Inserting x ahead, or in among what has been inserted. -/
theorem fold_putO {f : Int → Int} {R : List Int} {x : Int} : ∀ l : List Int, (putO f x l).foldr (putO f) R = putO f x (l.foldr (putO f) R) := by
  intro l
  induction l with
  | nil => rfl
  | cons y r ih =>
    by_cases h : 0 < f y ∧ f y < f x
    · rw [show putO f x (y :: r) = y :: putO f x r by rw [putO, if_pos h]]
      show putO f y ((putO f x r).foldr (putO f) R) = putO f x (putO f y (r.foldr (putO f) R))
      rw [ih]
      exact (putO_swap h.1 h.2 _).symm
    · rw [show putO f x (y :: r) = x :: y :: r by rw [putO, if_neg h]]; rfl
theorem can_fold {f : Int → Int} : ∀ a b : List Int, can f (a ++ b) = a.foldr (putO f) (can f b) := by
  intro a b
  induction a with
  | nil => rfl
  | cons x r ih => show putO f x (can f (r ++ b)) = _; rw [ih]; rfl
theorem can_left {f : Int → Int} (a b : List Int) : can f (can f a ++ b) = can f (a ++ b) := by
  rw [can_fold, can_fold]
  induction a with
  | nil => rfl
  | cons x r ih => show (putO f x (can f r)).foldr (putO f) (can f b) = putO f x _; rw [fold_putO, ih]
theorem can_right {f : Int → Int} (a b : List Int) : can f (a ++ can f b) = can f (a ++ b) := by
  rw [can_fold, can_fold, can_can]
theorem can_both {f : Int → Int} (a b : List Int) : can f (can f a ++ can f b) = can f (a ++ b) := by rw [can_left, can_right]
/-- NFD of two sequences. -/
theorem nfdL_app {T : Tab} (a b : List Int) : nfdL T (a ++ b) = can T.classOf (nfdL T a ++ nfdL T b) := by
  unfold nfdL; rw [flatD_app, can_both]
/-- A code point is replaced by its full decomposition. -/
theorem flatD_put {T : Tab} (h : DecOk T) (a b : List Int) (c : Int) : flatD T (a ++ expandL T c ++ b) = flatD T (a ++ c :: b) := by
  rw [flatD_app, flatD_app, flatD_app, flatD_cons, flatD_done (expandL T c) fun _ hx => expandL_fix h hx, List.append_assoc]

/-- What NFD hands back. -/
def nfdR (T : Tab) (accE : Int) (l : List Int) : List Int × Int :=
  if accE ≠ 0 then ([], accE) else if 4096 < (flatD T l).length then ([], 7) else (nfdL T l, 0)
theorem nfdR_err {T : Tab} {e : Int} {l : List Int} (h : e ≠ 0) : nfdR T e l = ([], e) := by unfold nfdR; rw [if_pos h]
theorem nfdR_full {T : Tab} {l : List Int} (h : 4096 < (flatD T l).length) : nfdR T 0 l = ([], 7) := by unfold nfdR; rw [if_neg (by omega), if_pos h]
theorem nfdR_ok {T : Tab} {l : List Int} (h : (flatD T l).length ≤ 4096) : nfdR T 0 l = (nfdL T l, 0) := by unfold nfdR; rw [if_neg (by omega), if_neg (by omega)]
theorem flatD_rep {T : Tab} (c : Int) : ∀ n : Nat, (flatD T (List.replicate n c)).length = n * (expandL T c).length := by
  intro n
  induction n with
  | zero => simp [flatD]
  | succ n ih => rw [List.replicate_succ, flatD_cons, List.length_append, ih, Nat.succ_mul, Nat.add_comm]
end Go.Proofs.YtecpbicfiaifdaaGreatDoor
/-
  The walks through hangul.Parts and hangul.Decompose.
-/
namespace Go.Proofs.YtecpbicfiaifdaaGreatDoor
open Go.RowKit ND

set_option maxHeartbeats 400000 in
theorem parts_no (c : Int) (w : World) (h : sylB c = false) :
    Calls Tryz.prog 132 #[.int .i64 c] w fun e w' => e = .returned (.tuple #[.int .i64 0, .int .i64 0, .int .i64 0, .bool false]) ∧ w = w' := by
  unfold sylB at h
  rw [decide_eq_false_iff_not] at h
  rcases show c < 44032 ∨ (¬ c < 44032 ∧ 55204 ≤ c) by omega with h1 | ⟨h1, h2⟩
  · clear h
    go_enter Tryz.func132, Tryz.ntmps132
    go_wp2
    exact bodyPost_ret (v := .tuple #[.int .i64 0, .int .i64 0, .int .i64 0, .bool false]) (by simp [results, Tryz.results132, go_sem]) rfl ⟨rfl, rfl⟩
  · clear h
    go_enter Tryz.func132, Tryz.ntmps132
    go_wp2
    exact bodyPost_ret (v := .tuple #[.int .i64 0, .int .i64 0, .int .i64 0, .bool false]) (by simp [results, Tryz.results132, go_sem]) rfl ⟨rfl, rfl⟩
set_option maxHeartbeats 400000 in
theorem parts_yes (c : Int) (w : World) (h : sylB c = true) :
    Calls Tryz.prog 132 #[.int .i64 c] w fun e w' => e = .returned (.tuple #[.int .i64 ((c - 44032) / 28 / 21), .int .i64 ((c - 44032) / 28 % 21), .int .i64 ((c - 44032) % 28), .bool true]) ∧ w = w' := by
  rw [sylB_iff] at h
  obtain ⟨h1, h2⟩ := h
  have h3 : ¬ c < 44032 := by omega
  have h4 : ¬ 55204 ≤ c := by omega
  have n0 : 0 ≤ c - 44032 := by omega
  have n1 : c - 44032 ≤ 11171 := by omega
  have q0 : 0 ≤ (c - 44032) / 28 := by omega
  have q1 : (c - 44032) / 28 ≤ 398 := by omega
  go_enter Tryz.func132, Tryz.ntmps132
  go_wp2
  exact bodyPost_ret (v := .tuple #[.int .i64 ((c - 44032) / 28 / 21), .int .i64 ((c - 44032) / 28 % 21), .int .i64 ((c - 44032) % 28), .bool true]) (by simp [results, Tryz.results132, go_sem]) rfl ⟨rfl, rfl⟩

set_option maxRecDepth 100000 in
set_option maxHeartbeats 1000000 in
theorem hdec_any (c : Int) (w : World) : Calls Tryz.prog 117 #[.int .i64 c] w (RetSeq w (hangD c)) := by
  cases hs : sylB c
  · have HP := Lib.hid (parts_no c w hs)
    rw [hangD_none hs]
    clear hs
    go_enter Tryz.func117, Tryz.ntmps117
    go_wp2_with (go_at_call 132; refine HP.out.mono ?_; rintro e w2 ⟨rfl, rfl⟩)
    go_ret
    exact ⟨_, rfl, Ints.none_, fun _ => rfl, Below.refl _ _⟩
  · have HP := Lib.hid (parts_yes c w hs)
    have hb := (sylB_iff c).1 hs
    unfold hangD
    rw [if_pos hs]
    clear hs
    obtain ⟨n, hn⟩ : ∃ n, c - 44032 = n := ⟨_, rfl⟩
    have n0 : 0 ≤ n := by omega
    have n1 : n ≤ 11171 := by omega
    rw [hn] at HP ⊢
    clear hn hb
    have a0 : 0 ≤ n / 28 / 21 := by omega
    have a1 : n / 28 / 21 ≤ 18 := by omega
    have b0 : 0 ≤ n / 28 % 21 := by omega
    have b1 : n / 28 % 21 ≤ 20 := by omega
    have c0 : 0 ≤ n % 28 := by omega
    have c1 : n % 28 ≤ 27 := by omega
    generalize n / 28 / 21 = i at *
    generalize n / 28 % 21 = j at *
    generalize n % 28 = k at *
    by_cases hk : k = 0
    · rw [if_pos hk]
      subst hk
      go_enter Tryz.func117, Tryz.ntmps117
      go_wp2_with (go_at_call 132; refine HP.out.mono ?_; rintro e w2 ⟨rfl, rfl⟩)
      go_ret
      exact ⟨_, rfl, by have h := Ints.of_own (own_new w 3 [4352 + i, 4449 + j] (by simp)); simpa using h, (by simp), (Below.refl _ _).alloc (Nat.le_refl _) _⟩
    · rw [if_neg hk]
      have hb : (k == 0) = false := by simpa using hk
      clear hk
      go_enter Tryz.func117, Tryz.ntmps117
      go_wp2_with (go_at_call 132; refine HP.out.mono ?_; rintro e w2 ⟨rfl, rfl⟩)
      go_ret
      exact ⟨_, rfl, by have h := Ints.of_own (own_new w 3 [4352 + i, 4449 + j, 4519 + k] (by simp)); simpa using h, (by simp), (Below.refl _ _).alloc (Nat.le_refl _) _⟩
end Go.Proofs.YtecpbicfiaifdaaGreatDoor
/-
  Sequences out of a list of mappings: the walk through table.copied.
-/
namespace Go.Proofs.YtecpbicfiaifdaaGreatDoor
open Go.RowKit ND

theorem find_len {l : List Mp} {c : Int} (h : ∀ m ∈ l, m.2.length ≤ 1000) : (findL l c).length ≤ 1000 := by
  by_cases hf : findL l c = []
  · rw [hf]; simp
  · exact h _ (findL_mem hf)

set_option maxRecDepth 100000 in
set_option maxHeartbeats 400000 in
theorem copied_any (v : Value) (ys : List Int) (w : World) (hv : Ints w w.heap.size .i64 v ys) (hl : ys.length ≤ 1000) :
    Calls Tryz.prog 100 #[v] w (RetSeq w ys) := by
  obtain ⟨i0, hi, hz0, hz1, hz2⟩ := info_parts Tryz.infoInt'
  have HV := Lib.hid hv; clear hv
  go_enter Tryz.func100, Tryz.ntmps100
  go_wp2_with (at_builtin
               refine wpList_append_ints (by rfl) (.const (.slice none 0 0)) (.tmp 3) rfl Tryz.underlying22 hi hz0 hz1 hz2 w.heap.size w.heap.size (.slice none 0 0) [] v ys rfl (World.ownsRow_nil _ _ _ _) rfl HV.out (by simp; omega) (Nat.le_refl _) ?_
               intro v1 w1 hown1 hg1 hn1)
  go_ret
  exact ⟨_, rfl, Ints.of_own (by simpa using hown1), fun h => hn1 h (by trivial), (Below.refl _ _).grown hg1 (Nat.le_refl _) (by simp [Value.ownBlock])⟩
end Go.Proofs.YtecpbicfiaifdaaGreatDoor
/-
  The walks through table.copied and table.Decomp, the sequence being a row of the call's own.
-/
namespace Go.Proofs.YtecpbicfiaifdaaGreatDoor
open Go.RowKit ND

theorem row_le' {w : World} {base base' size n : Nat} {e : TypeId} {v : Value} {xs : List Value} (h : w.ownsRow base e size v n xs) (hb : base' ≤ base) : w.ownsRow base' e size v n xs :=
  ⟨h.1, h.2.imp id fun ⟨g, cap, cur, hv, h1, h2⟩ => ⟨g, cap, cur, hv, Nat.le_trans hb h1, h2⟩⟩
/-- A sequence of the call's own comes back: nil, if it is empty. -/
def RetSeqO (w : World) (ys : List Int) (e : Ending) (w' : World) : Prop :=
  ∃ v, e = .returned v ∧ w'.ownsRow w.heap.size 3 1 v ys.length (ys.map (Value.int .i64)) ∧ (ys = [] → v = .slice none 0 0) ∧ Below w.heap.size w w'

set_option maxRecDepth 100000 in
set_option maxHeartbeats 400000 in
theorem copiedO_any (v : Value) (ys : List Int) (w : World) (hv : Ints w w.heap.size .i64 v ys) (hl : ys.length ≤ 1000) :
    Calls Tryz.prog 100 #[v] w (RetSeqO w ys) := by
  obtain ⟨i0, hi, hz0, hz1, hz2⟩ := info_parts Tryz.infoInt'
  have HV := Lib.hid hv; clear hv
  go_enter Tryz.func100, Tryz.ntmps100
  go_wp2_with (at_builtin
               refine wpList_append_ints (by rfl) (.const (.slice none 0 0)) (.tmp 3) rfl Tryz.underlying22 hi hz0 hz1 hz2 w.heap.size w.heap.size (.slice none 0 0) [] v ys rfl (World.ownsRow_nil _ _ _ _) rfl HV.out (by simp; omega) (Nat.le_refl _) ?_
               intro v1 w1 hown1 hg1 hn1)
  go_ret
  exact ⟨_, rfl, (by simpa using hown1), fun h => hn1 h (by trivial), (Below.refl _ _).grown hg1 (Nat.le_refl _) (by simp [Value.ownBlock])⟩

set_option maxRecDepth 100000 in
set_option maxHeartbeats 400000 in
theorem decompO_any (t : Tv) (T : Tab) (c : Int) (w : World) (ht : TabR w w.heap.size t T) (hs : sortM T.decomps) (hne : ∀ m ∈ T.decomps, m.2 ≠ [] ∧ m.2.length ≤ 1000) (hlen : T.decomps.length ≤ 256) :
    Calls Tryz.prog 118 #[t.val, .int .i64 c] w (RetSeqO w (findL T.decomps c)) := by
  have HP := Lib.hid (fun W (h : Mapps W W.heap.size t.c9 T.decomps) => find_any t.c9 T.decomps c W h hs (fun m hm => (hne m hm).1) hlen)
  have HS := Lib.hid (find_len (c := c) (fun m hm => (hne m hm).2))
  have hr := ht.r9
  have HR := Lib.hid (fun o : Obj => hr.later ((Below.refl _ _).alloc (Nat.le_refl _) o))
  clear hr ht hs hlen hne
  go_enter Tryz.func118, Tryz.ntmps118
  go_wp2_with fail
  refine (HP.out _ (HR.out _)).mono ?_
  rintro e w1 ⟨v, rfl, hv, hn, b1⟩
  go_wp2_with fail
  refine (copiedO_any v _ w1 hv HS.out).mono ?_
  rintro e w2 ⟨v', rfl, hv', hn', b2⟩
  go_wp2_with fail
  go_ret
  have b0 : Below w.heap.size w (w.alloc (.cells t.cells 26)) := (Below.refl _ _).alloc (Nat.le_refl _) _
  exact ⟨_, rfl, row_le' hv' (Nat.le_trans b0.size b1.size), hn', below_next b0 (below_next b1 b2)⟩
end Go.Proofs.YtecpbicfiaifdaaGreatDoor
