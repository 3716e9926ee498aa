/-
  Words for memory: a slice value that reads as a list of mappings; tables by value; the variable that holds the reserved blocks.
-/
import Derived.Test.YtkdhldhbjomiaaaDoorMore
import Derived.Test.YtkdhldhbjomiaaaDoorTabP
namespace Go.Proofs.YtkdhldhbjomiaaaDoor
open Go.ChangeShapes Go.WideShapes Go.Deep Go.RowKit ND

/-- The slice value v holds the mappings xs; their cells and their sequences' cells lie below block B. -/
def Mapps (w : World) (B : Nat) (v : Value) (xs : List Mp) : Prop :=
  ∃ A c, v = .slice A xs.length c ∧ xs.length ≤ c ∧ c ≤ maxLen ∧ (A = none → c = 0) ∧
    ∀ i x, xs[i]? = some x → ∃ ad sv, A = some ad ∧ ad.block < B ∧ w.cell? (ad.add (i * 2)) = some (.int .i64 x.1) ∧ w.cell? (ad.add (i * 2 + 1)) = some sv ∧ Ints w B .i64 sv x.2
section
variable {w w' : World} {B B' : Nat} {v : Value} {xs : List Mp}
theorem Mapps.keep (h : Mapps w B v xs) (hk : ∀ p : Addr, p.block < B → w'.cell? p = w.cell? p) : Mapps w' B v xs := by
  obtain ⟨A, c, hv, h1, h2, h3, h4⟩ := h
  refine ⟨A, c, hv, h1, h2, h3, fun i x hi => ?_⟩
  obtain ⟨ad, sv, e, hb, c0, c1, hi'⟩ := h4 i x hi
  exact ⟨ad, sv, e, hb, (hk _ (by rw [block_of_add]; exact hb)).trans c0, (hk _ (by rw [block_of_add]; exact hb)).trans c1, hi'.keep hk⟩
theorem Mapps.more (h : Mapps w B v xs) (hB : B ≤ B') : Mapps w B' v xs := by
  obtain ⟨A, c, hv, h1, h2, h3, h4⟩ := h
  refine ⟨A, c, hv, h1, h2, h3, fun i x hi => ?_⟩
  obtain ⟨ad, sv, e, hb, c0, c1, hi'⟩ := h4 i x hi
  exact ⟨ad, sv, e, by omega, c0, c1, hi'.more hB⟩
theorem Mapps.below (h : Mapps w B v xs) (hb : Below B w w') : Mapps w' B v xs := h.keep fun _ hp => hb.cell hp
theorem Mapps.later (h : Mapps w w.heap.size v xs) (hb : Below w.heap.size w w') : Mapps w' w'.heap.size v xs := (h.below hb).more hb.size
theorem Mapps.none_ : Mapps w B (.slice none 0 0) [] := ⟨none, 0, rfl, Nat.le_refl _, Nat.zero_le _, fun _ => rfl, fun _ _ h => by simp at h⟩
end

/-- The two cells of a mapping, as a load of the whole has them, and its sequence. -/
theorem map_cells {w wr : World} {ad : Addr} {k : Nat} {B : Nat} {x y : Value} (hb : Below B w wr) (ha : ad.block < B) (d0 : w.cell? (ad.add (k * 2)) = some x) (d1 : w.cell? (ad.add (k * 2 + 1)) = some y) :
    wr.cell? (ad.add (k * 2)) = some x ∧ wr.cell? { block := (ad.add (k * 2)).block, off := (ad.add (k * 2)).off + 1, spot := none } = some y := by
  refine ⟨(hb.cell (p := ad.add (k * 2)) (by rw [block_of_add]; exact ha)).trans d0, ?_⟩
  rw [← add_mid _ _ _ (by decide)]; exact (hb.cell (p := ad.add (k * 2 + 1)) (by rw [block_of_add]; exact ha)).trans d1

/-- The twelve slices of tables. -/
structure Tv where
  c0 : Value
  c1 : Value
  c2 : Value
  c3 : Value
  c4 : Value
  c5 : Value
  c6 : Value
  c7 : Value
  c8 : Value
  c9 : Value
  c10 : Value
  c11 : Value
structure TabR (w : World) (B : Nat) (t : Tv) (T : Tab) : Prop where
  r0 : Spans w B t.c0 T.category
  r1 : Spans w B t.c1 T.cls
  r2 : Spans w B t.c2 T.joining
  r3 : Spans w B t.c3 T.bidi
  r4 : Spans w B t.c4 T.script
  r5 : Spans w B t.c5 T.status
  r6 : Spans w B t.c6 T.ignorable
  r7 : Mapps w B t.c7 T.extensions
  r8 : Mapps w B t.c8 T.maps
  r9 : Mapps w B t.c9 T.decomps
  r10 : Ints w B .i64 t.c10 T.excluded
  r11 : Mapps w B t.c11 T.prototypes
section
variable {w w' : World} {B B' : Nat} {t : Tv} {T : Tab}
theorem TabR.keep (h : TabR w B t T) (hk : ∀ p : Addr, p.block < B → w'.cell? p = w.cell? p) : TabR w' B t T :=
  ⟨h.r0.keep hk, h.r1.keep hk, h.r2.keep hk, h.r3.keep hk, h.r4.keep hk, h.r5.keep hk, h.r6.keep hk, h.r7.keep hk, h.r8.keep hk, h.r9.keep hk, h.r10.keep hk, h.r11.keep hk⟩
theorem TabR.more (h : TabR w B t T) (hB : B ≤ B') : TabR w B' t T :=
  ⟨h.r0.more hB, h.r1.more hB, h.r2.more hB, h.r3.more hB, h.r4.more hB, h.r5.more hB, h.r6.more hB, h.r7.more hB, h.r8.more hB, h.r9.more hB, h.r10.more hB, h.r11.more hB⟩
theorem TabR.below (h : TabR w B t T) (hb : Below B w w') : TabR w' B t T := h.keep fun _ hp => hb.cell hp
theorem TabR.later (h : TabR w w.heap.size t T) (hb : Below w.heap.size w w') : TabR w' w'.heap.size t T := (h.below hb).more hb.size
end
/-- Tables as a value. -/
abbrev Tv.val (t : Tv) : Value := .agg #[t.c0, t.c1, t.c2, t.c3, t.c4, t.c5, t.c6, t.c7, t.c8, t.c9, t.c10, t.c11]
abbrev Tv.cells (t : Tv) : Array Value := #[t.c0, t.c1, t.c2, t.c3, t.c4, t.c5, t.c6, t.c7, t.c8, t.c9, t.c10, t.c11]
end Go.Proofs.YtkdhldhbjomiaaaDoor
