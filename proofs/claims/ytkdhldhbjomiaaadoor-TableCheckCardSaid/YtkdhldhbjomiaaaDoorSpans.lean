/-
  Words for memory: a slice value that reads as a list of spans (three integers each).
-/
import Derived.Test.YtkdhldhbjomiaaaDoorBase
import Derived.Deep.Slices
import Derived.Deep.Fields
import Derived.ChangeSame
namespace Go.Proofs.YtkdhldhbjomiaaaDoor
open Go.ChangeShapes Go.WideShapes Go.Deep Go.RowKit

/-- From, To, Value. -/
def spCells (s : Int × Int × Int) : List Value := [.int .i64 s.1, .int .i64 s.2.1, .int .i64 s.2.2]
def Spans (w : World) (B : Nat) (v : Value) (xs : List (Int × Int × Int)) : Prop :=
  ∃ A c, v = .slice A xs.length c ∧ xs.length ≤ c ∧ c ≤ maxLen ∧ (A = none → c = 0) ∧
    ∀ i x, xs[i]? = some x → ∃ ad, A = some ad ∧ ad.block < B ∧ w.cell? (ad.add (i * 3)) = some (.int .i64 x.1) ∧ w.cell? (ad.add (i * 3 + 1)) = some (.int .i64 x.2.1) ∧ w.cell? (ad.add (i * 3 + 2)) = some (.int .i64 x.2.2)

section
variable {w w' : World} {B B' : Nat} {v : Value} {xs : List (Int × Int × Int)}
theorem Spans.keep (h : Spans w B v xs) (hk : ∀ p : Addr, p.block < B → w'.cell? p = w.cell? p) : Spans w' B v xs := by
  obtain ⟨A, c, hv, h1, h2, h3, h4⟩ := h
  refine ⟨A, c, hv, h1, h2, h3, fun i x hi => ?_⟩
  obtain ⟨ad, e, hb, c0, c1, c2⟩ := h4 i x hi
  exact ⟨ad, e, hb, (hk _ (by rw [block_of_add]; exact hb)).trans c0, (hk _ (by rw [block_of_add]; exact hb)).trans c1, (hk _ (by rw [block_of_add]; exact hb)).trans c2⟩
theorem Spans.more (h : Spans w B v xs) (hB : B ≤ B') : Spans w B' v xs := by
  obtain ⟨A, c, hv, h1, h2, h3, h4⟩ := h
  refine ⟨A, c, hv, h1, h2, h3, fun i x hi => ?_⟩
  obtain ⟨ad, e, hb, hc⟩ := h4 i x hi
  exact ⟨ad, e, by omega, hc⟩
theorem Spans.below (h : Spans w B v xs) (hb : Below B w w') : Spans w' B v xs := h.keep fun _ hp => hb.cell hp
theorem Spans.later (h : Spans w w.heap.size v xs) (hb : Below w.heap.size w w') : Spans w' w'.heap.size v xs := (h.below hb).more hb.size
theorem Spans.none_ : Spans w B (.slice none 0 0) [] := ⟨none, 0, rfl, Nat.le_refl _, Nat.zero_le _, fun _ => rfl, fun _ _ h => by simp at h⟩
theorem spCells_at {xs : List (Int × Int × Int)} {i : Nat} {x : Int × Int × Int} (h : xs[i]? = some x) :
    (xs.flatMap spCells)[i * 3]? = some (.int .i64 x.1) ∧ (xs.flatMap spCells)[i * 3 + 1]? = some (.int .i64 x.2.1) ∧ (xs.flatMap spCells)[i * 3 + 2]? = some (.int .i64 x.2.2) := by
  induction xs generalizing i with
  | nil => simp at h
  | cons y ys ih =>
    cases i with
    | zero =>
      simp at h; subst h
      simp [spCells]
    | succ i =>
      have h' := ih (by simpa using h)
      have e : (i + 1) * 3 = i * 3 + 3 := by omega
      simp only [List.flatMap_cons, e]
      have hl : (spCells y).length = 3 := rfl
      refine ⟨?_, ?_, ?_⟩
      · rw [List.getElem?_append_right (by omega), hl, Nat.add_sub_cancel]; exact h'.1
      · rw [List.getElem?_append_right (by omega), hl, show i * 3 + 3 + 1 - 3 = i * 3 + 1 by omega]; exact h'.2.1
      · rw [List.getElem?_append_right (by omega), hl, show i * 3 + 3 + 2 - 3 = i * 3 + 2 by omega]; exact h'.2.2
theorem Spans.of_own {base : Nat} {e : TypeId} (h : w.ownsRow base e 3 v xs.length (xs.flatMap spCells)) : Spans w w.heap.size v xs := by
  rcases h.2 with ⟨rfl, hn⟩ | ⟨g, cap, cur, rfl, hb, hg, hnc, hcm, _⟩
  · have : xs = [] := List.eq_nil_of_length_eq_zero hn
    subst this; exact Spans.none_
  · have hlt : g < w.heap.size := (Array.getElem?_eq_some_iff.1 hg).1
    refine ⟨_, cap, rfl, hnc, hcm, (by intro h; cases h), fun i x hx => ⟨_, rfl, hlt, ?_⟩⟩
    obtain ⟨a, b, c⟩ := spCells_at hx
    exact ⟨h.cells (g := g) rfl _ _ a, h.cells (g := g) rfl _ _ b, h.cells (g := g) rfl _ _ c⟩
end

section
variable {H : Type} {enc : TypeId × Value → H} {P : Program} {w : World} {base : Nat} {spare : Nat → Bool} {held : Bool}
/-- An argument that is a slice of structs of one-cell fields (after the guide's page on structs). -/
theorem open_slice_fields {t e : TypeId} {fs : Array Field} {fuel : Nat} {cs : List Value} {x : DataW H × List MemPlace} (ht : P.underlying t = some (.slice e)) (he : P.underlying e = some (.struct fs))
    (hone : oneCellFields P fs = true) (hC : P.cellsOf e = fs.size) (h : DataW.trod enc P w base spare held fuel t cs = some x) :
    (cs = [.slice none 0 0] ∧ x = (.nil, [])) ∨
    ∃ (a : Addr) (len cap m : Nat) (D : Nat → DataW H) (Pl : Nat → List MemPlace), cs = [.slice (some a) len cap] ∧ base ≤ a.block ∧ len ≤ cap ∧ cap ≤ maxLen ∧ m = (if spare a.block then cap else len) ∧
      x = (.slice ((List.range len).map D) ((List.range (m - len)).map fun j => D (len + j)), MemPlace.row a (m * fs.size) ++ (List.range m).flatMap Pl) ∧
      ∀ i, i < m → ∃ (ys : List (DataW H × List MemPlace)) (n : Nat), D i = .agg (ys.map (·.1)) ∧ Pl i = ys.flatMap (·.2) ∧ ys.length = fs.size ∧
        ∀ (j : Nat) (f : Field), fs[j]? = some f → ∃ (v : Value) (y : DataW H × List MemPlace), w.cell? (a.add (i * fs.size + j)) = some v ∧ ys[j]? = some y ∧ DataW.trod enc P w base spare held n f.type [v] = some y := by
  rcases open_slice ht h with h0 | ⟨a, len, cap, m, n, D, Pl, hcs, hb, hl, hm, hmm, hx, hi⟩
  · exact .inl h0
  · refine .inr ⟨a, len, cap, m, D, Pl, hcs, hb, hl, hm, hmm, by rw [hC] at hx; exact hx, fun i him => ?_⟩
    obtain ⟨cs', hc, ht'⟩ := hi i him
    rw [hC] at hc
    obtain ⟨ys, n', hn', hy, hlen, hyl, hf⟩ := DataW.trod_struct he ht'
    obtain ⟨_, hcl, hat⟩ := World.cells?_some hc
    simp only [Prod.mk.injEq] at hy
    refine ⟨ys, n', hy.1, hy.2, hyl, fun j f hj => ?_⟩
    obtain ⟨ho, hk⟩ := hone_of hone j f hj
    have hjl : j < fs.size := (Array.getElem?_eq_some_iff.1 hj).1
    have hcell := hat j hjl
    have hv : cs'[j]? = some (cs'[j]'(by omega)) := List.getElem?_eq_getElem (by omega)
    have h1 := hf j f hj
    rw [ho, hk] at h1
    have hone' : (cs'.drop j).take 1 = [cs'[j]'(by omega)] := by
      rw [List.drop_eq_getElem_cons (by omega)]
      rfl
    rw [hone'] at h1
    have hys : ys[j]? = some (ys[j]'(by omega)) := List.getElem?_eq_getElem (by omega)
    refine ⟨_, _, ?_, hys, h1.trans hys⟩
    rw [← Go.Deep.add_add, hcell, hv]
end

section
variable {H : Type} {enc : TypeId × Value → H} {P : Program} {W : World}
/-- An argument that is a slice of spans. -/
theorem open_spans {t e ti : TypeId} {f0 f1 f2 : Field} {v : Value} {d : DataW H} {p : List MemPlace} {r : Reach} {b : Nat} (ht : P.underlying t = some (.slice e)) (he : P.underlying e = some (.struct #[f0, f1, f2]))
    (hone : oneCellFields P #[f0, f1, f2] = true) (hC : P.cellsOf e = 3) (t0 : f0.type = ti) (t1 : f1.type = ti) (t2 : f2.type = ti) (hti : P.underlying ti = some (.int .i64))
    (hv : Value.okWide P W r b t v) (h : DataW.Trod enc P W 0 (fun _ => true) true t v d p) (hlt : ∀ x ∈ p, x.block < W.heap.size) :
    ∃ xs, Spans W W.heap.size v xs ∧ (∀ x ∈ xs, (Lit.int .i64 x.1).wf = true ∧ (Lit.int .i64 x.2.1).wf = true ∧ (Lit.int .i64 x.2.2).wf = true) ∧ (d = .nil ∧ xs.length = 0 ∨ ∃ es sp, d = .slice es sp ∧ es.length = xs.length) := by
  obtain ⟨a0, n, c, rfl⟩ := okWide_slice ht hv
  obtain ⟨fuel, hf⟩ := h
  rcases open_slice_fields ht he hone hC hf with ⟨hcs, hx⟩ | ⟨a, len, cap, m, D, Pl, hcs, _, hl, hm, hmm, hx, hi⟩
  · simp [Value.cells] at hcs
    obtain ⟨rfl, rfl, rfl⟩ := hcs
    simp at hx
    exact ⟨[], Spans.none_, by simp, .inl ⟨hx.1, rfl⟩⟩
  · simp [Value.cells] at hcs
    obtain ⟨rfl, rfl, rfl⟩ := hcs
    simp only [Prod.mk.injEq] at hx
    have hmc : m = c := by simpa using hmm
    subst hmc
    have key : ∀ i : Nat, ∃ x : Int × Int × Int, i < m → W.cell? (a.add (i * 3)) = some (.int .i64 x.1) ∧ W.cell? (a.add (i * 3 + 1)) = some (.int .i64 x.2.1) ∧ W.cell? (a.add (i * 3 + 2)) = some (.int .i64 x.2.2) ∧
        (Lit.int .i64 x.1).wf = true ∧ (Lit.int .i64 x.2.1).wf = true ∧ (Lit.int .i64 x.2.2).wf = true := by
      intro i
      by_cases him : i < m
      · obtain ⟨ys, k, _, _, _, hj⟩ := hi i him
        obtain ⟨v0, y0, c0, _, r0⟩ := hj 0 f0 rfl
        obtain ⟨v1, y1, c1, _, r1⟩ := hj 1 f1 rfl
        obtain ⟨v2, y2, c2, _, r2⟩ := hj 2 f2 rfl
        rw [t0] at r0; rw [t1] at r1; rw [t2] at r2
        obtain ⟨z0, e0, _, w0⟩ := DataW.trod_int hti r0
        obtain ⟨z1, e1, _, w1⟩ := DataW.trod_int hti r1
        obtain ⟨z2, e2, _, w2⟩ := DataW.trod_int hti r2
        simp at e0 e1 e2
        subst e0 e1 e2
        exact ⟨(z0, z1, z2), fun _ => ⟨c0, c1, c2, w0, w1, w2⟩⟩
      · exact ⟨(0, 0, 0), fun h => absurd h him⟩
    let f : Nat → Int × Int × Int := fun i => (key i).choose
    have hfs := fun i => (key i).choose_spec
    refine ⟨(List.range n).map f, ⟨some a, m, by simp, by simpa using hl, hm, (by intro h; cases h), fun i x hxi => ⟨a, rfl, ?_, ?_⟩⟩, ?_, .inr ⟨_, _, hx.1, by simp⟩⟩
    · have hin : i < n := by simpa using (List.getElem?_eq_some_iff.1 hxi).1
      have hp : MemPlace.cell a.block (a.off + 0) ∈ MemPlace.row a (m * 3) := by
        unfold MemPlace.row; simp; omega
      exact hlt _ (by rw [hx.2]; exact List.mem_append_left _ hp)
    · have hin : i < n := by simpa using (List.getElem?_eq_some_iff.1 hxi).1
      have he : x = f i := by simpa [hin] using hxi.symm
      subst he
      obtain ⟨q0, q1, q2, _⟩ := hfs i (by omega)
      exact ⟨q0, q1, q2⟩
    · intro x hxm
      obtain ⟨i, hi', rfl⟩ := List.mem_map.1 hxm
      obtain ⟨_, _, _, q⟩ := hfs i (by have := List.mem_range.1 hi'; omega)
      exact q
end
end Go.Proofs.YtkdhldhbjomiaaaDoor
