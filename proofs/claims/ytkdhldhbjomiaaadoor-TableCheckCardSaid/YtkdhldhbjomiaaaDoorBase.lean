/-
  Words for memory: a slice value that reads as a list of integers; what keeps such readings. No program in sight.
-/
import Derived.WalkKit
import Derived.WalkSpells
import Derived.WalkLawsBesides
import Derived.ProofKit
import Derived.SizedLaws
import Derived.Lib.Hide
namespace Go.Proofs.YtkdhldhbjomiaaaDoor
open Go.ChangeShapes Go.WideShapes Go.ChangeAt Go.RowKit

theorem block_of_add (a : Addr) (n : Nat) : (a.add n).block = a.block := by unfold Addr.add; split <;> rfl
theorem add_of_add (a : Addr) (i j : Nat) : (a.add i).add j = a.add (i + j) := by
  unfold Addr.add
  by_cases hi : i = 0 <;> by_cases hj : j = 0 <;> simp [hi, hj, Nat.add_assoc]

/-- The slice value v holds the integers xs of kind k; its cells lie below block B. -/
def Ints (w : World) (B : Nat) (k : IntKind) (v : Value) (xs : List Int) : Prop :=
  ∃ A c, v = .slice A xs.length c ∧ xs.length ≤ c ∧ c ≤ maxLen ∧ (A = none → c = 0) ∧
    ∀ i x, xs[i]? = some x → ∃ ad, A = some ad ∧ ad.block < B ∧ w.cell? (ad.add i) = some (.int k x)

section
variable {w w' : World} {B B' : Nat} {k : IntKind} {v : Value} {xs : List Int}
theorem Ints.keep (h : Ints w B k v xs) (hk : ∀ p : Addr, p.block < B → w'.cell? p = w.cell? p) : Ints w' B k v xs := by
  obtain ⟨A, c, hv, h1, h2, h3, h4⟩ := h
  refine ⟨A, c, hv, h1, h2, h3, fun i x hi => ?_⟩
  obtain ⟨ad, e, hb, hc⟩ := h4 i x hi
  exact ⟨ad, e, hb, (hk _ (by rw [block_of_add]; exact hb)).trans hc⟩
theorem Ints.more (h : Ints w B k v xs) (hB : B ≤ B') : Ints w B' k v xs := by
  obtain ⟨A, c, hv, h1, h2, h3, h4⟩ := h
  refine ⟨A, c, hv, h1, h2, h3, fun i x hi => ?_⟩
  obtain ⟨ad, e, hb, hc⟩ := h4 i x hi
  exact ⟨ad, e, by omega, hc⟩
theorem Ints.below (h : Ints w B k v xs) (hb : Below B w w') : Ints w' B k v xs := h.keep fun _ hp => hb.cell hp
theorem Ints.later (h : Ints w w.heap.size k v xs) (hb : Below w.heap.size w w') : Ints w' w'.heap.size k v xs := (h.below hb).more hb.size
theorem Ints.none_ : Ints w B k (.slice none 0 0) [] := ⟨none, 0, rfl, Nat.le_refl _, Nat.zero_le _, fun _ => rfl, fun _ _ h => by simp at h⟩
theorem Ints.of_own {base : Nat} {e : TypeId} (h : w.ownsRow base e 1 v xs.length (xs.map (Value.int k))) : Ints w w.heap.size k v xs := by
  rcases h.2 with ⟨rfl, hn⟩ | ⟨g, cap, cur, rfl, hb, hg, hnc, hcm, _⟩
  · have : xs = [] := List.eq_nil_of_length_eq_zero hn
    subst this; exact Ints.none_
  · have hlt : g < w.heap.size := (Array.getElem?_eq_some_iff.1 hg).1
    exact ⟨_, cap, rfl, hnc, hcm, (by intro h; cases h), fun i x hi => ⟨_, rfl, hlt, h.cells (g := g) rfl i _ (by simp [hi])⟩⟩
end

section
variable {H : Type} {enc : TypeId × Value → H} {P : Program} {W : World}
/-- An argument that is a slice of integers. -/
theorem open_intslice {t e : TypeId} {k : IntKind} {v : Value} {d : DataW H} {p : List MemPlace} {r : Reach} {b : Nat} (ht : P.underlying t = some (.slice e)) (he : P.underlying e = some (.int k)) (hc : P.cellsOf e = 1)
    (hv : Value.okWide P W r b t v) (h : DataW.Trod enc P W 0 (fun _ => true) true t v d p) (hlt : ∀ x ∈ p, x.block < W.heap.size) :
    ∃ xs, Ints W W.heap.size k v xs ∧ (∀ x ∈ xs, (Lit.int k x).wf = true) ∧ (d = .nil ∧ xs.length = 0 ∨ ∃ es sp, d = .slice es sp ∧ es.length = xs.length) := by
  obtain ⟨a0, n, c, rfl⟩ := okWide_slice ht hv
  obtain ⟨fuel, hf⟩ := h
  rcases open_ints ht he hc hf with ⟨hcs, hx⟩ | ⟨a, len, cap, zs, hcs, _, hl, hm, hz, hx, hcell, hwf⟩
  · simp [Value.cells] at hcs
    obtain ⟨rfl, rfl, rfl⟩ := hcs
    simp at hx
    exact ⟨[], Ints.none_, by simp, .inl ⟨hx.1, rfl⟩⟩
  · simp [Value.cells] at hcs
    obtain ⟨rfl, rfl, rfl⟩ := hcs
    simp only [Prod.mk.injEq] at hx
    have hzl : zs.length = c := by simpa using hz
    have hxl : (zs.take n).length = n := by simp; omega
    refine ⟨zs.take n, ⟨some a, c, by rw [hxl], by omega, hm, (by intro h; cases h), fun i x hi => ⟨a, rfl, ?_, ?_⟩⟩, fun x hx => hwf x (List.mem_of_mem_take hx), .inr ⟨_, _, hx.1, by simp [lits]⟩⟩
    · have hin : MemPlace.cell a.block (a.off + i) ∈ MemPlace.row a zs.length := by
        have := (List.getElem?_eq_some_iff.1 hi).1
        unfold MemPlace.row; simp; omega
      exact hlt _ (by rw [hx.2]; exact hin)
    · have hi' := (List.getElem?_eq_some_iff.1 hi).1
      rw [hcell i (by omega)]
      rw [List.getElem?_take] at hi
      split at hi
      · rw [List.getD_eq_getElem?_getD, hi]; rfl
      · cases hi
theorem len_in {ts : List TypeId} {ds : List (DataW H)} (h : (DataW.weightsEach P ts ds).all (· ≤ reachBytes) = true) {j : Nat} {t e : TypeId} {d : DataW H} {b n : Nat} (ht : ts[j]? = some t) (hd : ds[j]? = some d)
    (hu : P.underlying t = some (.slice e)) (hb : P.bytesOf e = b) (hz : d = .nil ∧ n = 0 ∨ ∃ es sp, d = .slice es sp ∧ es.length = n) : n * b ≤ 140737488351232 := by
  rcases hz with ⟨rfl, rfl⟩ | ⟨es, sp, rfl, rfl⟩
  · omega
  · have := sized_slice h ht hd hu
    rw [hb] at this
    have h2 : es.length * b ≤ (es.length + sp.length) * b := Nat.mul_le_mul_right _ (by omega)
    simp only [reachBytes] at this
    omega
end

/-- The element at an index, and where it lies. -/
theorem get_of {xs : List Int} {k : Nat} (h : k < xs.length) : ∃ x, xs[k]? = some x ∧ x ∈ xs := ⟨xs[k], List.getElem?_eq_getElem h, List.getElem_mem h⟩

/-- The cells of a new block. -/
theorem cells_new (w : World) (l : List Value) (e : TypeId) : ∀ j u, l[j]? = some u → (w.alloc (.cells l.toArray e)).cell? ((⟨w.heap.size, 0, none⟩ : Addr).add j) = some u := by
  intro j u hu
  have hadd : (⟨w.heap.size, 0, none⟩ : Addr).add j = ⟨w.heap.size, j, none⟩ := by unfold Addr.add; split <;> simp_all
  rw [hadd, cell_of_row (w.alloc (.cells l.toArray e)) w.heap.size j _ _ _ (heap_alloc_new w _)]
  simpa using hu

/-- A string of one byte that is made of a slice of one byte. -/
theorem conv_one {P : Program} (w : World) (src dst e : TypeId) (x : Int) (hs : P.underlying src = some (.slice e)) (he : P.underlying e = some (.int .u8)) (hd : P.underlying dst = some .string) (h0 : 0 ≤ x) (h1 : x ≤ 255) :
    (convert src dst (.slice (some ⟨w.heap.size, 0, none⟩) 1 1)).run P (w.alloc (.cells #[.int .u8 x] e)) = .ok (.string ⟨#[UInt8.ofNat x.toNat]⟩) (w.alloc (.cells #[.int .u8 x] e)) := by
  have h := run_convert_bytes_back (P := P) (w.alloc (.cells #[.int .u8 x] e)) src dst e ⟨w.heap.size, 0, none⟩ 1 [UInt8.ofNat x.toNat] hs he hd (fun j hj => by
    obtain rfl : j = 0 := by simpa using hj
    have hc := cell_of_row (w.alloc (.cells #[.int .u8 x] e)) w.heap.size 0 _ _ _ (heap_alloc_new w _)
    simp only [Addr.add, if_true]
    rw [hc]
    have e1 : (UInt8.ofNat x.toNat).toNat = x.toNat := by simp; omega
    simp only [List.getElem_cons_zero, e1]
    have e2 : ((x.toNat : Nat) : Int) = x := by omega
    rw [e2]; rfl)
  exact h

theorem below_then {B : Nat} {a b c : World} (h : Below B a b) (hB : B ≤ a.heap.size) (k : Below b.heap.size b c) : Below B a c := h.trans (k.mono (Nat.le_trans hB h.size))
theorem below_next {a b c : World} (h : Below a.heap.size a b) (k : Below b.heap.size b c) : Below a.heap.size a c := below_then h (Nat.le_refl _) k

theorem int_in {a : Int} (h : (Lit.int .i64 a).wf = true) : -9223372036854775808 ≤ a ∧ a ≤ 9223372036854775807 := by
  simpa [Lit.wf, IntKind.min, IntKind.max, IntKind.signed, IntKind.bits] using h
theorem byte_in {a : Int} (h : (Lit.int .u8 a).wf = true) : 0 ≤ a ∧ a ≤ 255 := by
  simpa [Lit.wf, IntKind.min, IntKind.max, IntKind.signed, IntKind.bits] using h
end Go.Proofs.YtkdhldhbjomiaaaDoor
