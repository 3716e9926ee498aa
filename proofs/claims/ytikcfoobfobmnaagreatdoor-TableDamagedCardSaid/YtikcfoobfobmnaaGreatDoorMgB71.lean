/-
  Merged texts: lemmas and walks that the last text of this claim leans on.
-/
import Derived.WalkKit
import Derived.WalkSpells
import Derived.WalkLawsBesides
import Derived.ProofKit
import Derived.SizedLaws
import Derived.Lib.Hide
import Derived.Deep.Draws
import Derived.Deep.QuietTactic
import Derived.Deep.Slices
import Derived.Deep.Fields
import Derived.ChangeSame
import Derived.Test.YtikcfoobfobmnaaGreatDoorProg
import Derived.IntWalk
import Derived.Laws.BitsAllLaws
import Derived.Laws.Bits64
/-
  Words for memory: a slice value that reads as a list of integers; what keeps such readings. No program in sight.
-/
namespace Go.Proofs.YtikcfoobfobmnaaGreatDoor
open Go.ChangeShapes Go.WideShapes Go.ChangeAt Go.RowKit

theorem block_of_add (a : Addr) (n : Nat) : (a.add n).block = a.block := by unfold Addr.add; split <;> rfl
theorem add_of_add (a : Addr) (i j : Nat) : (a.add i).add j = a.add (i + j) := by
  unfold Addr.add
  by_cases hi : i = 0 <;> by_cases hj : j = 0 <;> simp [hi, hj, Nat.add_assoc]

/-- The slice value v holds the integers xs of kind k; its cells lie below block B. -/
def Ints (w : World) (B : Nat) (k : IntKind) (v : Value) (xs : List Int) : Prop :=
  ∃ A c, v = .slice A xs.length c ∧ xs.length ≤ c ∧ c ≤ maxLen ∧ (A = none → c = 0) ∧
    ∀ i x, xs[i]? = some x → ∃ ad, A = some ad ∧ ad.block < B ∧ w.cell? (ad.add i) = some (.int k x)

section
variable {w w' : World} {B B' : Nat} {k : IntKind} {v : Value} {xs : List Int}
theorem Ints.keep (h : Ints w B k v xs) (hk : ∀ p : Addr, p.block < B → w'.cell? p = w.cell? p) : Ints w' B k v xs := by
  obtain ⟨A, c, hv, h1, h2, h3, h4⟩ := h
  refine ⟨A, c, hv, h1, h2, h3, fun i x hi => ?_⟩
  obtain ⟨ad, e, hb, hc⟩ := h4 i x hi
  exact ⟨ad, e, hb, (hk _ (by rw [block_of_add]; exact hb)).trans hc⟩
theorem Ints.more (h : Ints w B k v xs) (hB : B ≤ B') : Ints w B' k v xs := by
  obtain ⟨A, c, hv, h1, h2, h3, h4⟩ := h
  refine ⟨A, c, hv, h1, h2, h3, fun i x hi => ?_⟩
  obtain ⟨ad, e, hb, hc⟩ := h4 i x hi
  exact ⟨ad, e, by omega, hc⟩
theorem Ints.below (h : Ints w B k v xs) (hb : Below B w w') : Ints w' B k v xs := h.keep fun _ hp => hb.cell hp
theorem Ints.later (h : Ints w w.heap.size k v xs) (hb : Below w.heap.size w w') : Ints w' w'.heap.size k v xs := (h.below hb).more hb.size
theorem Ints.none_ : Ints w B k (.slice none 0 0) [] := ⟨none, 0, rfl, Nat.le_refl _, Nat.zero_le _, fun _ => rfl, fun _ _ h => by simp at h⟩
theorem Ints.of_own {base : Nat} {e : TypeId} (h : w.ownsRow base e 1 v xs.length (xs.map (Value.int k))) : Ints w w.heap.size k v xs := by
  rcases h.2 with ⟨rfl, hn⟩ | ⟨g, cap, cur, rfl, hb, hg, hnc, hcm, _⟩
  · have : xs = [] := List.eq_nil_of_length_eq_zero hn
    subst this; exact Ints.none_
  · have hlt : g < w.heap.size := (Array.getElem?_eq_some_iff.1 hg).1
    exact ⟨_, cap, rfl, hnc, hcm, (by intro h; cases h), fun i x hi => ⟨_, rfl, hlt, h.cells (g := g) rfl i _ (by simp [hi])⟩⟩
end

section
variable {H : Type} {enc : TypeId × Value → H} {P : Program} {W : World}
/-- An argument that is a slice of integers. -/
theorem open_intslice {t e : TypeId} {k : IntKind} {v : Value} {d : DataW H} {p : List MemPlace} {r : Reach} {b : Nat} (ht : P.underlying t = some (.slice e)) (he : P.underlying e = some (.int k)) (hc : P.cellsOf e = 1)
    (hv : Value.okWide P W r b t v) (h : DataW.Trod enc P W 0 (fun _ => true) true t v d p) (hlt : ∀ x ∈ p, x.block < W.heap.size) :
    ∃ xs, Ints W W.heap.size k v xs ∧ (∀ x ∈ xs, (Lit.int k x).wf = true) ∧ (d = .nil ∧ xs.length = 0 ∨ ∃ es sp, d = .slice es sp ∧ es.length = xs.length) := by
  obtain ⟨a0, n, c, rfl⟩ := okWide_slice ht hv
  obtain ⟨fuel, hf⟩ := h
  rcases open_ints ht he hc hf with ⟨hcs, hx⟩ | ⟨a, len, cap, zs, hcs, _, hl, hm, hz, hx, hcell, hwf⟩
  · simp [Value.cells] at hcs
    obtain ⟨rfl, rfl, rfl⟩ := hcs
    simp at hx
    exact ⟨[], Ints.none_, by simp, .inl ⟨hx.1, rfl⟩⟩
  · simp [Value.cells] at hcs
    obtain ⟨rfl, rfl, rfl⟩ := hcs
    simp only [Prod.mk.injEq] at hx
    have hzl : zs.length = c := by simpa using hz
    have hxl : (zs.take n).length = n := by simp; omega
    refine ⟨zs.take n, ⟨some a, c, by rw [hxl], by omega, hm, (by intro h; cases h), fun i x hi => ⟨a, rfl, ?_, ?_⟩⟩, fun x hx => hwf x (List.mem_of_mem_take hx), .inr ⟨_, _, hx.1, by simp [lits]⟩⟩
    · have hin : MemPlace.cell a.block (a.off + i) ∈ MemPlace.row a zs.length := by
        have := (List.getElem?_eq_some_iff.1 hi).1
        unfold MemPlace.row; simp; omega
      exact hlt _ (by rw [hx.2]; exact hin)
    · have hi' := (List.getElem?_eq_some_iff.1 hi).1
      rw [hcell i (by omega)]
      rw [List.getElem?_take] at hi
      split at hi
      · rw [List.getD_eq_getElem?_getD, hi]; rfl
      · cases hi
theorem len_in {ts : List TypeId} {ds : List (DataW H)} (h : (DataW.weightsEach P ts ds).all (· ≤ reachBytes) = true) {j : Nat} {t e : TypeId} {d : DataW H} {b n : Nat} (ht : ts[j]? = some t) (hd : ds[j]? = some d)
    (hu : P.underlying t = some (.slice e)) (hb : P.bytesOf e = b) (hz : d = .nil ∧ n = 0 ∨ ∃ es sp, d = .slice es sp ∧ es.length = n) : n * b ≤ 140737488351232 := by
  rcases hz with ⟨rfl, rfl⟩ | ⟨es, sp, rfl, rfl⟩
  · omega
  · have := sized_slice h ht hd hu
    rw [hb] at this
    have h2 : es.length * b ≤ (es.length + sp.length) * b := Nat.mul_le_mul_right _ (by omega)
    simp only [reachBytes] at this
    omega
end

/-- The element at an index, and where it lies. -/
theorem get_of {xs : List Int} {k : Nat} (h : k < xs.length) : ∃ x, xs[k]? = some x ∧ x ∈ xs := ⟨xs[k], List.getElem?_eq_getElem h, List.getElem_mem h⟩

/-- The cells of a new block. -/
theorem cells_new (w : World) (l : List Value) (e : TypeId) : ∀ j u, l[j]? = some u → (w.alloc (.cells l.toArray e)).cell? ((⟨w.heap.size, 0, none⟩ : Addr).add j) = some u := by
  intro j u hu
  have hadd : (⟨w.heap.size, 0, none⟩ : Addr).add j = ⟨w.heap.size, j, none⟩ := by unfold Addr.add; split <;> simp_all
  rw [hadd, cell_of_row (w.alloc (.cells l.toArray e)) w.heap.size j _ _ _ (heap_alloc_new w _)]
  simpa using hu

/-- A string of one byte that is made of a slice of one byte. -/
theorem conv_one {P : Program} (w : World) (src dst e : TypeId) (x : Int) (hs : P.underlying src = some (.slice e)) (he : P.underlying e = some (.int .u8)) (hd : P.underlying dst = some .string) (h0 : 0 ≤ x) (h1 : x ≤ 255) :
    (convert src dst (.slice (some ⟨w.heap.size, 0, none⟩) 1 1)).run P (w.alloc (.cells #[.int .u8 x] e)) = .ok (.string ⟨#[UInt8.ofNat x.toNat]⟩) (w.alloc (.cells #[.int .u8 x] e)) := by
  have h := run_convert_bytes_back (P := P) (w.alloc (.cells #[.int .u8 x] e)) src dst e ⟨w.heap.size, 0, none⟩ 1 [UInt8.ofNat x.toNat] hs he hd (fun j hj => by
    obtain rfl : j = 0 := by simpa using hj
    have hc := cell_of_row (w.alloc (.cells #[.int .u8 x] e)) w.heap.size 0 _ _ _ (heap_alloc_new w _)
    simp only [Addr.add, if_true]
    rw [hc]
    have e1 : (UInt8.ofNat x.toNat).toNat = x.toNat := by simp; omega
    simp only [List.getElem_cons_zero, e1]
    have e2 : ((x.toNat : Nat) : Int) = x := by omega
    rw [e2]; rfl)
  exact h

theorem below_then {B : Nat} {a b c : World} (h : Below B a b) (hB : B ≤ a.heap.size) (k : Below b.heap.size b c) : Below B a c := h.trans (k.mono (Nat.le_trans hB h.size))
theorem below_next {a b c : World} (h : Below a.heap.size a b) (k : Below b.heap.size b c) : Below a.heap.size a c := below_then h (Nat.le_refl _) k

theorem int_in {a : Int} (h : (Lit.int .i64 a).wf = true) : -9223372036854775808 ≤ a ∧ a ≤ 9223372036854775807 := by
  simpa [Lit.wf, IntKind.min, IntKind.max, IntKind.signed, IntKind.bits] using h
theorem byte_in {a : Int} (h : (Lit.int .u8 a).wf = true) : 0 ≤ a ∧ a ≤ 255 := by
  simpa [Lit.wf, IntKind.min, IntKind.max, IntKind.signed, IntKind.bits] using h
end Go.Proofs.YtikcfoobfobmnaaGreatDoor
/-
  A block that is known whole; what keeps it. A row of the call's own behind other calls.
-/
namespace Go.Proofs.YtikcfoobfobmnaaGreatDoor
open Go.RowKit

/-- Block g is just these cells, none of them frozen. -/
def Blk (w : World) (g : Nat) (t : TypeId) (cs : Array Value) : Prop := w.heap[g]? = some (.cells cs t (0, 0))
section
variable {w w' : World} {g : Nat} {t : TypeId} {cs : Array Value}
theorem Blk.lt (h : Blk w g t cs) : g < w.heap.size := (Array.getElem?_eq_some_iff.1 h).1
theorem Blk.cell (h : Blk w g t cs) (i : Nat) : w.cell? ⟨g, i, none⟩ = cs[i]? := cell_of_row w g i cs t (0, 0) h
theorem Blk.free (h : Blk w g t cs) (i : Nat) : w.frozen? ⟨g, i, none⟩ = false := by
  unfold Blk at h
  simp [World.frozen?, h]
theorem Blk.new (w : World) (t : TypeId) (cs : Array Value) : Blk (w.alloc (.cells cs t)) w.heap.size t cs := heap_alloc_new w _
theorem Blk.alloc (h : Blk w g t cs) (o : Obj) : Blk (w.alloc o) g t cs := (Below.heap_alloc w o g h.lt).trans h
theorem Blk.put (h : Blk w g t cs) (i : Nat) (u : Value) : Blk (w.setCell ⟨g, i, none⟩ u) g t (cs.setIfInBounds i u) := by
  unfold Blk at h ⊢
  simp [World.setCell, Array.getElem?_modify, h]
theorem Blk.far (h : Blk w g t cs) {p : Addr} (hp : g ≠ p.block) (u : Value) : Blk (w.setCell p u) g t cs := (Below.heap_setCell w p u g hp).trans h
theorem Blk.below {B : Nat} (h : Blk w g t cs) (hb : Below B w w') (hg : g < B) : Blk w' g t cs := (hb.block g hg).trans h
theorem Blk.later (h : Blk w g t cs) (hb : Below w.heap.size w w') : Blk w' g t cs := h.below hb h.lt
theorem Blk.grown {row : Option Nat} (h : Blk w g t cs) (hb : w.grownBy w' row) (hg : some g ≠ row) : Blk w' g t cs := (hb.block g h.lt hg).trans h
end

theorem grown_setCell {a w : World} {g : Nat} (h : a.grownBy w (some g)) (i : Nat) (u : Value) : a.grownBy (w.setCell ⟨g, i, none⟩ u) (some g) :=
  ⟨h.os, h.tape, h.output, by simpa [World.setCell] using h.size, fun k hk hne => (Below.heap_setCell w ⟨g, i, none⟩ u k (by rintro rfl; exact hne rfl)).trans (h.block k hk hne)⟩
theorem grown_refl (w : World) (row : Option Nat) : w.grownBy w row := ⟨rfl, rfl, rfl, Nat.le_refl _, fun _ _ _ => rfl⟩
theorem grown_drewN {a w : World} {row : Option Nat} (h : a.grownBy w row) (n : Nat) : a.grownBy (w.drewN n) row := ⟨h.os, h.tape, h.output, h.size, h.block⟩
theorem below_of_grown {a b c : World} {B g : Nat} (h : Below B a b) (hg : b.grownBy c (some g)) (hB : B ≤ g) (hs : B ≤ b.heap.size) : Below B a c :=
  h.grown hg hs (fun k hk => by cases hk; exact hB)
theorem own_grown {w w' : World} {B g : Nat} {e : TypeId} {size : Nat} {v : Value} {n : Nat} {xs : List Value} (h : w.ownsRow B e size v n xs) (hg : w.grownBy w' (some g)) (hB : g < B) : w'.ownsRow B e size v n xs :=
  h.kept hg (by
    cases hv : v.ownBlock with
    | none => exact .inl rfl
    | some k => have := (h.lt k hv).1; refine .inr (fun e => ?_); cases e; omega)
theorem own_later {w w' : World} {B : Nat} {e : TypeId} {size : Nat} {v : Value} {n : Nat} {xs : List Value} (h : w.ownsRow B e size v n xs) (hb : Below w.heap.size w w') : w'.ownsRow B e size v n xs :=
  h.kept (row := none) ⟨hb.os, hb.tape, hb.output, hb.size, fun k hk _ => hb.block k hk⟩ (Classical.em _)

theorem quiet_left {P : Program} {f : FuncId} {args : Array Value} {w : World} {n : Nat} {v : Value}
    (h : Calls P f args (w.drewN n) fun e w' => e = .returned v ∧ w.drewN n = w') : Calls P f args (w.drewN n) fun e w'' => e = .returned v ∧ ∃ m, w'' = w.drewN m :=
  h.mono fun _ _ ⟨he, hm⟩ => ⟨he, n, hm.symm⟩
end Go.Proofs.YtikcfoobfobmnaaGreatDoor
/-
  Words for memory: a slice value that reads as a list of spans (three integers each).
-/
namespace Go.Proofs.YtikcfoobfobmnaaGreatDoor
open Go.ChangeShapes Go.WideShapes Go.Deep Go.RowKit

/-- From, To, Value. -/
def spCells (s : Int × Int × Int) : List Value := [.int .i64 s.1, .int .i64 s.2.1, .int .i64 s.2.2]
def Spans (w : World) (B : Nat) (v : Value) (xs : List (Int × Int × Int)) : Prop :=
  ∃ A c, v = .slice A xs.length c ∧ xs.length ≤ c ∧ c ≤ maxLen ∧ (A = none → c = 0) ∧
    ∀ i x, xs[i]? = some x → ∃ ad, A = some ad ∧ ad.block < B ∧ w.cell? (ad.add (i * 3)) = some (.int .i64 x.1) ∧ w.cell? (ad.add (i * 3 + 1)) = some (.int .i64 x.2.1) ∧ w.cell? (ad.add (i * 3 + 2)) = some (.int .i64 x.2.2)

section
variable {w w' : World} {B B' : Nat} {v : Value} {xs : List (Int × Int × Int)}
theorem Spans.keep (h : Spans w B v xs) (hk : ∀ p : Addr, p.block < B → w'.cell? p = w.cell? p) : Spans w' B v xs := by
  obtain ⟨A, c, hv, h1, h2, h3, h4⟩ := h
  refine ⟨A, c, hv, h1, h2, h3, fun i x hi => ?_⟩
  obtain ⟨ad, e, hb, c0, c1, c2⟩ := h4 i x hi
  exact ⟨ad, e, hb, (hk _ (by rw [block_of_add]; exact hb)).trans c0, (hk _ (by rw [block_of_add]; exact hb)).trans c1, (hk _ (by rw [block_of_add]; exact hb)).trans c2⟩
theorem Spans.more (h : Spans w B v xs) (hB : B ≤ B') : Spans w B' v xs := by
  obtain ⟨A, c, hv, h1, h2, h3, h4⟩ := h
  refine ⟨A, c, hv, h1, h2, h3, fun i x hi => ?_⟩
  obtain ⟨ad, e, hb, hc⟩ := h4 i x hi
  exact ⟨ad, e, by omega, hc⟩
theorem Spans.below (h : Spans w B v xs) (hb : Below B w w') : Spans w' B v xs := h.keep fun _ hp => hb.cell hp
theorem Spans.later (h : Spans w w.heap.size v xs) (hb : Below w.heap.size w w') : Spans w' w'.heap.size v xs := (h.below hb).more hb.size
theorem Spans.none_ : Spans w B (.slice none 0 0) [] := ⟨none, 0, rfl, Nat.le_refl _, Nat.zero_le _, fun _ => rfl, fun _ _ h => by simp at h⟩
theorem spCells_at {xs : List (Int × Int × Int)} {i : Nat} {x : Int × Int × Int} (h : xs[i]? = some x) :
    (xs.flatMap spCells)[i * 3]? = some (.int .i64 x.1) ∧ (xs.flatMap spCells)[i * 3 + 1]? = some (.int .i64 x.2.1) ∧ (xs.flatMap spCells)[i * 3 + 2]? = some (.int .i64 x.2.2) := by
  induction xs generalizing i with
  | nil => simp at h
  | cons y ys ih =>
    cases i with
    | zero =>
      simp at h; subst h
      simp [spCells]
    | succ i =>
      have h' := ih (by simpa using h)
      have e : (i + 1) * 3 = i * 3 + 3 := by omega
      simp only [List.flatMap_cons, e]
      have hl : (spCells y).length = 3 := rfl
      refine ⟨?_, ?_, ?_⟩
      · rw [List.getElem?_append_right (by omega), hl, Nat.add_sub_cancel]; exact h'.1
      · rw [List.getElem?_append_right (by omega), hl, show i * 3 + 3 + 1 - 3 = i * 3 + 1 by omega]; exact h'.2.1
      · rw [List.getElem?_append_right (by omega), hl, show i * 3 + 3 + 2 - 3 = i * 3 + 2 by omega]; exact h'.2.2
theorem Spans.of_own {base : Nat} {e : TypeId} (h : w.ownsRow base e 3 v xs.length (xs.flatMap spCells)) : Spans w w.heap.size v xs := by
  rcases h.2 with ⟨rfl, hn⟩ | ⟨g, cap, cur, rfl, hb, hg, hnc, hcm, _⟩
  · have : xs = [] := List.eq_nil_of_length_eq_zero hn
    subst this; exact Spans.none_
  · have hlt : g < w.heap.size := (Array.getElem?_eq_some_iff.1 hg).1
    refine ⟨_, cap, rfl, hnc, hcm, (by intro h; cases h), fun i x hx => ⟨_, rfl, hlt, ?_⟩⟩
    obtain ⟨a, b, c⟩ := spCells_at hx
    exact ⟨h.cells (g := g) rfl _ _ a, h.cells (g := g) rfl _ _ b, h.cells (g := g) rfl _ _ c⟩
end

section
variable {H : Type} {enc : TypeId × Value → H} {P : Program} {w : World} {base : Nat} {spare : Nat → Bool} {held : Bool}
/-- An argument that is a slice of structs of one-cell fields (after the guide's page on structs). -/
theorem open_slice_fields {t e : TypeId} {fs : Array Field} {fuel : Nat} {cs : List Value} {x : DataW H × List MemPlace} (ht : P.underlying t = some (.slice e)) (he : P.underlying e = some (.struct fs))
    (hone : oneCellFields P fs = true) (hC : P.cellsOf e = fs.size) (h : DataW.trod enc P w base spare held fuel t cs = some x) :
    (cs = [.slice none 0 0] ∧ x = (.nil, [])) ∨
    ∃ (a : Addr) (len cap m : Nat) (D : Nat → DataW H) (Pl : Nat → List MemPlace), cs = [.slice (some a) len cap] ∧ base ≤ a.block ∧ len ≤ cap ∧ cap ≤ maxLen ∧ m = (if spare a.block then cap else len) ∧
      x = (.slice ((List.range len).map D) ((List.range (m - len)).map fun j => D (len + j)), MemPlace.row a (m * fs.size) ++ (List.range m).flatMap Pl) ∧
      ∀ i, i < m → ∃ (ys : List (DataW H × List MemPlace)) (n : Nat), D i = .agg (ys.map (·.1)) ∧ Pl i = ys.flatMap (·.2) ∧ ys.length = fs.size ∧
        ∀ (j : Nat) (f : Field), fs[j]? = some f → ∃ (v : Value) (y : DataW H × List MemPlace), w.cell? (a.add (i * fs.size + j)) = some v ∧ ys[j]? = some y ∧ DataW.trod enc P w base spare held n f.type [v] = some y := by
  rcases open_slice ht h with h0 | ⟨a, len, cap, m, n, D, Pl, hcs, hb, hl, hm, hmm, hx, hi⟩
  · exact .inl h0
  · refine .inr ⟨a, len, cap, m, D, Pl, hcs, hb, hl, hm, hmm, by rw [hC] at hx; exact hx, fun i him => ?_⟩
    obtain ⟨cs', hc, ht'⟩ := hi i him
    rw [hC] at hc
    obtain ⟨ys, n', hn', hy, hlen, hyl, hf⟩ := DataW.trod_struct he ht'
    obtain ⟨_, hcl, hat⟩ := World.cells?_some hc
    simp only [Prod.mk.injEq] at hy
    refine ⟨ys, n', hy.1, hy.2, hyl, fun j f hj => ?_⟩
    obtain ⟨ho, hk⟩ := hone_of hone j f hj
    have hjl : j < fs.size := (Array.getElem?_eq_some_iff.1 hj).1
    have hcell := hat j hjl
    have hv : cs'[j]? = some (cs'[j]'(by omega)) := List.getElem?_eq_getElem (by omega)
    have h1 := hf j f hj
    rw [ho, hk] at h1
    have hone' : (cs'.drop j).take 1 = [cs'[j]'(by omega)] := by
      rw [List.drop_eq_getElem_cons (by omega)]
      rfl
    rw [hone'] at h1
    have hys : ys[j]? = some (ys[j]'(by omega)) := List.getElem?_eq_getElem (by omega)
    refine ⟨_, _, ?_, hys, h1.trans hys⟩
    rw [← Go.Deep.add_add, hcell, hv]
end

section
variable {H : Type} {enc : TypeId × Value → H} {P : Program} {W : World}
/-- An argument that is a slice of spans. -/
theorem open_spans {t e ti : TypeId} {f0 f1 f2 : Field} {v : Value} {d : DataW H} {p : List MemPlace} {r : Reach} {b : Nat} (ht : P.underlying t = some (.slice e)) (he : P.underlying e = some (.struct #[f0, f1, f2]))
    (hone : oneCellFields P #[f0, f1, f2] = true) (hC : P.cellsOf e = 3) (t0 : f0.type = ti) (t1 : f1.type = ti) (t2 : f2.type = ti) (hti : P.underlying ti = some (.int .i64))
    (hv : Value.okWide P W r b t v) (h : DataW.Trod enc P W 0 (fun _ => true) true t v d p) (hlt : ∀ x ∈ p, x.block < W.heap.size) :
    ∃ xs, Spans W W.heap.size v xs ∧ (∀ x ∈ xs, (Lit.int .i64 x.1).wf = true ∧ (Lit.int .i64 x.2.1).wf = true ∧ (Lit.int .i64 x.2.2).wf = true) ∧ (d = .nil ∧ xs.length = 0 ∨ ∃ es sp, d = .slice es sp ∧ es.length = xs.length) := by
  obtain ⟨a0, n, c, rfl⟩ := okWide_slice ht hv
  obtain ⟨fuel, hf⟩ := h
  rcases open_slice_fields ht he hone hC hf with ⟨hcs, hx⟩ | ⟨a, len, cap, m, D, Pl, hcs, _, hl, hm, hmm, hx, hi⟩
  · simp [Value.cells] at hcs
    obtain ⟨rfl, rfl, rfl⟩ := hcs
    simp at hx
    exact ⟨[], Spans.none_, by simp, .inl ⟨hx.1, rfl⟩⟩
  · simp [Value.cells] at hcs
    obtain ⟨rfl, rfl, rfl⟩ := hcs
    simp only [Prod.mk.injEq] at hx
    have hmc : m = c := by simpa using hmm
    subst hmc
    have key : ∀ i : Nat, ∃ x : Int × Int × Int, i < m → W.cell? (a.add (i * 3)) = some (.int .i64 x.1) ∧ W.cell? (a.add (i * 3 + 1)) = some (.int .i64 x.2.1) ∧ W.cell? (a.add (i * 3 + 2)) = some (.int .i64 x.2.2) ∧
        (Lit.int .i64 x.1).wf = true ∧ (Lit.int .i64 x.2.1).wf = true ∧ (Lit.int .i64 x.2.2).wf = true := by
      intro i
      by_cases him : i < m
      · obtain ⟨ys, k, _, _, _, hj⟩ := hi i him
        obtain ⟨v0, y0, c0, _, r0⟩ := hj 0 f0 rfl
        obtain ⟨v1, y1, c1, _, r1⟩ := hj 1 f1 rfl
        obtain ⟨v2, y2, c2, _, r2⟩ := hj 2 f2 rfl
        rw [t0] at r0; rw [t1] at r1; rw [t2] at r2
        obtain ⟨z0, e0, _, w0⟩ := DataW.trod_int hti r0
        obtain ⟨z1, e1, _, w1⟩ := DataW.trod_int hti r1
        obtain ⟨z2, e2, _, w2⟩ := DataW.trod_int hti r2
        simp at e0 e1 e2
        subst e0 e1 e2
        exact ⟨(z0, z1, z2), fun _ => ⟨c0, c1, c2, w0, w1, w2⟩⟩
      · exact ⟨(0, 0, 0), fun h => absurd h him⟩
    let f : Nat → Int × Int × Int := fun i => (key i).choose
    have hfs := fun i => (key i).choose_spec
    refine ⟨(List.range n).map f, ⟨some a, m, by simp, by simpa using hl, hm, (by intro h; cases h), fun i x hxi => ⟨a, rfl, ?_, ?_⟩⟩, ?_, .inr ⟨_, _, hx.1, by simp⟩⟩
    · have hin : i < n := by simpa using (List.getElem?_eq_some_iff.1 hxi).1
      have hp : MemPlace.cell a.block (a.off + 0) ∈ MemPlace.row a (m * 3) := by
        unfold MemPlace.row; simp; omega
      exact hlt _ (by rw [hx.2]; exact List.mem_append_left _ hp)
    · have hin : i < n := by simpa using (List.getElem?_eq_some_iff.1 hxi).1
      have he : x = f i := by simpa [hin] using hxi.symm
      subst he
      obtain ⟨q0, q1, q2, _⟩ := hfs i (by omega)
      exact ⟨q0, q1, q2⟩
    · intro x hxm
      obtain ⟨i, hi', rfl⟩ := List.mem_map.1 hxm
      obtain ⟨_, _, _, q⟩ := hfs i (by have := List.mem_range.1 hi'; omega)
      exact q
end
end Go.Proofs.YtikcfoobfobmnaaGreatDoor
/-
  Small lemmas that many texts use: results, lists, cells, rows of the call's own.
-/
namespace Go.Proofs.YtikcfoobfobmnaaGreatDoor
open Go.RowKit

theorem ret_bool {a b : Bool} (h : a = b) : Ending.returned (.bool a) = .returned (.bool b) := by rw [h]
theorem ret_int {k : IntKind} {a b : Int} (h : a = b) : Ending.returned (.int k a) = .returned (.int k b) := by rw [h]
theorem ret_int2 {k l : IntKind} {a b c d : Int} (h : a = b) (h' : c = d) : Ending.returned (.tuple #[.int k a, .int l c]) = .returned (.tuple #[.int k b, .int l d]) := by rw [h, h']
theorem bool_eq {a b : Bool} (h : a = true ↔ b = true) : a = b := Bool.eq_iff_iff.2 h
theorem drop_of_get {α : Type} {xs : List α} {k : Nat} {x : α} (h : xs[k]? = some x) : xs.drop k = x :: xs.drop (k + 1) := by
  obtain ⟨a, a'⟩ := List.getElem?_eq_some_iff.1 h
  rw [List.drop_eq_getElem_cons a, a']
theorem sz_list (s : ByteArray) : s.data.toList.length = s.size := by rw [Array.length_toList]; rfl
theorem all_no {α : Type} {f : α → Bool} {xs : List α} {k : Nat} {x : α} (hx : xs[k]? = some x) (h : (xs.drop k).all f = xs.all f) (hf : f x = false) : xs.all f = false := by
  rw [← h, drop_of_get hx]; simp [hf]
theorem all_yes {α : Type} {f : α → Bool} {xs : List α} {k : Nat} {x : α} (hx : xs[k]? = some x) (h : (xs.drop k).all f = xs.all f) (hf : f x = true) : (xs.drop (k + 1)).all f = xs.all f := by
  rw [← h, drop_of_get hx]; simp [hf]
theorem all_end {α : Type} {f : α → Bool} {xs : List α} {k : Nat} (hk : xs.length ≤ k) (h : (xs.drop k).all f = xs.all f) : xs.all f = true := by
  rw [← h, List.drop_eq_nil_of_le hk]; rfl
theorem Tryz.infoInt' : (Tryz.prog.info? 3).map (fun i => (i.zero, i.size, i.bytes)) = some (some (.int .i64 0), 1, 8) := by kernel_rfl
theorem Blk.at_ {w : World} {g : Nat} {t : TypeId} {cs : Array Value} {i : Nat} {u : Value} (h : Blk w g t cs) (hu : cs[i]? = some u) : w.cell? ⟨g, i, none⟩ = some u := (h.cell i).trans hu
theorem get_el {α : Type} {xs : List α} {k : Nat} (h : k < xs.length) : ∃ x, xs[k]? = some x ∧ x ∈ xs := ⟨xs[k], List.getElem?_eq_getElem h, List.getElem_mem h⟩
theorem add_mid (a : Addr) (i j : Nat) (h : j ≠ 0) : a.add (i + j) = { block := (a.add i).block, off := (a.add i).off + j, spot := none } := by
  rw [← add_of_add, Addr.add, if_neg h]
/-- The three cells of a span, as a load of the whole has them. -/
theorem span_cells {w wr : World} {ad : Addr} {k : Nat} {B : Nat} {x y z : Value} (hb : Below B w wr) (ha : ad.block < B) (d0 : w.cell? (ad.add (k * 3)) = some x) (d1 : w.cell? (ad.add (k * 3 + 1)) = some y) (d2 : w.cell? (ad.add (k * 3 + 2)) = some z) :
    wr.cell? (ad.add (k * 3)) = some x ∧ wr.cell? { block := (ad.add (k * 3)).block, off := (ad.add (k * 3)).off + 1, spot := none } = some y ∧ wr.cell? { block := (ad.add (k * 3)).block, off := (ad.add (k * 3)).off + 2, spot := none } = some z := by
  refine ⟨(hb.cell (p := ad.add (k * 3)) (by rw [block_of_add]; exact ha)).trans d0, ?_, ?_⟩
  · rw [← add_mid _ _ _ (by decide)]; exact (hb.cell (p := ad.add (k * 3 + 1)) (by rw [block_of_add]; exact ha)).trans d1
  · rw [← add_mid _ _ _ (by decide)]; exact (hb.cell (p := ad.add (k * 3 + 2)) (by rw [block_of_add]; exact ha)).trans d2
theorem grown_trans {a b c : World} {row : Option Nat} (h : a.grownBy b row) (k : b.grownBy c row) : a.grownBy c row :=
  ⟨k.os.trans h.os, k.tape.trans h.tape, k.output.trans h.output, Nat.le_trans h.size k.size, fun j hj hne => (k.block j (Nat.lt_of_lt_of_le hj h.size) hne).trans (h.block j hj hne)⟩
theorem grown_alloc (w : World) (o : Obj) (row : Option Nat) : w.grownBy (w.alloc o) row :=
  ⟨rfl, rfl, rfl, by simp, fun j hj _ => Below.heap_alloc w o j hj⟩
theorem Ints.grown {w w' : World} {g : Nat} {k : IntKind} {v : Value} {xs : List Int} (h : Ints w g k v xs) (hg : w.grownBy w' (some g)) (hlt : g < w.heap.size) : Ints w' g k v xs :=
  h.keep fun p hp => World.cell?_of_block (w := w) (hg.block p.block (by omega) (by intro e; cases e; omega))
theorem cell_kept {w w' : World} {g : Nat} {l : List Value} (b : Nat) (h : ∀ j u, l[j]? = some u → w.cell? ((⟨b, 0, none⟩ : Addr).add j) = some u) (hg : w.grownBy w' (some g)) (hb : b < w.heap.size) (hne : b ≠ g) (j : Nat) (u : Value) (hu : l[j]? = some u) : w'.cell? ⟨b, j, none⟩ = some u := by
  have h1 := h j u hu
  have hadd : (⟨b, 0, none⟩ : Addr).add j = ⟨b, j, none⟩ := by unfold Addr.add; split <;> simp_all
  rw [hadd] at h1
  exact (World.cell?_of_block (w := w) (a := ⟨b, j, none⟩) (hg.block b hb (by intro e; cases e; exact hne rfl))).trans h1
theorem Ints.grownB {w w' : World} {B : Nat} {k : IntKind} {v : Value} {xs : List Int} {row : Option Nat} (h : Ints w B k v xs) (hg : w.grownBy w' row) (hB : B ≤ w.heap.size) (hr : ∀ g, row = some g → B ≤ g) : Ints w' B k v xs :=
  h.keep fun p hp => World.cell?_of_block (hg.block p.block (by omega) (fun e => by have := hr _ e.symm; omega))
theorem below_own {a w w' : World} {e : TypeId} {size : Nat} {v : Value} {n : Nat} {xs : List Value} (hb : Below a.heap.size a w) (hown : w.ownsRow a.heap.size e size v n xs) {o : Obj} (hg : (w.alloc o).grownBy w' v.ownBlock) : Below a.heap.size a w' :=
  (hb.alloc hb.size _).grown hg (by have := hb.size; simp; omega) (fun k hk => (hown.lt k hk).1)
theorem Tryz.infoSpan : (Tryz.prog.info? 61).map (fun i => (i.zero, i.size, i.bytes)) = some (some (.agg #[.int .i64 0, .int .i64 0, .int .i64 0]), 3, 24) := by kernel_rfl
theorem spans_snoc (acc : List (Int × Int × Int)) (x : Int × Int × Int) : (acc ++ [x]).flatMap spCells = acc.flatMap spCells ++ spCells x := by simp
end Go.Proofs.YtikcfoobfobmnaaGreatDoor
/-
  keep.Pick.
-/
namespace Go.Proofs.YtikcfoobfobmnaaGreatDoor
open Go.RowKit

/-- keep.Pick: from 0 to n - 1. -/
def pick (v n : Int) : Int := v % 18446744073709551616 % n
theorem pick_in (v : Int) {n : Int} (h : 0 < n) : 0 ≤ pick v n ∧ pick v n < n := ⟨Int.emod_nonneg _ (by omega), Int.emod_lt_of_pos _ h⟩

theorem pick_eq {v n : Int} (h0 : 0 < n) (h1 : n < 9223372036854775808) : wrap64 ((IntKind.u64.wrap v).tmod n) = pick v n := by
  have hp := pick_in v h0
  have e : (IntKind.u64.wrap v).tmod n = pick v n := by
    rw [IntKind.wrap_u64, Int.tmod_eq_emod_of_nonneg (by omega)]; rfl
  rw [e, IntWalk.wrap64_in _ ⟨by omega, by omega⟩]

set_option maxHeartbeats 400000 in
theorem pick_any (a b : Int) (w : World) (h0 : 0 < b) (h1 : b < 9223372036854775808) :
    Calls Tryz.prog 7 #[.int .i64 a, .int .i64 b] w fun e w' => e = .returned (.int .i64 (pick a b)) ∧ w = w' := by
  have HP := Lib.hid (pick_eq (v := a) h0 h1)
  go_enter Tryz.func7, Tryz.ntmps7
  go_wp2
  go_ret
  refine ⟨?_, rfl⟩
  show Ending.returned (.int .i64 (wrap64 ((IntKind.u64.wrap a).tmod b))) = _
  rw [HP.out]

end Go.Proofs.YtikcfoobfobmnaaGreatDoor
/-
  Plain mathematics of chapter 3 (compact numbers): no program in sight.
-/
namespace ND
open Go

/-- The number that stands for an integer: 2v, or -2v-1. -/
def zz (v : Int) : Nat := if 0 ≤ v then (2 * v).toNat else (-2 * v - 1).toNat
def unzz (u : Nat) : Int := if u % 2 = 0 then ((u / 2 : Nat) : Int) else -((u / 2 : Nat) : Int) - 1

theorem unzz_zz (v : Int) : unzz (zz v) = v := by
  unfold unzz zz
  by_cases h : 0 ≤ v
  · rw [if_pos h, if_pos (by omega)]; omega
  · rw [if_neg h, if_neg (by omega)]; omega
theorem zz_unzz (u : Nat) : zz (unzz u) = u := by
  unfold unzz zz
  by_cases h : u % 2 = 0
  · rw [if_pos h, if_pos (by omega)]; omega
  · rw [if_neg h, if_neg (by omega)]; omega
theorem zz_lt {v : Int} (h0 : -9223372036854775808 ≤ v) (h1 : v ≤ 9223372036854775807) : zz v < 18446744073709551616 := by
  unfold zz; split <;> omega
theorem unzz_in {u : Nat} (h : u < 18446744073709551616) : -9223372036854775808 ≤ unzz u ∧ unzz u ≤ 9223372036854775807 := by
  unfold unzz; split <;> omega

/-- The bytes of a code: seven bits each, the lowest first; at most f + 1 of them. -/
def encU : Nat → Nat → List UInt8
  | 0, u => [UInt8.ofNat u]
  | f + 1, u => if u < 128 then [UInt8.ofNat u] else UInt8.ofNat (u % 128 + 128) :: encU f (u / 128)

/-- Reading a code: the error (0 if none), the number, how many bytes it has. i bytes have been read, u is their value. -/
def getU : List UInt8 → Nat → Nat → Nat × Nat × Nat
  | [], _, _ => (5, 0, 0)
  | c :: r, i, u =>
    if i = 9 ∧ 1 < c.toNat then (4, 0, 0)
    else if 128 ≤ c.toNat then getU r (i + 1) (u + c.toNat % 128 * 2 ^ (7 * i))
    else if c.toNat = 0 ∧ 0 < i then (4, 0, 0)
    else (0, u + c.toNat % 128 * 2 ^ (7 * i), i + 1)

def finU (p : Int) (r : Nat × Nat × Nat) : Int × Int × Int := if r.1 = 0 then (unzz r.2.1, p + r.2.2, 0) else (0, p, r.1)
def getInt (s : List UInt8) (p : Int) : Int × Int × Int := if p < 0 ∨ (s.length : Int) < p then (0, p, 3) else finU p (getU (s.drop p.toNat) 0 0)
def putInt (b : List UInt8) (v : Int) : List UInt8 := b ++ encU 9 (zz v)

theorem encU_succ (f u : Nat) : encU (f + 1) u = if u < 128 then [UInt8.ofNat u] else UInt8.ofNat (u % 128 + 128) :: encU f (u / 128) := rfl
theorem encU_len (f u : Nat) : 1 ≤ (encU f u).length ∧ (encU f u).length ≤ f + 1 := by
  induction f generalizing u with
  | zero => simp [encU]
  | succ f ih =>
    unfold encU; split
    · simp
    · have := ih (u / 128); simp; omega

theorem pow7 (i : Nat) : 2 ^ (7 * (i + 1)) = 128 * 2 ^ (7 * i) := by
  rw [Nat.mul_add, Nat.pow_add]; omega

theorem u8_ofNat_toNat {n : Nat} (h : n < 256) : (UInt8.ofNat n).toNat = n := by
  simp; omega

/-- What was written is read: i bytes ahead of it, with the value u0. -/
theorem getU_encU (f : Nat) : ∀ (u i u0 : Nat) (t : List UInt8), i + f = 9 → u * 2 ^ (7 * i) < 18446744073709551616 → (0 < i → 0 < u) →
    getU (encU f u ++ t) i u0 = (0, u0 + u * 2 ^ (7 * i), i + (encU f u).length) := by
  induction f with
  | zero =>
    intro u i u0 t hi hb hp
    have h9 : i = 9 := by omega
    subst h9
    have hu : u < 2 := by omega
    have e : (UInt8.ofNat u).toNat = u := u8_ofNat_toNat (by omega)
    have hp' := hp (by omega)
    have : u = 1 := by omega
    subst this
    simp [encU, getU]
  | succ f ih =>
    intro u i u0 t hi hb hp
    by_cases h : u < 128
    · have e : (UInt8.ofNat u).toNat = u := u8_ofNat_toNat (by omega)
      have hz : ¬(u = 0 ∧ 0 < i) := by intro ⟨a, b⟩; have := hp b; omega
      simp only [encU, if_pos h, List.cons_append, List.nil_append, getU, e]
      rw [if_neg (by omega), if_neg (by omega), if_neg hz, Nat.mod_eq_of_lt h]
      simp
    · have e : (UInt8.ofNat (u % 128 + 128)).toNat = u % 128 + 128 := u8_ofNat_toNat (by omega)
      simp only [encU, if_neg h, List.cons_append, getU, e]
      rw [if_neg (by omega), if_pos (by omega)]
      have hm : (u % 128 + 128) % 128 = u % 128 := by omega
      rw [hm]
      have hq : u / 128 * 2 ^ (7 * (i + 1)) = (128 * (u / 128)) * 2 ^ (7 * i) := by
        rw [pow7, ← Nat.mul_assoc, Nat.mul_comm (u / 128) 128]
      have hsum : u * 2 ^ (7 * i) = u % 128 * 2 ^ (7 * i) + (128 * (u / 128)) * 2 ^ (7 * i) := by
        rw [← Nat.add_mul]; congr 1; omega
      rw [ih (u / 128) (i + 1) _ t (by omega) (by omega) (by omega)]
      simp only [Prod.mk.injEq, List.length_cons, true_and]
      exact ⟨by omega, by omega⟩

theorem getInt_putInt (b t : List UInt8) (v : Int) (h0 : -9223372036854775808 ≤ v) (h1 : v ≤ 9223372036854775807) :
    getInt (putInt b v ++ t) b.length = (v, (((putInt b v).length : Nat) : Int), 0) := by
  have hz := zz_lt h0 h1
  unfold getInt putInt
  rw [if_neg (by simp; omega)]
  have hd : (b ++ encU 9 (zz v) ++ t).drop ((b.length : Int)).toNat = encU 9 (zz v) ++ t := by
    rw [Int.toNat_natCast, List.append_assoc, List.drop_left]
  rw [hd, getU_encU 9 (zz v) 0 0 t rfl (by simpa using hz) (by omega)]
  simp only [finU, if_true]
  simp [unzz_zz]

/-- A code that is read is the one that is written. -/
theorem encU_getU (l : List UInt8) : ∀ (i u0 : Nat), i ≤ 9 → (getU l i u0).1 = 0 →
    ∃ u, (getU l i u0).2.1 = u0 + u * 2 ^ (7 * i) ∧ u * 2 ^ (7 * i) < 18446744073709551616 ∧ (0 < i → 0 < u) ∧ i < (getU l i u0).2.2 ∧ (getU l i u0).2.2 - i ≤ l.length ∧
      l.take ((getU l i u0).2.2 - i) = encU (9 - i) u := by
  induction l with
  | nil => intro i u0 hi h; simp [getU] at h
  | cons c r ih =>
    intro i u0 hi h
    have hc : c.toNat < 256 := c.toNat_lt
    have hco : UInt8.ofNat c.toNat = c := by simp
    unfold getU at h ⊢
    by_cases h9 : i = 9 ∧ 1 < c.toNat
    · rw [if_pos h9] at h; simp at h
    · rw [if_neg h9] at h ⊢
      by_cases h128 : 128 ≤ c.toNat
      · rw [if_pos h128] at h ⊢
        have hi9 : i ≠ 9 := by omega
        obtain ⟨u, e1, e2, e3, e4, e5, e6⟩ := ih (i + 1) _ (by omega) h
        have hu := e3 (by omega)
        have hq : u * 2 ^ (7 * (i + 1)) = (128 * u) * 2 ^ (7 * i) := by
          rw [pow7, ← Nat.mul_assoc, Nat.mul_comm u 128]
        have hs : (c.toNat % 128 + 128 * u) * 2 ^ (7 * i) = c.toNat % 128 * 2 ^ (7 * i) + (128 * u) * 2 ^ (7 * i) := Nat.add_mul _ _ _
        refine ⟨c.toNat % 128 + 128 * u, by rw [e1, hs]; omega, ?_, by omega, by omega, by simp; omega, ?_⟩
        · rw [hs]
          have hle : (128 * u + 127) * 2 ^ (7 * i) < 18446744073709551616 := by
            have hdv : 18446744073709551616 = 2 ^ (64 - 7 * (i + 1)) * 2 ^ (7 * (i + 1)) := by
              rw [← Nat.pow_add, Nat.sub_add_cancel (by omega)]
            rw [hdv] at e2
            have hlt : u < 2 ^ (64 - 7 * (i + 1)) := Nat.lt_of_mul_lt_mul_right e2
            have h1 : (u + 1) * 2 ^ (7 * (i + 1)) ≤ 2 ^ (64 - 7 * (i + 1)) * 2 ^ (7 * (i + 1)) := Nat.mul_le_mul_right _ hlt
            have h2 : (u + 1) * 2 ^ (7 * (i + 1)) = (128 * u + 127) * 2 ^ (7 * i) + 2 ^ (7 * i) := by
              rw [pow7, ← Nat.mul_assoc]; rw [show (u + 1) * 128 = (128 * u + 127) + 1 by omega, Nat.add_mul]; omega
            have h3 : 0 < 2 ^ (7 * i) := Nat.pow_pos (by omega)
            omega
          have : c.toNat % 128 * 2 ^ (7 * i) ≤ 127 * 2 ^ (7 * i) := Nat.mul_le_mul_right _ (by omega)
          rw [Nat.add_mul] at hle
          omega
        · have hk : (getU r (i + 1) (u0 + c.toNat % 128 * 2 ^ (7 * i))).2.2 - i = ((getU r (i + 1) (u0 + c.toNat % 128 * 2 ^ (7 * i))).2.2 - (i + 1)) + 1 := by omega
          rw [hk, List.take_succ_cons, e6]
          have hf : 9 - i = (9 - (i + 1)) + 1 := by omega
          rw [hf]
          rw [encU_succ, if_neg (by omega)]
          have ha : (c.toNat % 128 + 128 * u) % 128 + 128 = c.toNat := by omega
          have hb : (c.toNat % 128 + 128 * u) / 128 = u := by omega
          rw [ha, hb, hco]
      · rw [if_neg h128] at h ⊢
        by_cases h0 : c.toNat = 0 ∧ 0 < i
        · rw [if_pos h0] at h; simp at h
        · rw [if_neg h0] at h ⊢
          have hm : c.toNat % 128 = c.toNat := Nat.mod_eq_of_lt (by omega)
          refine ⟨c.toNat, by rw [hm], ?_, by omega, by simp, by simp, ?_⟩
          · rcases Nat.lt_or_ge i 9 with hlt | hge
            · have h1 : c.toNat * 2 ^ (7 * i) ≤ 127 * 2 ^ 56 := Nat.mul_le_mul (by omega) (Nat.pow_le_pow_right (by omega) (by omega))
              exact Nat.lt_of_le_of_lt h1 (by decide)
            · have : i = 9 := by omega
              subst this
              have h1 : c.toNat * 2 ^ (7 * 9) ≤ 1 * 2 ^ (7 * 9) := Nat.mul_le_mul_right _ (by omega)
              exact Nat.lt_of_le_of_lt h1 (by decide)
          · have hk : (0, u0 + c.toNat % 128 * 2 ^ (7 * i), i + 1).2.2 - i = 1 := by simp
            rw [hk]
            show [c] = _
            cases hx : 9 - i with
            | zero => simp [encU, hco]
            | succ f => unfold encU; rw [if_pos (by omega), hco]

/-- A beginning of a code, and nothing more, is too short. -/
theorem getU_short (f : Nat) : ∀ (u i u0 k : Nat), i + f = 9 → u * 2 ^ (7 * i) < 18446744073709551616 → k < (encU f u).length → getU ((encU f u).take k) i u0 = (5, 0, 0) := by
  induction f with
  | zero =>
    intro u i u0 k hi hb hk
    have : k = 0 := by simp [encU] at hk; omega
    subst this; simp [getU]
  | succ f ih =>
    intro u i u0 k hi hb hk
    cases k with
    | zero => simp [getU]
    | succ k =>
      by_cases h : u < 128
      · simp [encU, h] at hk
      · have e : (UInt8.ofNat (u % 128 + 128)).toNat = u % 128 + 128 := u8_ofNat_toNat (by omega)
        simp only [encU, if_neg h, List.take_succ_cons, getU, e, List.length_cons] at hk ⊢
        rw [if_neg (by omega), if_pos (by omega)]
        refine ih _ _ _ _ (by omega) ?_ (by omega)
        have hq : u / 128 * 2 ^ (7 * (i + 1)) = (128 * (u / 128)) * 2 ^ (7 * i) := by
          rw [pow7, ← Nat.mul_assoc, Nat.mul_comm (u / 128) 128]
        have hsum : u * 2 ^ (7 * i) = u % 128 * 2 ^ (7 * i) + (128 * (u / 128)) * 2 ^ (7 * i) := by
          rw [← Nat.add_mul]; congr 1; omega
        omega

theorem getU_err (l : List UInt8) : ∀ i u, (getU l i u).1 = 0 ∨ (getU l i u).1 = 4 ∨ (getU l i u).1 = 5 := by
  induction l with
  | nil => intro i u; simp [getU]
  | cons c r ih => intro i u; unfold getU; split; · simp
                   split; · exact ih _ _
                   split <;> simp

end ND
