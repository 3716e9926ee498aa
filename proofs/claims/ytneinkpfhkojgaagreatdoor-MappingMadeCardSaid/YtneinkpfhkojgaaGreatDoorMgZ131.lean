/-
  Merged texts: lemmas and walks that the last text of this claim leans on.
-/
import Derived.Test.YtneinkpfhkojgaaGreatDoorRows
import Derived.WalkKit
import Derived.ProofKit
import Derived.OpenShut
import Derived.ShutString
import Derived.SizedLaws
import Derived.WalkSpells
import Derived.WalkLawsBesides
import Derived.Lib.Hide
import Derived.Deep.Draws
import Derived.Deep.QuietTactic
import Derived.Deep.Slices
import Derived.Deep.Fields
import Derived.ChangeSame
import Derived.Test.YtneinkpfhkojgaaGreatDoorProg
import Derived.Laws.BitsAllLaws
import Derived.Laws.Bits64
import Derived.IntWalk
/-
  What every law's row asks of the call, once the walk is there: the call returns true, and below the old heap nothing has turned; so each argument reads as it read.
-/
namespace Go.Proofs.YtneinkpfhkojgaaGreatDoor
open Go.ChangeShapes Go.WideShapes Go.ChangeAt Go.RowKit

theorem Tryz.own_ : ownKnob Tryz.prog.godebug = none := by kernel_rfl
theorem Tryz.laidOut_ : laidOutB Tryz.prog = true := by kernel_rfl

section
variable {H : Type} {enc : TypeId × Value → H} {P : Program} {W W' : World}

theorem trodAll_below (hl : laidOutB P = true) (hb : Below W.heap.size W W') : ∀ (ts : List TypeId) (vs : List Value) (ds : List (DataW H)) (ps : List MemPlace),
    (∀ t ∈ ts, P.readableRec t = true ∧ t < P.types.size) → (∀ x ∈ ps, x.block < W.heap.size) →
    DataW.TrodAll enc P W 0 (fun _ => true) true ts vs ds ps → DataW.TrodAll enc P W' 0 (fun b => decide (b < W.heap.size)) true ts vs ds ps
  | [], [], [], _, _, _, h => h
  | t :: ts, v :: vs, d :: ds, ps, hk, hlt, h => by
    obtain ⟨p, q, hp, hq, rfl⟩ := h
    have ht := hk t (by simp)
    exact ⟨p, q, Below.trod hl ht.1 ht.2 hp hb (fun x hx => hlt x (by simp [hx])),
      trodAll_below hl hb ts vs ds q (fun t h => hk t (by simp [h])) (fun x hx => hlt x (by simp [hx])) hq, rfl⟩
  | [], _ :: _, _, _, _, _, h => by simp [DataW.TrodAll] at h
  | [], [], _ :: _, _, _, _, h => by simp [DataW.TrodAll] at h
  | _ :: _, [], _, _, _, _, h => by simp [DataW.TrodAll] at h
  | _ :: _, _ :: _, [], _, _, _, h => by simp [DataW.TrodAll] at h

theorem law_post {f : Func} {s : ChangeSpec} {tb : TypeId} {args : Array Value} {ds : List (DataW H)} {before : List MemPlace} (hl : laidOutB P = true)
    (hk : ∀ t ∈ f.params.toList, P.readableRec t = true ∧ t < P.types.size) (hres : f.resultTypes = #[tb]) (hbool : P.underlying tb = some .bool) (hvars : s.vars = [])
    (hW : DataW.Whole enc P f.params.toList s.vars false W args.toList ds [] before) (hfn : s.fn H (ds ++ []) = { results := [.lit (.bool true)], args := ds })
    (hb : Below W.heap.size W W') : s.post enc P f false true false false W args (.bool true) W' := by
  have hlt : ∀ x ∈ before, x.block < W.heap.size := fun x hx => hW.lt x hx
  have hW' := hW
  obtain ⟨p, q, hA, hV, rfl, _, _⟩ := hW'
  rw [hvars] at hV
  obtain ⟨_, rfl⟩ := trodVars_none hV
  refine ⟨ds, [], p ++ [], [], p, [], hW, ?_, ?_, ?_, hb.frame _, fun h => by cases h⟩
  · rw [hfn, hres]
    exact trodAll_cons_mk (shut_bool hbool true) trodAll_mk0
  · rw [hfn]
    exact trodAll_below hl hb _ _ _ _ hk (fun x hx => hlt x (by simp [hx])) hA
  · rw [hfn, hvars]; rfl
end
end Go.Proofs.YtneinkpfhkojgaaGreatDoor
/-
  Words for memory: a slice value that reads as a list of integers; what keeps such readings. No program in sight.
-/
namespace Go.Proofs.YtneinkpfhkojgaaGreatDoor
open Go.ChangeShapes Go.WideShapes Go.ChangeAt Go.RowKit

theorem block_of_add (a : Addr) (n : Nat) : (a.add n).block = a.block := by unfold Addr.add; split <;> rfl
theorem add_of_add (a : Addr) (i j : Nat) : (a.add i).add j = a.add (i + j) := by
  unfold Addr.add
  by_cases hi : i = 0 <;> by_cases hj : j = 0 <;> simp [hi, hj, Nat.add_assoc]

/-- The slice value v holds the integers xs of kind k; its cells lie below block B. -/
def Ints (w : World) (B : Nat) (k : IntKind) (v : Value) (xs : List Int) : Prop :=
  ∃ A c, v = .slice A xs.length c ∧ xs.length ≤ c ∧ c ≤ maxLen ∧ (A = none → c = 0) ∧
    ∀ i x, xs[i]? = some x → ∃ ad, A = some ad ∧ ad.block < B ∧ w.cell? (ad.add i) = some (.int k x)

section
variable {w w' : World} {B B' : Nat} {k : IntKind} {v : Value} {xs : List Int}
theorem Ints.keep (h : Ints w B k v xs) (hk : ∀ p : Addr, p.block < B → w'.cell? p = w.cell? p) : Ints w' B k v xs := by
  obtain ⟨A, c, hv, h1, h2, h3, h4⟩ := h
  refine ⟨A, c, hv, h1, h2, h3, fun i x hi => ?_⟩
  obtain ⟨ad, e, hb, hc⟩ := h4 i x hi
  exact ⟨ad, e, hb, (hk _ (by rw [block_of_add]; exact hb)).trans hc⟩
theorem Ints.more (h : Ints w B k v xs) (hB : B ≤ B') : Ints w B' k v xs := by
  obtain ⟨A, c, hv, h1, h2, h3, h4⟩ := h
  refine ⟨A, c, hv, h1, h2, h3, fun i x hi => ?_⟩
  obtain ⟨ad, e, hb, hc⟩ := h4 i x hi
  exact ⟨ad, e, by omega, hc⟩
theorem Ints.below (h : Ints w B k v xs) (hb : Below B w w') : Ints w' B k v xs := h.keep fun _ hp => hb.cell hp
theorem Ints.later (h : Ints w w.heap.size k v xs) (hb : Below w.heap.size w w') : Ints w' w'.heap.size k v xs := (h.below hb).more hb.size
theorem Ints.none_ : Ints w B k (.slice none 0 0) [] := ⟨none, 0, rfl, Nat.le_refl _, Nat.zero_le _, fun _ => rfl, fun _ _ h => by simp at h⟩
theorem Ints.of_own {base : Nat} {e : TypeId} (h : w.ownsRow base e 1 v xs.length (xs.map (Value.int k))) : Ints w w.heap.size k v xs := by
  rcases h.2 with ⟨rfl, hn⟩ | ⟨g, cap, cur, rfl, hb, hg, hnc, hcm, _⟩
  · have : xs = [] := List.eq_nil_of_length_eq_zero hn
    subst this; exact Ints.none_
  · have hlt : g < w.heap.size := (Array.getElem?_eq_some_iff.1 hg).1
    exact ⟨_, cap, rfl, hnc, hcm, (by intro h; cases h), fun i x hi => ⟨_, rfl, hlt, h.cells (g := g) rfl i _ (by simp [hi])⟩⟩
end

section
variable {H : Type} {enc : TypeId × Value → H} {P : Program} {W : World}
/-- An argument that is a slice of integers. -/
theorem open_intslice {t e : TypeId} {k : IntKind} {v : Value} {d : DataW H} {p : List MemPlace} {r : Reach} {b : Nat} (ht : P.underlying t = some (.slice e)) (he : P.underlying e = some (.int k)) (hc : P.cellsOf e = 1)
    (hv : Value.okWide P W r b t v) (h : DataW.Trod enc P W 0 (fun _ => true) true t v d p) (hlt : ∀ x ∈ p, x.block < W.heap.size) :
    ∃ xs, Ints W W.heap.size k v xs ∧ (∀ x ∈ xs, (Lit.int k x).wf = true) ∧ (d = .nil ∧ xs.length = 0 ∨ ∃ es sp, d = .slice es sp ∧ es.length = xs.length) := by
  obtain ⟨a0, n, c, rfl⟩ := okWide_slice ht hv
  obtain ⟨fuel, hf⟩ := h
  rcases open_ints ht he hc hf with ⟨hcs, hx⟩ | ⟨a, len, cap, zs, hcs, _, hl, hm, hz, hx, hcell, hwf⟩
  · simp [Value.cells] at hcs
    obtain ⟨rfl, rfl, rfl⟩ := hcs
    simp at hx
    exact ⟨[], Ints.none_, by simp, .inl ⟨hx.1, rfl⟩⟩
  · simp [Value.cells] at hcs
    obtain ⟨rfl, rfl, rfl⟩ := hcs
    simp only [Prod.mk.injEq] at hx
    have hzl : zs.length = c := by simpa using hz
    have hxl : (zs.take n).length = n := by simp; omega
    refine ⟨zs.take n, ⟨some a, c, by rw [hxl], by omega, hm, (by intro h; cases h), fun i x hi => ⟨a, rfl, ?_, ?_⟩⟩, fun x hx => hwf x (List.mem_of_mem_take hx), .inr ⟨_, _, hx.1, by simp [lits]⟩⟩
    · have hin : MemPlace.cell a.block (a.off + i) ∈ MemPlace.row a zs.length := by
        have := (List.getElem?_eq_some_iff.1 hi).1
        unfold MemPlace.row; simp; omega
      exact hlt _ (by rw [hx.2]; exact hin)
    · have hi' := (List.getElem?_eq_some_iff.1 hi).1
      rw [hcell i (by omega)]
      rw [List.getElem?_take] at hi
      split at hi
      · rw [List.getD_eq_getElem?_getD, hi]; rfl
      · cases hi
theorem len_in {ts : List TypeId} {ds : List (DataW H)} (h : (DataW.weightsEach P ts ds).all (· ≤ reachBytes) = true) {j : Nat} {t e : TypeId} {d : DataW H} {b n : Nat} (ht : ts[j]? = some t) (hd : ds[j]? = some d)
    (hu : P.underlying t = some (.slice e)) (hb : P.bytesOf e = b) (hz : d = .nil ∧ n = 0 ∨ ∃ es sp, d = .slice es sp ∧ es.length = n) : n * b ≤ 140737488351232 := by
  rcases hz with ⟨rfl, rfl⟩ | ⟨es, sp, rfl, rfl⟩
  · omega
  · have := sized_slice h ht hd hu
    rw [hb] at this
    have h2 : es.length * b ≤ (es.length + sp.length) * b := Nat.mul_le_mul_right _ (by omega)
    simp only [reachBytes] at this
    omega
end

/-- The element at an index, and where it lies. -/
theorem get_of {xs : List Int} {k : Nat} (h : k < xs.length) : ∃ x, xs[k]? = some x ∧ x ∈ xs := ⟨xs[k], List.getElem?_eq_getElem h, List.getElem_mem h⟩

/-- The cells of a new block. -/
theorem cells_new (w : World) (l : List Value) (e : TypeId) : ∀ j u, l[j]? = some u → (w.alloc (.cells l.toArray e)).cell? ((⟨w.heap.size, 0, none⟩ : Addr).add j) = some u := by
  intro j u hu
  have hadd : (⟨w.heap.size, 0, none⟩ : Addr).add j = ⟨w.heap.size, j, none⟩ := by unfold Addr.add; split <;> simp_all
  rw [hadd, cell_of_row (w.alloc (.cells l.toArray e)) w.heap.size j _ _ _ (heap_alloc_new w _)]
  simpa using hu

/-- A string of one byte that is made of a slice of one byte. -/
theorem conv_one {P : Program} (w : World) (src dst e : TypeId) (x : Int) (hs : P.underlying src = some (.slice e)) (he : P.underlying e = some (.int .u8)) (hd : P.underlying dst = some .string) (h0 : 0 ≤ x) (h1 : x ≤ 255) :
    (convert src dst (.slice (some ⟨w.heap.size, 0, none⟩) 1 1)).run P (w.alloc (.cells #[.int .u8 x] e)) = .ok (.string ⟨#[UInt8.ofNat x.toNat]⟩) (w.alloc (.cells #[.int .u8 x] e)) := by
  have h := run_convert_bytes_back (P := P) (w.alloc (.cells #[.int .u8 x] e)) src dst e ⟨w.heap.size, 0, none⟩ 1 [UInt8.ofNat x.toNat] hs he hd (fun j hj => by
    obtain rfl : j = 0 := by simpa using hj
    have hc := cell_of_row (w.alloc (.cells #[.int .u8 x] e)) w.heap.size 0 _ _ _ (heap_alloc_new w _)
    simp only [Addr.add, if_true]
    rw [hc]
    have e1 : (UInt8.ofNat x.toNat).toNat = x.toNat := by simp; omega
    simp only [List.getElem_cons_zero, e1]
    have e2 : ((x.toNat : Nat) : Int) = x := by omega
    rw [e2]; rfl)
  exact h

theorem below_then {B : Nat} {a b c : World} (h : Below B a b) (hB : B ≤ a.heap.size) (k : Below b.heap.size b c) : Below B a c := h.trans (k.mono (Nat.le_trans hB h.size))
theorem below_next {a b c : World} (h : Below a.heap.size a b) (k : Below b.heap.size b c) : Below a.heap.size a c := below_then h (Nat.le_refl _) k

theorem int_in {a : Int} (h : (Lit.int .i64 a).wf = true) : -9223372036854775808 ≤ a ∧ a ≤ 9223372036854775807 := by
  simpa [Lit.wf, IntKind.min, IntKind.max, IntKind.signed, IntKind.bits] using h
theorem byte_in {a : Int} (h : (Lit.int .u8 a).wf = true) : 0 ≤ a ∧ a ≤ 255 := by
  simpa [Lit.wf, IntKind.min, IntKind.max, IntKind.signed, IntKind.bits] using h
end Go.Proofs.YtneinkpfhkojgaaGreatDoor
/-
  A block that is known whole; what keeps it. A row of the call's own behind other calls.
-/
namespace Go.Proofs.YtneinkpfhkojgaaGreatDoor
open Go.RowKit

/-- Block g is just these cells, none of them frozen. -/
def Blk (w : World) (g : Nat) (t : TypeId) (cs : Array Value) : Prop := w.heap[g]? = some (.cells cs t (0, 0))
section
variable {w w' : World} {g : Nat} {t : TypeId} {cs : Array Value}
theorem Blk.lt (h : Blk w g t cs) : g < w.heap.size := (Array.getElem?_eq_some_iff.1 h).1
theorem Blk.cell (h : Blk w g t cs) (i : Nat) : w.cell? ⟨g, i, none⟩ = cs[i]? := cell_of_row w g i cs t (0, 0) h
theorem Blk.free (h : Blk w g t cs) (i : Nat) : w.frozen? ⟨g, i, none⟩ = false := by
  unfold Blk at h
  simp [World.frozen?, h]
theorem Blk.new (w : World) (t : TypeId) (cs : Array Value) : Blk (w.alloc (.cells cs t)) w.heap.size t cs := heap_alloc_new w _
theorem Blk.alloc (h : Blk w g t cs) (o : Obj) : Blk (w.alloc o) g t cs := (Below.heap_alloc w o g h.lt).trans h
theorem Blk.put (h : Blk w g t cs) (i : Nat) (u : Value) : Blk (w.setCell ⟨g, i, none⟩ u) g t (cs.setIfInBounds i u) := by
  unfold Blk at h ⊢
  simp [World.setCell, Array.getElem?_modify, h]
theorem Blk.far (h : Blk w g t cs) {p : Addr} (hp : g ≠ p.block) (u : Value) : Blk (w.setCell p u) g t cs := (Below.heap_setCell w p u g hp).trans h
theorem Blk.below {B : Nat} (h : Blk w g t cs) (hb : Below B w w') (hg : g < B) : Blk w' g t cs := (hb.block g hg).trans h
theorem Blk.later (h : Blk w g t cs) (hb : Below w.heap.size w w') : Blk w' g t cs := h.below hb h.lt
theorem Blk.grown {row : Option Nat} (h : Blk w g t cs) (hb : w.grownBy w' row) (hg : some g ≠ row) : Blk w' g t cs := (hb.block g h.lt hg).trans h
end

theorem grown_setCell {a w : World} {g : Nat} (h : a.grownBy w (some g)) (i : Nat) (u : Value) : a.grownBy (w.setCell ⟨g, i, none⟩ u) (some g) :=
  ⟨h.os, h.tape, h.output, by simpa [World.setCell] using h.size, fun k hk hne => (Below.heap_setCell w ⟨g, i, none⟩ u k (by rintro rfl; exact hne rfl)).trans (h.block k hk hne)⟩
theorem grown_refl (w : World) (row : Option Nat) : w.grownBy w row := ⟨rfl, rfl, rfl, Nat.le_refl _, fun _ _ _ => rfl⟩
theorem grown_drewN {a w : World} {row : Option Nat} (h : a.grownBy w row) (n : Nat) : a.grownBy (w.drewN n) row := ⟨h.os, h.tape, h.output, h.size, h.block⟩
theorem below_of_grown {a b c : World} {B g : Nat} (h : Below B a b) (hg : b.grownBy c (some g)) (hB : B ≤ g) (hs : B ≤ b.heap.size) : Below B a c :=
  h.grown hg hs (fun k hk => by cases hk; exact hB)
theorem own_grown {w w' : World} {B g : Nat} {e : TypeId} {size : Nat} {v : Value} {n : Nat} {xs : List Value} (h : w.ownsRow B e size v n xs) (hg : w.grownBy w' (some g)) (hB : g < B) : w'.ownsRow B e size v n xs :=
  h.kept hg (by
    cases hv : v.ownBlock with
    | none => exact .inl rfl
    | some k => have := (h.lt k hv).1; refine .inr (fun e => ?_); cases e; omega)
theorem own_later {w w' : World} {B : Nat} {e : TypeId} {size : Nat} {v : Value} {n : Nat} {xs : List Value} (h : w.ownsRow B e size v n xs) (hb : Below w.heap.size w w') : w'.ownsRow B e size v n xs :=
  h.kept (row := none) ⟨hb.os, hb.tape, hb.output, hb.size, fun k hk _ => hb.block k hk⟩ (Classical.em _)

theorem quiet_left {P : Program} {f : FuncId} {args : Array Value} {w : World} {n : Nat} {v : Value}
    (h : Calls P f args (w.drewN n) fun e w' => e = .returned v ∧ w.drewN n = w') : Calls P f args (w.drewN n) fun e w'' => e = .returned v ∧ ∃ m, w'' = w.drewN m :=
  h.mono fun _ _ ⟨he, hm⟩ => ⟨he, n, hm.symm⟩
end Go.Proofs.YtneinkpfhkojgaaGreatDoor
/-
  Words for memory: a slice value that reads as a list of spans (three integers each).
-/
namespace Go.Proofs.YtneinkpfhkojgaaGreatDoor
open Go.ChangeShapes Go.WideShapes Go.Deep Go.RowKit

/-- From, To, Value. -/
def spCells (s : Int × Int × Int) : List Value := [.int .i64 s.1, .int .i64 s.2.1, .int .i64 s.2.2]
def Spans (w : World) (B : Nat) (v : Value) (xs : List (Int × Int × Int)) : Prop :=
  ∃ A c, v = .slice A xs.length c ∧ xs.length ≤ c ∧ c ≤ maxLen ∧ (A = none → c = 0) ∧
    ∀ i x, xs[i]? = some x → ∃ ad, A = some ad ∧ ad.block < B ∧ w.cell? (ad.add (i * 3)) = some (.int .i64 x.1) ∧ w.cell? (ad.add (i * 3 + 1)) = some (.int .i64 x.2.1) ∧ w.cell? (ad.add (i * 3 + 2)) = some (.int .i64 x.2.2)

section
variable {w w' : World} {B B' : Nat} {v : Value} {xs : List (Int × Int × Int)}
theorem Spans.keep (h : Spans w B v xs) (hk : ∀ p : Addr, p.block < B → w'.cell? p = w.cell? p) : Spans w' B v xs := by
  obtain ⟨A, c, hv, h1, h2, h3, h4⟩ := h
  refine ⟨A, c, hv, h1, h2, h3, fun i x hi => ?_⟩
  obtain ⟨ad, e, hb, c0, c1, c2⟩ := h4 i x hi
  exact ⟨ad, e, hb, (hk _ (by rw [block_of_add]; exact hb)).trans c0, (hk _ (by rw [block_of_add]; exact hb)).trans c1, (hk _ (by rw [block_of_add]; exact hb)).trans c2⟩
theorem Spans.more (h : Spans w B v xs) (hB : B ≤ B') : Spans w B' v xs := by
  obtain ⟨A, c, hv, h1, h2, h3, h4⟩ := h
  refine ⟨A, c, hv, h1, h2, h3, fun i x hi => ?_⟩
  obtain ⟨ad, e, hb, hc⟩ := h4 i x hi
  exact ⟨ad, e, by omega, hc⟩
theorem Spans.below (h : Spans w B v xs) (hb : Below B w w') : Spans w' B v xs := h.keep fun _ hp => hb.cell hp
theorem Spans.later (h : Spans w w.heap.size v xs) (hb : Below w.heap.size w w') : Spans w' w'.heap.size v xs := (h.below hb).more hb.size
theorem Spans.none_ : Spans w B (.slice none 0 0) [] := ⟨none, 0, rfl, Nat.le_refl _, Nat.zero_le _, fun _ => rfl, fun _ _ h => by simp at h⟩
theorem spCells_at {xs : List (Int × Int × Int)} {i : Nat} {x : Int × Int × Int} (h : xs[i]? = some x) :
    (xs.flatMap spCells)[i * 3]? = some (.int .i64 x.1) ∧ (xs.flatMap spCells)[i * 3 + 1]? = some (.int .i64 x.2.1) ∧ (xs.flatMap spCells)[i * 3 + 2]? = some (.int .i64 x.2.2) := by
  induction xs generalizing i with
  | nil => simp at h
  | cons y ys ih =>
    cases i with
    | zero =>
      simp at h; subst h
      simp [spCells]
    | succ i =>
      have h' := ih (by simpa using h)
      have e : (i + 1) * 3 = i * 3 + 3 := by omega
      simp only [List.flatMap_cons, e]
      have hl : (spCells y).length = 3 := rfl
      refine ⟨?_, ?_, ?_⟩
      · rw [List.getElem?_append_right (by omega), hl, Nat.add_sub_cancel]; exact h'.1
      · rw [List.getElem?_append_right (by omega), hl, show i * 3 + 3 + 1 - 3 = i * 3 + 1 by omega]; exact h'.2.1
      · rw [List.getElem?_append_right (by omega), hl, show i * 3 + 3 + 2 - 3 = i * 3 + 2 by omega]; exact h'.2.2
theorem Spans.of_own {base : Nat} {e : TypeId} (h : w.ownsRow base e 3 v xs.length (xs.flatMap spCells)) : Spans w w.heap.size v xs := by
  rcases h.2 with ⟨rfl, hn⟩ | ⟨g, cap, cur, rfl, hb, hg, hnc, hcm, _⟩
  · have : xs = [] := List.eq_nil_of_length_eq_zero hn
    subst this; exact Spans.none_
  · have hlt : g < w.heap.size := (Array.getElem?_eq_some_iff.1 hg).1
    refine ⟨_, cap, rfl, hnc, hcm, (by intro h; cases h), fun i x hx => ⟨_, rfl, hlt, ?_⟩⟩
    obtain ⟨a, b, c⟩ := spCells_at hx
    exact ⟨h.cells (g := g) rfl _ _ a, h.cells (g := g) rfl _ _ b, h.cells (g := g) rfl _ _ c⟩
end

section
variable {H : Type} {enc : TypeId × Value → H} {P : Program} {w : World} {base : Nat} {spare : Nat → Bool} {held : Bool}
/-- An argument that is a slice of structs of one-cell fields (after the guide's page on structs). -/
theorem open_slice_fields {t e : TypeId} {fs : Array Field} {fuel : Nat} {cs : List Value} {x : DataW H × List MemPlace} (ht : P.underlying t = some (.slice e)) (he : P.underlying e = some (.struct fs))
    (hone : oneCellFields P fs = true) (hC : P.cellsOf e = fs.size) (h : DataW.trod enc P w base spare held fuel t cs = some x) :
    (cs = [.slice none 0 0] ∧ x = (.nil, [])) ∨
    ∃ (a : Addr) (len cap m : Nat) (D : Nat → DataW H) (Pl : Nat → List MemPlace), cs = [.slice (some a) len cap] ∧ base ≤ a.block ∧ len ≤ cap ∧ cap ≤ maxLen ∧ m = (if spare a.block then cap else len) ∧
      x = (.slice ((List.range len).map D) ((List.range (m - len)).map fun j => D (len + j)), MemPlace.row a (m * fs.size) ++ (List.range m).flatMap Pl) ∧
      ∀ i, i < m → ∃ (ys : List (DataW H × List MemPlace)) (n : Nat), D i = .agg (ys.map (·.1)) ∧ Pl i = ys.flatMap (·.2) ∧ ys.length = fs.size ∧
        ∀ (j : Nat) (f : Field), fs[j]? = some f → ∃ (v : Value) (y : DataW H × List MemPlace), w.cell? (a.add (i * fs.size + j)) = some v ∧ ys[j]? = some y ∧ DataW.trod enc P w base spare held n f.type [v] = some y := by
  rcases open_slice ht h with h0 | ⟨a, len, cap, m, n, D, Pl, hcs, hb, hl, hm, hmm, hx, hi⟩
  · exact .inl h0
  · refine .inr ⟨a, len, cap, m, D, Pl, hcs, hb, hl, hm, hmm, by rw [hC] at hx; exact hx, fun i him => ?_⟩
    obtain ⟨cs', hc, ht'⟩ := hi i him
    rw [hC] at hc
    obtain ⟨ys, n', hn', hy, hlen, hyl, hf⟩ := DataW.trod_struct he ht'
    obtain ⟨_, hcl, hat⟩ := World.cells?_some hc
    simp only [Prod.mk.injEq] at hy
    refine ⟨ys, n', hy.1, hy.2, hyl, fun j f hj => ?_⟩
    obtain ⟨ho, hk⟩ := hone_of hone j f hj
    have hjl : j < fs.size := (Array.getElem?_eq_some_iff.1 hj).1
    have hcell := hat j hjl
    have hv : cs'[j]? = some (cs'[j]'(by omega)) := List.getElem?_eq_getElem (by omega)
    have h1 := hf j f hj
    rw [ho, hk] at h1
    have hone' : (cs'.drop j).take 1 = [cs'[j]'(by omega)] := by
      rw [List.drop_eq_getElem_cons (by omega)]
      rfl
    rw [hone'] at h1
    have hys : ys[j]? = some (ys[j]'(by omega)) := List.getElem?_eq_getElem (by omega)
    refine ⟨_, _, ?_, hys, h1.trans hys⟩
    rw [← Go.Deep.add_add, hcell, hv]
end

section
variable {H : Type} {enc : TypeId × Value → H} {P : Program} {W : World}
/-- An argument that is a slice of spans. -/
theorem open_spans {t e ti : TypeId} {f0 f1 f2 : Field} {v : Value} {d : DataW H} {p : List MemPlace} {r : Reach} {b : Nat} (ht : P.underlying t = some (.slice e)) (he : P.underlying e = some (.struct #[f0, f1, f2]))
    (hone : oneCellFields P #[f0, f1, f2] = true) (hC : P.cellsOf e = 3) (t0 : f0.type = ti) (t1 : f1.type = ti) (t2 : f2.type = ti) (hti : P.underlying ti = some (.int .i64))
    (hv : Value.okWide P W r b t v) (h : DataW.Trod enc P W 0 (fun _ => true) true t v d p) (hlt : ∀ x ∈ p, x.block < W.heap.size) :
    ∃ xs, Spans W W.heap.size v xs ∧ (∀ x ∈ xs, (Lit.int .i64 x.1).wf = true ∧ (Lit.int .i64 x.2.1).wf = true ∧ (Lit.int .i64 x.2.2).wf = true) ∧ (d = .nil ∧ xs.length = 0 ∨ ∃ es sp, d = .slice es sp ∧ es.length = xs.length) := by
  obtain ⟨a0, n, c, rfl⟩ := okWide_slice ht hv
  obtain ⟨fuel, hf⟩ := h
  rcases open_slice_fields ht he hone hC hf with ⟨hcs, hx⟩ | ⟨a, len, cap, m, D, Pl, hcs, _, hl, hm, hmm, hx, hi⟩
  · simp [Value.cells] at hcs
    obtain ⟨rfl, rfl, rfl⟩ := hcs
    simp at hx
    exact ⟨[], Spans.none_, by simp, .inl ⟨hx.1, rfl⟩⟩
  · simp [Value.cells] at hcs
    obtain ⟨rfl, rfl, rfl⟩ := hcs
    simp only [Prod.mk.injEq] at hx
    have hmc : m = c := by simpa using hmm
    subst hmc
    have key : ∀ i : Nat, ∃ x : Int × Int × Int, i < m → W.cell? (a.add (i * 3)) = some (.int .i64 x.1) ∧ W.cell? (a.add (i * 3 + 1)) = some (.int .i64 x.2.1) ∧ W.cell? (a.add (i * 3 + 2)) = some (.int .i64 x.2.2) ∧
        (Lit.int .i64 x.1).wf = true ∧ (Lit.int .i64 x.2.1).wf = true ∧ (Lit.int .i64 x.2.2).wf = true := by
      intro i
      by_cases him : i < m
      · obtain ⟨ys, k, _, _, _, hj⟩ := hi i him
        obtain ⟨v0, y0, c0, _, r0⟩ := hj 0 f0 rfl
        obtain ⟨v1, y1, c1, _, r1⟩ := hj 1 f1 rfl
        obtain ⟨v2, y2, c2, _, r2⟩ := hj 2 f2 rfl
        rw [t0] at r0; rw [t1] at r1; rw [t2] at r2
        obtain ⟨z0, e0, _, w0⟩ := DataW.trod_int hti r0
        obtain ⟨z1, e1, _, w1⟩ := DataW.trod_int hti r1
        obtain ⟨z2, e2, _, w2⟩ := DataW.trod_int hti r2
        simp at e0 e1 e2
        subst e0 e1 e2
        exact ⟨(z0, z1, z2), fun _ => ⟨c0, c1, c2, w0, w1, w2⟩⟩
      · exact ⟨(0, 0, 0), fun h => absurd h him⟩
    let f : Nat → Int × Int × Int := fun i => (key i).choose
    have hfs := fun i => (key i).choose_spec
    refine ⟨(List.range n).map f, ⟨some a, m, by simp, by simpa using hl, hm, (by intro h; cases h), fun i x hxi => ⟨a, rfl, ?_, ?_⟩⟩, ?_, .inr ⟨_, _, hx.1, by simp⟩⟩
    · have hin : i < n := by simpa using (List.getElem?_eq_some_iff.1 hxi).1
      have hp : MemPlace.cell a.block (a.off + 0) ∈ MemPlace.row a (m * 3) := by
        unfold MemPlace.row; simp; omega
      exact hlt _ (by rw [hx.2]; exact List.mem_append_left _ hp)
    · have hin : i < n := by simpa using (List.getElem?_eq_some_iff.1 hxi).1
      have he : x = f i := by simpa [hin] using hxi.symm
      subst he
      obtain ⟨q0, q1, q2, _⟩ := hfs i (by omega)
      exact ⟨q0, q1, q2⟩
    · intro x hxm
      obtain ⟨i, hi', rfl⟩ := List.mem_map.1 hxm
      obtain ⟨_, _, _, q⟩ := hfs i (by have := List.mem_range.1 hi'; omega)
      exact q
end
end Go.Proofs.YtneinkpfhkojgaaGreatDoor
/-
  Small lemmas that many texts use: results, lists, cells, rows of the call's own.
-/
namespace Go.Proofs.YtneinkpfhkojgaaGreatDoor
open Go.RowKit

theorem ret_bool {a b : Bool} (h : a = b) : Ending.returned (.bool a) = .returned (.bool b) := by rw [h]
theorem ret_int {k : IntKind} {a b : Int} (h : a = b) : Ending.returned (.int k a) = .returned (.int k b) := by rw [h]
theorem ret_int2 {k l : IntKind} {a b c d : Int} (h : a = b) (h' : c = d) : Ending.returned (.tuple #[.int k a, .int l c]) = .returned (.tuple #[.int k b, .int l d]) := by rw [h, h']
theorem bool_eq {a b : Bool} (h : a = true ↔ b = true) : a = b := Bool.eq_iff_iff.2 h
theorem drop_of_get {α : Type} {xs : List α} {k : Nat} {x : α} (h : xs[k]? = some x) : xs.drop k = x :: xs.drop (k + 1) := by
  obtain ⟨a, a'⟩ := List.getElem?_eq_some_iff.1 h
  rw [List.drop_eq_getElem_cons a, a']
theorem sz_list (s : ByteArray) : s.data.toList.length = s.size := by rw [Array.length_toList]; rfl
theorem all_no {α : Type} {f : α → Bool} {xs : List α} {k : Nat} {x : α} (hx : xs[k]? = some x) (h : (xs.drop k).all f = xs.all f) (hf : f x = false) : xs.all f = false := by
  rw [← h, drop_of_get hx]; simp [hf]
theorem all_yes {α : Type} {f : α → Bool} {xs : List α} {k : Nat} {x : α} (hx : xs[k]? = some x) (h : (xs.drop k).all f = xs.all f) (hf : f x = true) : (xs.drop (k + 1)).all f = xs.all f := by
  rw [← h, drop_of_get hx]; simp [hf]
theorem all_end {α : Type} {f : α → Bool} {xs : List α} {k : Nat} (hk : xs.length ≤ k) (h : (xs.drop k).all f = xs.all f) : xs.all f = true := by
  rw [← h, List.drop_eq_nil_of_le hk]; rfl
theorem Tryz.infoInt' : (Tryz.prog.info? 3).map (fun i => (i.zero, i.size, i.bytes)) = some (some (.int .i64 0), 1, 8) := by kernel_rfl
theorem Blk.at_ {w : World} {g : Nat} {t : TypeId} {cs : Array Value} {i : Nat} {u : Value} (h : Blk w g t cs) (hu : cs[i]? = some u) : w.cell? ⟨g, i, none⟩ = some u := (h.cell i).trans hu
theorem get_el {α : Type} {xs : List α} {k : Nat} (h : k < xs.length) : ∃ x, xs[k]? = some x ∧ x ∈ xs := ⟨xs[k], List.getElem?_eq_getElem h, List.getElem_mem h⟩
theorem add_mid (a : Addr) (i j : Nat) (h : j ≠ 0) : a.add (i + j) = { block := (a.add i).block, off := (a.add i).off + j, spot := none } := by
  rw [← add_of_add, Addr.add, if_neg h]
/-- The three cells of a span, as a load of the whole has them. -/
theorem span_cells {w wr : World} {ad : Addr} {k : Nat} {B : Nat} {x y z : Value} (hb : Below B w wr) (ha : ad.block < B) (d0 : w.cell? (ad.add (k * 3)) = some x) (d1 : w.cell? (ad.add (k * 3 + 1)) = some y) (d2 : w.cell? (ad.add (k * 3 + 2)) = some z) :
    wr.cell? (ad.add (k * 3)) = some x ∧ wr.cell? { block := (ad.add (k * 3)).block, off := (ad.add (k * 3)).off + 1, spot := none } = some y ∧ wr.cell? { block := (ad.add (k * 3)).block, off := (ad.add (k * 3)).off + 2, spot := none } = some z := by
  refine ⟨(hb.cell (p := ad.add (k * 3)) (by rw [block_of_add]; exact ha)).trans d0, ?_, ?_⟩
  · rw [← add_mid _ _ _ (by decide)]; exact (hb.cell (p := ad.add (k * 3 + 1)) (by rw [block_of_add]; exact ha)).trans d1
  · rw [← add_mid _ _ _ (by decide)]; exact (hb.cell (p := ad.add (k * 3 + 2)) (by rw [block_of_add]; exact ha)).trans d2
theorem grown_trans {a b c : World} {row : Option Nat} (h : a.grownBy b row) (k : b.grownBy c row) : a.grownBy c row :=
  ⟨k.os.trans h.os, k.tape.trans h.tape, k.output.trans h.output, Nat.le_trans h.size k.size, fun j hj hne => (k.block j (Nat.lt_of_lt_of_le hj h.size) hne).trans (h.block j hj hne)⟩
theorem grown_alloc (w : World) (o : Obj) (row : Option Nat) : w.grownBy (w.alloc o) row :=
  ⟨rfl, rfl, rfl, by simp, fun j hj _ => Below.heap_alloc w o j hj⟩
theorem Ints.grown {w w' : World} {g : Nat} {k : IntKind} {v : Value} {xs : List Int} (h : Ints w g k v xs) (hg : w.grownBy w' (some g)) (hlt : g < w.heap.size) : Ints w' g k v xs :=
  h.keep fun p hp => World.cell?_of_block (w := w) (hg.block p.block (by omega) (by intro e; cases e; omega))
theorem cell_kept {w w' : World} {g : Nat} {l : List Value} (b : Nat) (h : ∀ j u, l[j]? = some u → w.cell? ((⟨b, 0, none⟩ : Addr).add j) = some u) (hg : w.grownBy w' (some g)) (hb : b < w.heap.size) (hne : b ≠ g) (j : Nat) (u : Value) (hu : l[j]? = some u) : w'.cell? ⟨b, j, none⟩ = some u := by
  have h1 := h j u hu
  have hadd : (⟨b, 0, none⟩ : Addr).add j = ⟨b, j, none⟩ := by unfold Addr.add; split <;> simp_all
  rw [hadd] at h1
  exact (World.cell?_of_block (w := w) (a := ⟨b, j, none⟩) (hg.block b hb (by intro e; cases e; exact hne rfl))).trans h1
theorem Ints.grownB {w w' : World} {B : Nat} {k : IntKind} {v : Value} {xs : List Int} {row : Option Nat} (h : Ints w B k v xs) (hg : w.grownBy w' row) (hB : B ≤ w.heap.size) (hr : ∀ g, row = some g → B ≤ g) : Ints w' B k v xs :=
  h.keep fun p hp => World.cell?_of_block (hg.block p.block (by omega) (fun e => by have := hr _ e.symm; omega))
theorem below_own {a w w' : World} {e : TypeId} {size : Nat} {v : Value} {n : Nat} {xs : List Value} (hb : Below a.heap.size a w) (hown : w.ownsRow a.heap.size e size v n xs) {o : Obj} (hg : (w.alloc o).grownBy w' v.ownBlock) : Below a.heap.size a w' :=
  (hb.alloc hb.size _).grown hg (by have := hb.size; simp; omega) (fun k hk => (hown.lt k hk).1)
theorem Tryz.infoSpan : (Tryz.prog.info? 42).map (fun i => (i.zero, i.size, i.bytes)) = some (some (.agg #[.int .i64 0, .int .i64 0, .int .i64 0]), 3, 24) := by kernel_rfl
theorem spans_snoc (acc : List (Int × Int × Int)) (x : Int × Int × Int) : (acc ++ [x]).flatMap spCells = acc.flatMap spCells ++ spCells x := by simp
end Go.Proofs.YtneinkpfhkojgaaGreatDoor
/-
  Plain mathematics of chapter 3 (compact numbers): no program in sight.
-/
namespace ND
open Go

/-- The number that stands for an integer: 2v, or -2v-1. -/
def zz (v : Int) : Nat := if 0 ≤ v then (2 * v).toNat else (-2 * v - 1).toNat
def unzz (u : Nat) : Int := if u % 2 = 0 then ((u / 2 : Nat) : Int) else -((u / 2 : Nat) : Int) - 1

theorem unzz_zz (v : Int) : unzz (zz v) = v := by
  unfold unzz zz
  by_cases h : 0 ≤ v
  · rw [if_pos h, if_pos (by omega)]; omega
  · rw [if_neg h, if_neg (by omega)]; omega
theorem zz_unzz (u : Nat) : zz (unzz u) = u := by
  unfold unzz zz
  by_cases h : u % 2 = 0
  · rw [if_pos h, if_pos (by omega)]; omega
  · rw [if_neg h, if_neg (by omega)]; omega
theorem zz_lt {v : Int} (h0 : -9223372036854775808 ≤ v) (h1 : v ≤ 9223372036854775807) : zz v < 18446744073709551616 := by
  unfold zz; split <;> omega
theorem unzz_in {u : Nat} (h : u < 18446744073709551616) : -9223372036854775808 ≤ unzz u ∧ unzz u ≤ 9223372036854775807 := by
  unfold unzz; split <;> omega

/-- The bytes of a code: seven bits each, the lowest first; at most f + 1 of them. -/
def encU : Nat → Nat → List UInt8
  | 0, u => [UInt8.ofNat u]
  | f + 1, u => if u < 128 then [UInt8.ofNat u] else UInt8.ofNat (u % 128 + 128) :: encU f (u / 128)

/-- Reading a code: the error (0 if none), the number, how many bytes it has. i bytes have been read, u is their value. -/
def getU : List UInt8 → Nat → Nat → Nat × Nat × Nat
  | [], _, _ => (5, 0, 0)
  | c :: r, i, u =>
    if i = 9 ∧ 1 < c.toNat then (4, 0, 0)
    else if 128 ≤ c.toNat then getU r (i + 1) (u + c.toNat % 128 * 2 ^ (7 * i))
    else if c.toNat = 0 ∧ 0 < i then (4, 0, 0)
    else (0, u + c.toNat % 128 * 2 ^ (7 * i), i + 1)

def finU (p : Int) (r : Nat × Nat × Nat) : Int × Int × Int := if r.1 = 0 then (unzz r.2.1, p + r.2.2, 0) else (0, p, r.1)
def getInt (s : List UInt8) (p : Int) : Int × Int × Int := if p < 0 ∨ (s.length : Int) < p then (0, p, 3) else finU p (getU (s.drop p.toNat) 0 0)
def putInt (b : List UInt8) (v : Int) : List UInt8 := b ++ encU 9 (zz v)

theorem encU_succ (f u : Nat) : encU (f + 1) u = if u < 128 then [UInt8.ofNat u] else UInt8.ofNat (u % 128 + 128) :: encU f (u / 128) := rfl
theorem encU_len (f u : Nat) : 1 ≤ (encU f u).length ∧ (encU f u).length ≤ f + 1 := by
  induction f generalizing u with
  | zero => simp [encU]
  | succ f ih =>
    unfold encU; split
    · simp
    · have := ih (u / 128); simp; omega

theorem pow7 (i : Nat) : 2 ^ (7 * (i + 1)) = 128 * 2 ^ (7 * i) := by
  rw [Nat.mul_add, Nat.pow_add]; omega

theorem u8_ofNat_toNat {n : Nat} (h : n < 256) : (UInt8.ofNat n).toNat = n := by
  simp; omega

/-- What was written is read: i bytes ahead of it, with the value u0. -/
theorem getU_encU (f : Nat) : ∀ (u i u0 : Nat) (t : List UInt8), i + f = 9 → u * 2 ^ (7 * i) < 18446744073709551616 → (0 < i → 0 < u) →
    getU (encU f u ++ t) i u0 = (0, u0 + u * 2 ^ (7 * i), i + (encU f u).length) := by
  induction f with
  | zero =>
    intro u i u0 t hi hb hp
    have h9 : i = 9 := by omega
    subst h9
    have hu : u < 2 := by omega
    have e : (UInt8.ofNat u).toNat = u := u8_ofNat_toNat (by omega)
    have hp' := hp (by omega)
    have : u = 1 := by omega
    subst this
    simp [encU, getU]
  | succ f ih =>
    intro u i u0 t hi hb hp
    by_cases h : u < 128
    · have e : (UInt8.ofNat u).toNat = u := u8_ofNat_toNat (by omega)
      have hz : ¬(u = 0 ∧ 0 < i) := by intro ⟨a, b⟩; have := hp b; omega
      simp only [encU, if_pos h, List.cons_append, List.nil_append, getU, e]
      rw [if_neg (by omega), if_neg (by omega), if_neg hz, Nat.mod_eq_of_lt h]
      simp
    · have e : (UInt8.ofNat (u % 128 + 128)).toNat = u % 128 + 128 := u8_ofNat_toNat (by omega)
      simp only [encU, if_neg h, List.cons_append, getU, e]
      rw [if_neg (by omega), if_pos (by omega)]
      have hm : (u % 128 + 128) % 128 = u % 128 := by omega
      rw [hm]
      have hq : u / 128 * 2 ^ (7 * (i + 1)) = (128 * (u / 128)) * 2 ^ (7 * i) := by
        rw [pow7, ← Nat.mul_assoc, Nat.mul_comm (u / 128) 128]
      have hsum : u * 2 ^ (7 * i) = u % 128 * 2 ^ (7 * i) + (128 * (u / 128)) * 2 ^ (7 * i) := by
        rw [← Nat.add_mul]; congr 1; omega
      rw [ih (u / 128) (i + 1) _ t (by omega) (by omega) (by omega)]
      simp only [Prod.mk.injEq, List.length_cons, true_and]
      exact ⟨by omega, by omega⟩

theorem getInt_putInt (b t : List UInt8) (v : Int) (h0 : -9223372036854775808 ≤ v) (h1 : v ≤ 9223372036854775807) :
    getInt (putInt b v ++ t) b.length = (v, (((putInt b v).length : Nat) : Int), 0) := by
  have hz := zz_lt h0 h1
  unfold getInt putInt
  rw [if_neg (by simp; omega)]
  have hd : (b ++ encU 9 (zz v) ++ t).drop ((b.length : Int)).toNat = encU 9 (zz v) ++ t := by
    rw [Int.toNat_natCast, List.append_assoc, List.drop_left]
  rw [hd, getU_encU 9 (zz v) 0 0 t rfl (by simpa using hz) (by omega)]
  simp only [finU, if_true]
  simp [unzz_zz]

/-- A code that is read is the one that is written. -/
theorem encU_getU (l : List UInt8) : ∀ (i u0 : Nat), i ≤ 9 → (getU l i u0).1 = 0 →
    ∃ u, (getU l i u0).2.1 = u0 + u * 2 ^ (7 * i) ∧ u * 2 ^ (7 * i) < 18446744073709551616 ∧ (0 < i → 0 < u) ∧ i < (getU l i u0).2.2 ∧ (getU l i u0).2.2 - i ≤ l.length ∧
      l.take ((getU l i u0).2.2 - i) = encU (9 - i) u := by
  induction l with
  | nil => intro i u0 hi h; simp [getU] at h
  | cons c r ih =>
    intro i u0 hi h
    have hc : c.toNat < 256 := c.toNat_lt
    have hco : UInt8.ofNat c.toNat = c := by simp
    unfold getU at h ⊢
    by_cases h9 : i = 9 ∧ 1 < c.toNat
    · rw [if_pos h9] at h; simp at h
    · rw [if_neg h9] at h ⊢
      by_cases h128 : 128 ≤ c.toNat
      · rw [if_pos h128] at h ⊢
        have hi9 : i ≠ 9 := by omega
        obtain ⟨u, e1, e2, e3, e4, e5, e6⟩ := ih (i + 1) _ (by omega) h
        have hu := e3 (by omega)
        have hq : u * 2 ^ (7 * (i + 1)) = (128 * u) * 2 ^ (7 * i) := by
          rw [pow7, ← Nat.mul_assoc, Nat.mul_comm u 128]
        have hs : (c.toNat % 128 + 128 * u) * 2 ^ (7 * i) = c.toNat % 128 * 2 ^ (7 * i) + (128 * u) * 2 ^ (7 * i) := Nat.add_mul _ _ _
        refine ⟨c.toNat % 128 + 128 * u, by rw [e1, hs]; omega, ?_, by omega, by omega, by simp; omega, ?_⟩
        · rw [hs]
          have hle : (128 * u + 127) * 2 ^ (7 * i) < 18446744073709551616 := by
            have hdv : 18446744073709551616 = 2 ^ (64 - 7 * (i + 1)) * 2 ^ (7 * (i + 1)) := by
              rw [← Nat.pow_add, Nat.sub_add_cancel (by omega)]
            rw [hdv] at e2
            have hlt : u < 2 ^ (64 - 7 * (i + 1)) := Nat.lt_of_mul_lt_mul_right e2
            have h1 : (u + 1) * 2 ^ (7 * (i + 1)) ≤ 2 ^ (64 - 7 * (i + 1)) * 2 ^ (7 * (i + 1)) := Nat.mul_le_mul_right _ hlt
            have h2 : (u + 1) * 2 ^ (7 * (i + 1)) = (128 * u + 127) * 2 ^ (7 * i) + 2 ^ (7 * i) := by
              rw [pow7, ← Nat.mul_assoc]; rw [show (u + 1) * 128 = (128 * u + 127) + 1 by omega, Nat.add_mul]; omega
            have h3 : 0 < 2 ^ (7 * i) := Nat.pow_pos (by omega)
            omega
          have : c.toNat % 128 * 2 ^ (7 * i) ≤ 127 * 2 ^ (7 * i) := Nat.mul_le_mul_right _ (by omega)
          rw [Nat.add_mul] at hle
          omega
        · have hk : (getU r (i + 1) (u0 + c.toNat % 128 * 2 ^ (7 * i))).2.2 - i = ((getU r (i + 1) (u0 + c.toNat % 128 * 2 ^ (7 * i))).2.2 - (i + 1)) + 1 := by omega
          rw [hk, List.take_succ_cons, e6]
          have hf : 9 - i = (9 - (i + 1)) + 1 := by omega
          rw [hf]
          rw [encU_succ, if_neg (by omega)]
          have ha : (c.toNat % 128 + 128 * u) % 128 + 128 = c.toNat := by omega
          have hb : (c.toNat % 128 + 128 * u) / 128 = u := by omega
          rw [ha, hb, hco]
      · rw [if_neg h128] at h ⊢
        by_cases h0 : c.toNat = 0 ∧ 0 < i
        · rw [if_pos h0] at h; simp at h
        · rw [if_neg h0] at h ⊢
          have hm : c.toNat % 128 = c.toNat := Nat.mod_eq_of_lt (by omega)
          refine ⟨c.toNat, by rw [hm], ?_, by omega, by simp, by simp, ?_⟩
          · rcases Nat.lt_or_ge i 9 with hlt | hge
            · have h1 : c.toNat * 2 ^ (7 * i) ≤ 127 * 2 ^ 56 := Nat.mul_le_mul (by omega) (Nat.pow_le_pow_right (by omega) (by omega))
              exact Nat.lt_of_le_of_lt h1 (by decide)
            · have : i = 9 := by omega
              subst this
              have h1 : c.toNat * 2 ^ (7 * 9) ≤ 1 * 2 ^ (7 * 9) := Nat.mul_le_mul_right _ (by omega)
              exact Nat.lt_of_le_of_lt h1 (by decide)
          · have hk : (0, u0 + c.toNat % 128 * 2 ^ (7 * i), i + 1).2.2 - i = 1 := by simp
            rw [hk]
            show [c] = _
            cases hx : 9 - i with
            | zero => simp [encU, hco]
            | succ f => unfold encU; rw [if_pos (by omega), hco]

/-- A beginning of a code, and nothing more, is too short. -/
theorem getU_short (f : Nat) : ∀ (u i u0 k : Nat), i + f = 9 → u * 2 ^ (7 * i) < 18446744073709551616 → k < (encU f u).length → getU ((encU f u).take k) i u0 = (5, 0, 0) := by
  induction f with
  | zero =>
    intro u i u0 k hi hb hk
    have : k = 0 := by simp [encU] at hk; omega
    subst this; simp [getU]
  | succ f ih =>
    intro u i u0 k hi hb hk
    cases k with
    | zero => simp [getU]
    | succ k =>
      by_cases h : u < 128
      · simp [encU, h] at hk
      · have e : (UInt8.ofNat (u % 128 + 128)).toNat = u % 128 + 128 := u8_ofNat_toNat (by omega)
        simp only [encU, if_neg h, List.take_succ_cons, getU, e, List.length_cons] at hk ⊢
        rw [if_neg (by omega), if_pos (by omega)]
        refine ih _ _ _ _ (by omega) ?_ (by omega)
        have hq : u / 128 * 2 ^ (7 * (i + 1)) = (128 * (u / 128)) * 2 ^ (7 * i) := by
          rw [pow7, ← Nat.mul_assoc, Nat.mul_comm (u / 128) 128]
        have hsum : u * 2 ^ (7 * i) = u % 128 * 2 ^ (7 * i) + (128 * (u / 128)) * 2 ^ (7 * i) := by
          rw [← Nat.add_mul]; congr 1; omega
        omega

theorem getU_err (l : List UInt8) : ∀ i u, (getU l i u).1 = 0 ∨ (getU l i u).1 = 4 ∨ (getU l i u).1 = 5 := by
  induction l with
  | nil => intro i u; simp [getU]
  | cons c r ih => intro i u; unfold getU; split; · simp
                   split; · exact ih _ _
                   split <;> simp

end ND
/-
  Plain mathematics of chapter 3 (lists of numbers and of spans) and of 2.1: no program in sight.
-/
namespace ND
open Go

def fitsB (v : Int) : Bool := decide (-1073741824 ≤ v ∧ v ≤ 1073741824)
theorem fitsB_iff (v : Int) : fitsB v = true ↔ -1073741824 ≤ v ∧ v ≤ 1073741824 := by unfold fitsB; simp
theorem fitsB_not (v : Int) : fitsB v = false ↔ v < -1073741824 ∨ 1073741824 < v := by unfold fitsB; rw [decide_eq_false_iff_not]; omega

def putAll (b : List UInt8) (ds : List Int) : List UInt8 := ds.foldl putInt b
def diffs : Int → List Int → List Int
  | _, [] => []
  | last, v :: r => (v - last) :: diffs v r
/-- PutList: the bytes, the error. -/
def putList (b : List UInt8) (l : List Int) : List UInt8 × Int :=
  if 4096 < l.length then ([], 7) else if l.all fitsB then (putAll (putInt b l.length) (diffs 0 l), 0) else ([], 3)

def okD (last d : Int) : Bool := decide (-2147483648 ≤ d ∧ d ≤ 2147483648) && fitsB (last + d)
/-- The elements of a list that is read: the error, the elements, the index behind them. -/
def getL (s : List UInt8) : Nat → Int → Int → Int × List Int × Int
  | 0, _, p => (0, [], p)
  | n + 1, last, p =>
    if (getInt s p).2.2 ≠ 0 then ((getInt s p).2.2, [], 0)
    else if okD last (getInt s p).1 = false then (4, [], 0)
    else if (getL s n (last + (getInt s p).1) (getInt s p).2.1).1 ≠ 0 then ((getL s n (last + (getInt s p).1) (getInt s p).2.1).1, [], 0)
    else (0, (last + (getInt s p).1) :: (getL s n (last + (getInt s p).1) (getInt s p).2.1).2.1, (getL s n (last + (getInt s p).1) (getInt s p).2.1).2.2)
/-- GetList: the elements, the index, the error. -/
def getList (s : List UInt8) (p : Int) : List Int × Int × Int :=
  if (getInt s p).2.2 ≠ 0 then ([], p, (getInt s p).2.2)
  else if (getInt s p).1 < 0 ∨ 4096 < (getInt s p).1 then ([], p, 4)
  else if (getL s (getInt s p).1.toNat 0 (getInt s p).2.1).1 ≠ 0 then ([], p, (getL s (getInt s p).1.toNat 0 (getInt s p).2.1).1)
  else ((getL s (getInt s p).1.toNat 0 (getInt s p).2.1).2.1, (getL s (getInt s p).1.toNat 0 (getInt s p).2.1).2.2, 0)

theorem putAll_cons (b : List UInt8) (d : Int) (ds : List Int) : putAll b (d :: ds) = putAll (putInt b d) ds := rfl
theorem putAll_pre (ds : List Int) : ∀ b : List UInt8, ∃ e, putAll b ds = b ++ e := by
  induction ds with
  | nil => intro b; exact ⟨[], by simp [putAll]⟩
  | cons d ds ih =>
    intro b
    obtain ⟨e, he⟩ := ih (putInt b d)
    exact ⟨encU 9 (zz d) ++ e, by rw [putAll_cons, he]; simp [putInt]⟩
def inI64 (v : Int) : Prop := -9223372036854775808 ≤ v ∧ v ≤ 9223372036854775807
/-- The next number of what putAll has written. -/
theorem getInt_putAll (b t : List UInt8) (d : Int) (ds : List Int) (h : inI64 d) : getInt (putAll b (d :: ds) ++ t) b.length = (d, (((putInt b d).length : Nat) : Int), 0) := by
  obtain ⟨e, he⟩ := putAll_pre ds (putInt b d)
  rw [putAll_cons, he, List.append_assoc]
  exact getInt_putInt b (e ++ t) d h.1 h.2

theorem getL_putAll (l : List Int) : ∀ (b t : List UInt8) (last : Int), fitsB last = true → (∀ v ∈ l, fitsB v = true) →
    getL (putAll b (diffs last l) ++ t) l.length last b.length = (0, l, (((putAll b (diffs last l)).length : Nat) : Int)) := by
  induction l with
  | nil => intro b t last _ _; simp [getL, putAll, diffs]
  | cons v r ih =>
    intro b t last hl h
    have hv := h v (by simp)
    have h1 := (fitsB_iff last).1 hl
    have h2 := (fitsB_iff v).1 hv
    have hg := getInt_putAll b t (v - last) (diffs v r) ⟨by omega, by omega⟩
    have hs : last + (v - last) = v := by omega
    have hok : okD last (v - last) = true := by
      unfold okD; rw [hs, hv, Bool.and_true]; simp; omega
    have hi := ih (putInt b (v - last)) t v hv (fun x hx => h x (by simp [hx]))
    simp only [diffs, List.length_cons, getL]
    rw [hg]
    simp only [hs, hok]
    rw [putAll_cons, hi]
    simp

theorem getList_putList (b t : List UInt8) (l : List Int) (hl : l.length ≤ 4096) (h : ∀ v ∈ l, fitsB v = true) :
    putList b l = (putAll (putInt b l.length) (diffs 0 l), 0) ∧ getList ((putList b l).1 ++ t) b.length = (l, ((((putList b l).1).length : Nat) : Int), 0) := by
  have hp : putList b l = (putAll (putInt b l.length) (diffs 0 l), 0) := by
    unfold putList; rw [if_neg (by omega), if_pos (List.all_eq_true.2 h)]
  refine ⟨hp, ?_⟩
  rw [hp]
  have hg := getInt_putAll b t (l.length : Int) (diffs 0 l) ⟨by omega, by omega⟩
  have hL := getL_putAll l (putInt b (l.length : Int)) t 0 (by decide) h
  simp only at hg ⊢
  rw [putAll_cons] at hg
  unfold getList
  rw [hg]
  simp only [Int.toNat_natCast]
  rw [hL]
  simp only [ne_eq, not_true_eq_false, if_false]
  rw [if_neg (by omega)]

/-! ### Spans -/

/-- From, To, Value. -/
abbrev Sp := Int × Int × Int
/-- 2.1 behind a span that ends at last. -/
def okS (lo hi : Int) : Int → List Sp → Bool
  | _, [] => true
  | last, s :: r => decide (last < s.1 ∧ s.1 ≤ s.2.1 ∧ s.2.1 ≤ 1114111 ∧ lo ≤ s.1 ∧ s.2.1 ≤ hi) && okS lo hi s.2.1 r
def checkS (l : List Sp) (lo hi : Int) : Bool := okS lo hi (-1) l && decide (l.length ≤ 256)
def nums : Int → List Sp → List Int
  | _, [] => []
  | last, s :: r => (s.1 - last) :: (s.2.1 - s.1) :: s.2.2 :: nums s.2.1 r
def putSpans (b : List UInt8) (l : List Sp) : List UInt8 × Int :=
  if checkS l 0 1114111 = false then ([], 1) else if l.all (fun s => fitsB s.2.2) then (putAll (putInt b l.length) (nums 0 l), 0) else ([], 3)
/-- The spans that are read: the error, the spans, the index behind them. gap: the least difference to the To of the span before. -/
def getS (s : List UInt8) : Nat → Int → Int → Int → Int × List Sp × Int
  | 0, _, _, p => (0, [], p)
  | n + 1, last, gap, p =>
    if (getInt s p).2.2 ≠ 0 then ((getInt s p).2.2, [], 0)
    else if (getInt s p).1 < gap ∨ 1114111 - last < (getInt s p).1 then (4, [], 0)
    else if (getInt s (getInt s p).2.1).2.2 ≠ 0 then ((getInt s (getInt s p).2.1).2.2, [], 0)
    else if (getInt s (getInt s p).2.1).1 < 0 ∨ 1114111 - (last + (getInt s p).1) < (getInt s (getInt s p).2.1).1 then (4, [], 0)
    else if (getInt s (getInt s (getInt s p).2.1).2.1).2.2 ≠ 0 then ((getInt s (getInt s (getInt s p).2.1).2.1).2.2, [], 0)
    else if fitsB (getInt s (getInt s (getInt s p).2.1).2.1).1 = false then (4, [], 0)
    else
      let q := getS s n (last + (getInt s p).1 + (getInt s (getInt s p).2.1).1) 1 (getInt s (getInt s (getInt s p).2.1).2.1).2.1
      if q.1 ≠ 0 then (q.1, [], 0)
      else (0, (last + (getInt s p).1, last + (getInt s p).1 + (getInt s (getInt s p).2.1).1, (getInt s (getInt s (getInt s p).2.1).2.1).1) :: q.2.1, q.2.2)
def getSpans (s : List UInt8) (p : Int) : List Sp × Int × Int :=
  if (getInt s p).2.2 ≠ 0 then ([], p, (getInt s p).2.2)
  else if (getInt s p).1 < 0 ∨ 256 < (getInt s p).1 then ([], p, 4)
  else
    let q := getS s (getInt s p).1.toNat 0 0 (getInt s p).2.1
    if q.1 ≠ 0 then ([], p, q.1) else (q.2.1, q.2.2, 0)

theorem okS_cons {lo hi last : Int} {s : Sp} {r : List Sp} : okS lo hi last (s :: r) = true ↔ (last < s.1 ∧ s.1 ≤ s.2.1 ∧ s.2.1 ≤ 1114111 ∧ lo ≤ s.1 ∧ s.2.1 ≤ hi) ∧ okS lo hi s.2.1 r = true := by
  simp [okS]

theorem getS_putAll (l : List Sp) : ∀ (b t : List UInt8) (last lst gap : Int), okS 0 1114111 last l = true → (last = -1 ∧ lst = 0 ∧ gap = 0 ∨ 0 ≤ last ∧ last ≤ 1114111 ∧ lst = last ∧ gap = 1) → (∀ v ∈ l, fitsB v.2.2 = true) →
    getS (putAll b (nums lst l) ++ t) l.length lst gap b.length = (0, l, (((putAll b (nums lst l)).length : Nat) : Int)) := by
  induction l with
  | nil => intro b t last lst gap _ _ _; simp [getS, putAll, nums]
  | cons s r ih =>
    intro b t last lst gap ho hl h
    obtain ⟨⟨a1, a2, a3, a4, a5⟩, a6⟩ := okS_cons.1 ho
    have hv := h s (by simp)
    have hv' := (fitsB_iff _).1 hv
    have g1 := getInt_putAll b t (s.1 - lst) ((s.2.1 - s.1) :: s.2.2 :: nums s.2.1 r) ⟨by omega, by omega⟩
    have g2 := getInt_putAll (putInt b (s.1 - lst)) t (s.2.1 - s.1) (s.2.2 :: nums s.2.1 r) ⟨by omega, by omega⟩
    have g3 := getInt_putAll (putInt (putInt b (s.1 - lst)) (s.2.1 - s.1)) t s.2.2 (nums s.2.1 r) ⟨by omega, by omega⟩
    rw [← putAll_cons] at g2
    rw [← putAll_cons, ← putAll_cons] at g3
    have hi := ih (putInt (putInt (putInt b (s.1 - lst)) (s.2.1 - s.1)) s.2.2) t s.2.1 s.2.1 1 a6 (.inr ⟨by omega, a3, rfl, rfl⟩) (fun x hx => h x (by simp [hx]))
    rw [← putAll_cons, ← putAll_cons, ← putAll_cons] at hi
    have e1 : lst + (s.1 - lst) = s.1 := by omega
    have e2 : s.1 + (s.2.1 - s.1) = s.2.1 := by omega
    simp only [nums, List.length_cons, getS]
    rw [g1]
    simp only
    rw [g2]
    simp only
    rw [g3]
    simp only [e1, e2, hv]
    rw [hi]
    simp only [ne_eq, not_true_eq_false, if_false, Bool.true_eq_false]
    rw [if_neg (by omega), if_neg (by omega)]

theorem getSpans_putSpans (b t : List UInt8) (l : List Sp) (hc : checkS l 0 1114111 = true) (h : ∀ v ∈ l, fitsB v.2.2 = true) :
    putSpans b l = (putAll (putInt b l.length) (nums 0 l), 0) ∧ getSpans ((putSpans b l).1 ++ t) b.length = (l, ((((putSpans b l).1).length : Nat) : Int), 0) := by
  have hp : putSpans b l = (putAll (putInt b l.length) (nums 0 l), 0) := by
    unfold putSpans; rw [if_neg (by rw [hc]; simp), if_pos (List.all_eq_true.2 h)]
  refine ⟨hp, ?_⟩
  rw [hp]
  unfold checkS at hc
  rw [Bool.and_eq_true, decide_eq_true_eq] at hc
  have hg := getInt_putAll b t (l.length : Int) (nums 0 l) ⟨by omega, by omega⟩
  have hL := getS_putAll l (putInt b (l.length : Int)) t (-1) 0 0 hc.1 (.inl ⟨rfl, rfl, rfl⟩) h
  simp only at hg ⊢
  rw [putAll_cons] at hg
  unfold getSpans
  rw [hg]
  simp only [Int.toNat_natCast]
  rw [hL]
  simp only [ne_eq, not_true_eq_false, if_false]
  rw [if_neg (by omega)]
end ND
/-
  Plain mathematics of chapter 1 (UTF-8): no program in sight.
-/
namespace ND
open Go

def scalarB (c : Int) : Bool := decide (0 ≤ c ∧ c ≤ 1114111 ∧ (c < 55296 ∨ 57343 < c))
def lenC (c : Int) : Nat := if scalarB c then (if c ≤ 127 then 1 else if c ≤ 2047 then 2 else if c ≤ 65535 then 3 else 4) else 0
theorem scalarB_iff (c : Int) : scalarB c = true ↔ 0 ≤ c ∧ c ≤ 1114111 ∧ (c < 55296 ∨ 57343 < c) := by unfold scalarB; simp
theorem scalarB_not (c : Int) : scalarB c = false ↔ c < 0 ∨ 1114111 < c ∨ (55296 ≤ c ∧ c ≤ 57343) := by
  unfold scalarB; rw [decide_eq_false_iff_not]; omega

/-- The bytes of a scalar value. -/
def encN (n : Nat) : List UInt8 :=
  if n < 128 then [UInt8.ofNat n]
  else if n < 2048 then [UInt8.ofNat (192 + n / 64), UInt8.ofNat (128 + n % 64)]
  else if n < 65536 then [UInt8.ofNat (224 + n / 4096), UInt8.ofNat (128 + n / 64 % 64), UInt8.ofNat (128 + n % 64)]
  else [UInt8.ofNat (240 + n / 262144), UInt8.ofNat (128 + n / 4096 % 64), UInt8.ofNat (128 + n / 64 % 64), UInt8.ofNat (128 + n % 64)]
def encC (c : Int) : List UInt8 := encN c.toNat

def headN (b : Nat) : Nat × Nat :=
  if b ≤ 127 then (1, b) else if 192 ≤ b ∧ b ≤ 223 then (2, b % 32) else if 224 ≤ b ∧ b ≤ 239 then (3, b % 16) else if 240 ≤ b ∧ b ≤ 247 then (4, b % 8) else (0, 0)
def contN : Nat → List UInt8 → Option Nat
  | c, [] => some c
  | c, b :: r => if b.toNat < 128 ∨ 191 < b.toNat then none else contN (c * 64 + b.toNat % 64) r
/-- The scalar value that a string begins with and the number of its bytes, or 0, 0. -/
def firstP : List UInt8 → Nat × Nat
  | [] => (0, 0)
  | b :: r =>
    if (headN b.toNat).1 = 0 ∨ r.length + 1 < (headN b.toNat).1 then (0, 0)
    else match contN (headN b.toNat).2 (r.take ((headN b.toNat).1 - 1)) with
      | none => (0, 0)
      | some c => if lenC c = (headN b.toNat).1 then (c, (headN b.toNat).1) else (0, 0)

theorem lenC_encC {c : Int} (h : scalarB c = true) : (encC c).length = lenC c ∧ 1 ≤ lenC c ∧ lenC c ≤ 4 := by
  have hs := (scalarB_iff c).1 h
  unfold encC encN lenC
  rw [if_pos h]
  by_cases h1 : c ≤ 127
  · rw [if_pos (by omega), if_pos h1]; simp
  · rw [if_neg (by omega), if_neg h1]
    by_cases h2 : c ≤ 2047
    · rw [if_pos (by omega), if_pos h2]; simp
    · rw [if_neg (by omega), if_neg h2]
      by_cases h3 : c ≤ 65535
      · rw [if_pos (by omega), if_pos h3]; simp
      · rw [if_neg (by omega), if_neg h3]; simp

theorem lenC_pos {c : Int} (h : lenC c ≠ 0) : scalarB c = true := by
  unfold lenC at h
  by_cases hs : scalarB c = true
  · exact hs
  · rw [if_neg hs] at h; exact absurd rfl h

theorem firstP_enc {n : Nat} (t : List UInt8) (h : scalarB n = true) : firstP (encN n ++ t) = (n, lenC n) := by
  have hs := (scalarB_iff n).1 h
  have hl : lenC n = if (n : Int) ≤ 127 then 1 else if (n : Int) ≤ 2047 then 2 else if (n : Int) ≤ 65535 then 3 else 4 := by unfold lenC; rw [if_pos h]
  unfold encN
  by_cases h1 : n < 128
  · have e : (UInt8.ofNat n).toNat = n := u8_ofNat_toNat (by omega)
    have hh : headN n = (1, n) := by unfold headN; rw [if_pos (by omega)]
    have hl' : lenC n = 1 := by rw [hl, if_pos (by omega)]
    rw [if_pos h1]
    simp [firstP, e, hh, contN, hl']
  · rw [if_neg h1]
    by_cases h2 : n < 2048
    · have e0 : (UInt8.ofNat (192 + n / 64)).toNat = 192 + n / 64 := u8_ofNat_toNat (by omega)
      have e1 : (UInt8.ofNat (128 + n % 64)).toNat = 128 + n % 64 := u8_ofNat_toNat (by omega)
      have hh : headN (192 + n / 64) = (2, n / 64) := by unfold headN; rw [if_neg (by omega), if_pos (by omega)]; congr 1; omega
      have hl' : lenC n = 2 := by rw [hl, if_neg (by omega), if_pos (by omega)]
      have hc : n / 64 * 64 + (128 + n % 64) % 64 = n := by omega
      rw [if_pos h2]
      simp only [List.cons_append, List.nil_append, firstP, e0, hh, List.length_cons]
      rw [if_neg (by omega)]
      simp only [Nat.reduceSub, List.take_succ_cons, List.take_zero, contN, e1]
      rw [if_neg (by omega), hc]
      simp [hl']
    · rw [if_neg h2]
      by_cases h3 : n < 65536
      · have e0 : (UInt8.ofNat (224 + n / 4096)).toNat = 224 + n / 4096 := u8_ofNat_toNat (by omega)
        have e1 : (UInt8.ofNat (128 + n / 64 % 64)).toNat = 128 + n / 64 % 64 := u8_ofNat_toNat (by omega)
        have e2 : (UInt8.ofNat (128 + n % 64)).toNat = 128 + n % 64 := u8_ofNat_toNat (by omega)
        have hh : headN (224 + n / 4096) = (3, n / 4096) := by unfold headN; rw [if_neg (by omega), if_neg (by omega), if_pos (by omega)]; congr 1; omega
        have hl' : lenC n = 3 := by rw [hl, if_neg (by omega), if_neg (by omega), if_pos (by omega)]
        have hc : (n / 4096 * 64 + (128 + n / 64 % 64) % 64) * 64 + (128 + n % 64) % 64 = n := by omega
        rw [if_pos h3]
        simp only [List.cons_append, List.nil_append, firstP, e0, hh, List.length_cons]
        rw [if_neg (by omega)]
        simp only [Nat.reduceSub, List.take_succ_cons, List.take_zero, contN, e1, e2]
        rw [if_neg (by omega), if_neg (by omega), hc]
        simp [hl']
      · have e0 : (UInt8.ofNat (240 + n / 262144)).toNat = 240 + n / 262144 := u8_ofNat_toNat (by omega)
        have e1 : (UInt8.ofNat (128 + n / 4096 % 64)).toNat = 128 + n / 4096 % 64 := u8_ofNat_toNat (by omega)
        have e2 : (UInt8.ofNat (128 + n / 64 % 64)).toNat = 128 + n / 64 % 64 := u8_ofNat_toNat (by omega)
        have e3 : (UInt8.ofNat (128 + n % 64)).toNat = 128 + n % 64 := u8_ofNat_toNat (by omega)
        have hh : headN (240 + n / 262144) = (4, n / 262144) := by unfold headN; rw [if_neg (by omega), if_neg (by omega), if_neg (by omega), if_pos (by omega)]; congr 1; omega
        have hl' : lenC n = 4 := by rw [hl, if_neg (by omega), if_neg (by omega), if_neg (by omega)]
        have hc : ((n / 262144 * 64 + (128 + n / 4096 % 64) % 64) * 64 + (128 + n / 64 % 64) % 64) * 64 + (128 + n % 64) % 64 = n := by omega
        rw [if_neg h3]
        simp only [List.cons_append, List.nil_append, firstP, e0, hh, List.length_cons]
        rw [if_neg (by omega)]
        simp only [Nat.reduceSub, List.take_succ_cons, List.take_zero, contN, e1, e2, e3]
        rw [if_neg (by omega), if_neg (by omega), if_neg (by omega), hc]
        simp [hl']

theorem u8_eq {b : UInt8} {n : Nat} (h : b.toNat = n) : UInt8.ofNat n = b := by subst h; simp

theorem firstP_some (l : List UInt8) (h : (firstP l).2 ≠ 0) : scalarB (firstP l).1 = true ∧ (firstP l).2 = lenC (firstP l).1 ∧ (firstP l).2 ≤ l.length ∧ l.take (firstP l).2 = encN (firstP l).1 := by
  cases l with
  | nil => simp [firstP] at h
  | cons b r =>
    have hb := b.toNat_lt
    simp only [firstP] at h ⊢
    by_cases h0 : (headN b.toNat).1 = 0 ∨ r.length + 1 < (headN b.toNat).1
    · rw [if_pos h0] at h; simp at h
    · rw [if_neg h0] at h ⊢
      cases hc : contN (headN b.toNat).2 (r.take ((headN b.toNat).1 - 1)) with
      | none => rw [hc] at h; simp at h
      | some c =>
        rw [hc] at h
        simp only at h ⊢
        by_cases hl : lenC c = (headN b.toNat).1
        · rw [if_pos hl]
          have hsc : scalarB c = true := lenC_pos (by rw [hl]; omega)
          have hs := (scalarB_iff c).1 hsc
          refine ⟨hsc, hl.symm, by simp; omega, ?_⟩
          have hlc : lenC c = if (c : Int) ≤ 127 then 1 else if (c : Int) ≤ 2047 then 2 else if (c : Int) ≤ 65535 then 3 else 4 := by unfold lenC; rw [if_pos hsc]
          rw [hlc] at hl
          unfold headN at hl hc h0 ⊢
          by_cases b1 : b.toNat ≤ 127
          · simp only [if_pos b1] at hl hc ⊢
            simp [contN] at hc
            subst hc
            unfold encN
            rw [if_pos (by omega)]
            simp
          · simp only [if_neg b1] at hl hc h0 ⊢
            by_cases b2 : 192 ≤ b.toNat ∧ b.toNat ≤ 223
            · simp only [if_pos b2] at hl hc h0 ⊢
              match r, h0 with
              | x1 :: r', _ =>
                have hx1 := x1.toNat_lt
                simp only [Nat.reduceSub, List.take_succ_cons, List.take_zero, contN] at hc ⊢
                split at hc
                · cases hc
                · rename_i c1
                  simp only [Option.some.injEq] at hc
                  have hr : 128 ≤ c ∧ c < 2048 := by
                    by_cases k1 : (c : Int) ≤ 127
                    · rw [if_pos k1] at hl; omega
                    · rw [if_neg k1] at hl
                      by_cases k2 : (c : Int) ≤ 2047
                      · omega
                      · rw [if_neg k2] at hl; split at hl <;> omega
                  unfold encN
                  rw [if_neg (by omega), if_pos (by omega), u8_eq (b := b) (by omega), u8_eq (b := x1) (by omega)]
              | [], h0 => simp at h0
            · simp only [if_neg b2] at hl hc h0 ⊢
              by_cases b3 : 224 ≤ b.toNat ∧ b.toNat ≤ 239
              · simp only [if_pos b3] at hl hc h0 ⊢
                match r, h0 with
                | x1 :: x2 :: r', _ =>
                  have hx1 := x1.toNat_lt
                  have hx2 := x2.toNat_lt
                  simp only [Nat.reduceSub, List.take_succ_cons, List.take_zero, contN] at hc ⊢
                  split at hc
                  · cases hc
                  · rename_i c1
                    split at hc
                    · cases hc
                    · rename_i c2
                      simp only [Option.some.injEq] at hc
                      have hr : 2048 ≤ c ∧ c < 65536 := by
                        by_cases k1 : (c : Int) ≤ 127
                        · rw [if_pos k1] at hl; omega
                        · rw [if_neg k1] at hl
                          by_cases k2 : (c : Int) ≤ 2047
                          · rw [if_pos k2] at hl; omega
                          · rw [if_neg k2] at hl; split at hl <;> omega
                      unfold encN
                      rw [if_neg (by omega), if_neg (by omega), if_pos (by omega), u8_eq (b := b) (by omega), u8_eq (b := x1) (by omega), u8_eq (b := x2) (by omega)]
                | [], h0 => simp at h0
                | [_], h0 => simp at h0
              · simp only [if_neg b3] at hl hc h0 ⊢
                by_cases b4 : 240 ≤ b.toNat ∧ b.toNat ≤ 247
                · simp only [if_pos b4] at hl hc h0 ⊢
                  match r, h0 with
                  | x1 :: x2 :: x3 :: r', _ =>
                    have hx1 := x1.toNat_lt
                    have hx2 := x2.toNat_lt
                    have hx3 := x3.toNat_lt
                    simp only [Nat.reduceSub, List.take_succ_cons, List.take_zero, contN] at hc ⊢
                    split at hc
                    · cases hc
                    · rename_i c1
                      split at hc
                      · cases hc
                      · rename_i c2
                        split at hc
                        · cases hc
                        · rename_i c3
                          simp only [Option.some.injEq] at hc
                          have hr : 65536 ≤ c := by
                            by_cases k1 : (c : Int) ≤ 127
                            · rw [if_pos k1] at hl; omega
                            · rw [if_neg k1] at hl
                              by_cases k2 : (c : Int) ≤ 2047
                              · rw [if_pos k2] at hl; omega
                              · rw [if_neg k2] at hl; split at hl <;> omega
                          unfold encN
                          rw [if_neg (by omega), if_neg (by omega), if_neg (by omega), u8_eq (b := b) (by omega), u8_eq (b := x1) (by omega), u8_eq (b := x2) (by omega), u8_eq (b := x3) (by omega)]
                  | [], h0 => simp at h0
                  | [_], h0 => simp at h0
                  | [_, _], h0 => simp at h0
                · simp only [if_neg b4] at h0
                  simp at h0
        · rw [if_neg hl] at h; simp at h

/-! ### The reference's way to the first scalar value -/

def byteAt (l : List UInt8) (i : Nat) : Int := ((l.getD i 0).toNat : Int)
def valN (n : Nat) (l : List UInt8) : Int :=
  if n = 1 then byteAt l 0
  else if n = 2 then (byteAt l 0 - 192) * 64 + byteAt l 1 - 128
  else if n = 3 then (byteAt l 0 - 224) * 4096 + (byteAt l 1 - 128) * 64 + byteAt l 2 - 128
  else (byteAt l 0 - 240) * 262144 + (byteAt l 1 - 128) * 4096 + (byteAt l 2 - 128) * 64 + byteAt l 3 - 128

theorem firstP_zero (l : List UInt8) (h : (firstP l).2 = 0) : (firstP l).1 = 0 := by
  cases l with
  | nil => rfl
  | cons b r =>
    simp only [firstP] at h ⊢
    split
    · rfl
    · rename_i h0
      rw [if_neg h0] at h
      split
      · rfl
      · rename_i c hc
        rw [hc] at h
        simp only at h ⊢
        split
        · rename_i hl
          rw [if_pos hl] at h
          simp only at h
          exact absurd (.inl h) h0
        · rfl

theorem valN_enc {c : Nat} (t : List UInt8) (h : scalarB c = true) : valN (lenC c) (encN c ++ t) = c := by
  have hs := (scalarB_iff c).1 h
  have hl : lenC c = if (c : Int) ≤ 127 then 1 else if (c : Int) ≤ 2047 then 2 else if (c : Int) ≤ 65535 then 3 else 4 := by unfold lenC; rw [if_pos h]
  unfold encN
  by_cases h1 : c < 128
  · rw [hl, if_pos (by omega), if_pos h1]
    simp [valN, byteAt, u8_ofNat_toNat (show c < 256 by omega)]
  · rw [if_neg h1]
    by_cases h2 : c < 2048
    · rw [hl, if_neg (by omega), if_pos (by omega), if_pos h2]
      simp only [valN, byteAt, List.cons_append, List.nil_append, List.getD_cons_zero, List.getD_cons_succ, u8_ofNat_toNat (show 192 + c / 64 < 256 by omega), u8_ofNat_toNat (show 128 + c % 64 < 256 by omega)]
      simp only [Nat.reduceEqDiff, if_true, if_false]
      omega
    · rw [if_neg h2]
      by_cases h3 : c < 65536
      · rw [hl, if_neg (by omega), if_neg (by omega), if_pos (by omega), if_pos h3]
        simp only [valN, byteAt, List.cons_append, List.nil_append, List.getD_cons_zero, List.getD_cons_succ, u8_ofNat_toNat (show 224 + c / 4096 < 256 by omega), u8_ofNat_toNat (show 128 + c / 64 % 64 < 256 by omega), u8_ofNat_toNat (show 128 + c % 64 < 256 by omega)]
        simp only [Nat.reduceEqDiff, if_true, if_false]
        omega
      · rw [hl, if_neg (by omega), if_neg (by omega), if_neg (by omega), if_neg h3]
        simp only [valN, byteAt, List.cons_append, List.nil_append, List.getD_cons_zero, List.getD_cons_succ, u8_ofNat_toNat (show 240 + c / 262144 < 256 by omega), u8_ofNat_toNat (show 128 + c / 4096 % 64 < 256 by omega), u8_ofNat_toNat (show 128 + c / 64 % 64 < 256 by omega), u8_ofNat_toNat (show 128 + c % 64 < 256 by omega)]
        simp only [Nat.reduceEqDiff, if_false]
        omega

/-- The reference's test for n bytes, and what it means. -/
theorem ref_test {l : List UInt8} {n : Nat} (h1 : 1 ≤ n) :
    (lenC (valN n l) = n ∧ encC (valN n l) = l.take n) ↔ (firstP l).2 = n := by
  constructor
  · intro ⟨a, b⟩
    have hsc : scalarB (valN n l) = true := lenC_pos (by omega)
    have hs := (scalarB_iff _).1 hsc
    obtain ⟨c, hc⟩ := Int.eq_ofNat_of_zero_le hs.1
    rw [hc] at a b hsc
    have hf := firstP_enc (l.drop n) hsc
    have hb : encN c = l.take n := by simpa [encC] using b
    rw [hb, List.take_append_drop] at hf
    rw [hf]; exact a
  · intro h
    obtain ⟨a, b, c, d⟩ := firstP_some l (by omega)
    have hv := valN_enc (l.drop n) a
    rw [← d, h, List.take_append_drop, ← b, h] at hv
    rw [hv]
    exact ⟨by rw [← b, h], by rw [encC, Int.toNat_natCast, ← d, h]⟩
theorem ref_val {l : List UInt8} {n : Nat} (h1 : 1 ≤ n) (h : (firstP l).2 = n) : valN n l = (firstP l).1 := by
  obtain ⟨a, b, c, d⟩ := firstP_some l (by omega)
  have hv := valN_enc (l.drop n) a
  rw [← d, h, List.take_append_drop, ← b, h] at hv
  exact hv

/-! ### All scalar values of a string -/

def scanF : Nat → List UInt8 → List Int × Nat
  | 0, _ => ([], 0)
  | f + 1, l => if (firstP l).2 = 0 then ([], 0) else (((firstP l).1 : Int) :: (scanF f (l.drop (firstP l).2)).1, (firstP l).2 + (scanF f (l.drop (firstP l).2)).2)
def scanL (l : List UInt8) : List Int × Nat := scanF l.length l
def encAll (cs : List Int) : List UInt8 := cs.flatMap encC

theorem scanF_succ (f : Nat) (l : List UInt8) : scanF (f + 1) l = if (firstP l).2 = 0 then ([], 0) else (((firstP l).1 : Int) :: (scanF f (l.drop (firstP l).2)).1, (firstP l).2 + (scanF f (l.drop (firstP l).2)).2) := rfl
theorem scanF_more (f : Nat) : ∀ l : List UInt8, l.length ≤ f → scanF (f + 1) l = scanF f l := by
  induction f with
  | zero =>
    intro l h
    have : l = [] := List.eq_nil_of_length_eq_zero (by omega)
    subst this
    simp [scanF, firstP]
  | succ f ih =>
    intro l h
    rw [scanF_succ (f + 1) l, scanF_succ f l]
    by_cases h0 : (firstP l).2 = 0
    · rw [if_pos h0, if_pos h0]
    · rw [if_neg h0, if_neg h0, ih _ (by rw [List.length_drop]; omega)]
theorem scanF_eq (f : Nat) (l : List UInt8) (h : l.length ≤ f) : scanF f l = scanL l := by
  obtain ⟨d, rfl⟩ : ∃ d, f = l.length + d := ⟨f - l.length, by omega⟩
  clear h
  induction d with
  | zero => rfl
  | succ d ih => rw [← Nat.add_assoc, scanF_more _ _ (by omega)]; exact ih
theorem scanL_eq (l : List UInt8) : scanL l = if (firstP l).2 = 0 then ([], 0) else (((firstP l).1 : Int) :: (scanL (l.drop (firstP l).2)).1, (firstP l).2 + (scanL (l.drop (firstP l).2)).2) := by
  rw [← scanF_eq (l.length + 1) l (by omega), scanF_succ, scanF_eq l.length _ (by rw [List.length_drop]; omega)]

theorem scanL_le (f : Nat) : ∀ l : List UInt8, l.length ≤ f → (scanL l).2 ≤ l.length ∧ encAll (scanL l).1 = l.take (scanL l).2 ∧ ∀ c ∈ (scanL l).1, scalarB c = true := by
  induction f with
  | zero =>
    intro l h
    have : l = [] := List.eq_nil_of_length_eq_zero (by omega)
    subst this
    simp [scanL, scanF, encAll]
  | succ f ih =>
    intro l h
    rw [scanL_eq]
    by_cases h0 : (firstP l).2 = 0
    · rw [if_pos h0]; simp [encAll]
    · rw [if_neg h0]
      obtain ⟨a, b, c, d⟩ := firstP_some l h0
      obtain ⟨i1, i2, i3⟩ := ih (l.drop (firstP l).2) (by rw [List.length_drop]; omega)
      rw [List.length_drop] at i1
      refine ⟨by simp only; omega, ?_, ?_⟩
      · show encC _ ++ encAll _ = _
        rw [i2, encC, Int.toNat_natCast, ← d, List.take_add]
      · intro x hx
        rcases List.mem_cons.1 hx with rfl | hx
        · exact a
        · exact i3 x hx

theorem scanL_enc (cs : List Int) (t : List UInt8) (h : ∀ c ∈ cs, scalarB c = true) : scanL (encAll cs ++ t) = (cs ++ (scanL t).1, (encAll cs).length + (scanL t).2) := by
  induction cs with
  | nil => simp [encAll]
  | cons c cs ih =>
    have hc := h c (by simp)
    have hs := (scalarB_iff c).1 hc
    obtain ⟨n, rfl⟩ := Int.eq_ofNat_of_zero_le hs.1
    have hl := lenC_encC hc
    have hf := firstP_enc (encAll cs ++ t) hc
    have e : encAll ((n : Int) :: cs) ++ t = encN n ++ (encAll cs ++ t) := by simp [encAll, encC]
    have hn : (encN n).length = lenC n := by simpa [encC] using hl.1
    rw [e, scanL_eq, hf]
    simp only
    rw [if_neg (by omega), ← hn, List.drop_left, ih (fun x hx => h x (by simp [hx]))]
    simp only [List.cons_append, Prod.mk.injEq, true_and]
    simp [encAll, encC]; omega

theorem scanL_nil : scanL [] = ([], 0) := rfl
theorem scanL_all (cs : List Int) (h : ∀ c ∈ cs, scalarB c = true) : scanL (encAll cs) = (cs, (encAll cs).length) := by
  have := scanL_enc cs [] h
  simpa [scanL_nil] using this

/-- Decode: the scalar values, the position of the error, the error. -/
def decodeL (l : List UInt8) : List Int × Nat × Nat :=
  if 4096 < l.length then ([], 0, 7) else if (scanL l).2 < l.length then ([], (scanL l).2, 9) else ((scanL l).1, 0, 0)
/-- Encode: the bytes, the error. -/
def encodeL (cs : List Int) : List UInt8 × Nat :=
  if 4096 < cs.length then ([], 7) else if cs.all scalarB then (encAll cs, 0) else ([], 3)
end ND
/-
  Plain mathematics of chapter 4, first part: tables, values of spans, sequences of mappings, fixed properties. No program in sight.
-/
namespace ND
open Go

/-- From, To. -/
abbrev Mp := Int × List Int
structure Tab where
  category : List Sp
  cls : List Sp
  joining : List Sp
  bidi : List Sp
  script : List Sp
  status : List Sp
  ignorable : List Sp
  extensions : List Mp
  maps : List Mp
  decomps : List Mp
  excluded : List Int
  prototypes : List Mp

def sylB (c : Int) : Bool := decide (44032 ≤ c ∧ c ≤ 55203)
def jamoB (c : Int) : Bool := decide (4352 ≤ c ∧ c ≤ 4370 ∨ 4449 ≤ c ∧ c ≤ 4469 ∨ 4520 ≤ c ∧ c ≤ 4546)
def surB (c : Int) : Bool := decide (55296 ≤ c ∧ c ≤ 57343)
def resB (c : Int) : Bool := decide (0 ≤ c ∧ c ≤ 127 ∨ 55296 ≤ c ∧ c ≤ 57343 ∨ 44032 ≤ c ∧ c ≤ 55203 ∨ 4352 ≤ c ∧ c ≤ 4370 ∨ 4449 ≤ c ∧ c ≤ 4469 ∨ 4520 ≤ c ∧ c ≤ 4546)
def nameB (c : Int) : Bool := decide (97 ≤ c ∧ c ≤ 122 ∨ 48 ≤ c ∧ c ≤ 57 ∨ c = 45)
theorem sylB_iff (c : Int) : sylB c = true ↔ 44032 ≤ c ∧ c ≤ 55203 := by unfold sylB; simp
theorem jamoB_iff (c : Int) : jamoB c = true ↔ (4352 ≤ c ∧ c ≤ 4370 ∨ 4449 ≤ c ∧ c ≤ 4469 ∨ 4520 ≤ c ∧ c ≤ 4546) := by unfold jamoB; simp
theorem surB_iff (c : Int) : surB c = true ↔ 55296 ≤ c ∧ c ≤ 57343 := by unfold surB; simp
theorem resB_iff (c : Int) : resB c = true ↔ (0 ≤ c ∧ c ≤ 127 ∨ 55296 ≤ c ∧ c ≤ 57343 ∨ 44032 ≤ c ∧ c ≤ 55203 ∨ 4352 ≤ c ∧ c ≤ 4370 ∨ 4449 ≤ c ∧ c ≤ 4469 ∨ 4520 ≤ c ∧ c ≤ 4546) := by unfold resB; simp
theorem resB_not (c : Int) : resB c = false ↔ ¬(0 ≤ c ∧ c ≤ 127 ∨ 55296 ≤ c ∧ c ≤ 57343 ∨ 44032 ≤ c ∧ c ≤ 55203 ∨ 4352 ≤ c ∧ c ≤ 4370 ∨ 4449 ≤ c ∧ c ≤ 4469 ∨ 4520 ≤ c ∧ c ≤ 4546) := by unfold resB; rw [decide_eq_false_iff_not]
theorem nameB_iff (c : Int) : nameB c = true ↔ (97 ≤ c ∧ c ≤ 122 ∨ 48 ≤ c ∧ c ≤ 57 ∨ c = 45) := by unfold nameB; simp

/-- The value of a code point in a list of spans, or 0. -/
def valueL : List Sp → Int → Int
  | [], _ => 0
  | s :: r, c => if s.1 ≤ c ∧ c ≤ s.2.1 then s.2.2 else valueL r c
/-- The sequence of a code point, or the empty one. -/
def findL : List Mp → Int → List Int
  | [], _ => []
  | m :: r, c => if m.1 = c then m.2 else findL r c

/-- The first spans end ahead of the next ones' beginnings. -/
def sortS (l : List Sp) : Prop := ∃ lo hi, okS lo hi (-1) l = true
theorem sortS_of_check {l : List Sp} {lo hi : Int} (h : checkS l lo hi = true) : sortS l := by
  unfold checkS at h
  rw [Bool.and_eq_true] at h
  exact ⟨lo, hi, h.1⟩
theorem okS_at {lo hi : Int} {l : List Sp} : ∀ {last : Int}, okS lo hi last l = true → ∀ {i j : Nat} {a b : Sp}, i < j → l[i]? = some a → l[j]? = some b → a.1 ≤ a.2.1 ∧ a.2.1 < b.1 := by
  induction l with
  | nil => intro last _ i j a b _ h; simp at h
  | cons s r ih =>
    intro last h i j a b hij ha hb
    obtain ⟨h1, h2⟩ := okS_cons.1 h
    cases j with
    | zero => omega
    | succ j =>
      cases i with
      | zero =>
        simp at ha hb
        subst ha
        have : ∀ {last : Int} {r : List Sp}, okS lo hi last r = true → ∀ {j : Nat} {b : Sp}, r[j]? = some b → last < b.1 := by
          intro last r
          induction r generalizing last with
          | nil => intro _ j b h; simp at h
          | cons t r ih' =>
            intro h j b hb
            obtain ⟨g1, g2⟩ := okS_cons.1 h
            cases j with
            | zero => simp at hb; subst hb; exact g1.1
            | succ j => have := ih' g2 (j := j) (by simpa using hb); omega
        exact ⟨h1.2.1, this h2 hb⟩
      | succ i => exact ih h2 (i := i) (j := j) (by omega) (by simpa using ha) (by simpa using hb)
theorem okS_el {lo hi : Int} {l : List Sp} : ∀ {last : Int}, okS lo hi last l = true → ∀ {i : Nat} {a : Sp}, l[i]? = some a → last < a.1 ∧ a.1 ≤ a.2.1 ∧ a.2.1 ≤ 1114111 ∧ lo ≤ a.1 ∧ a.2.1 ≤ hi := by
  induction l with
  | nil => intro last _ i a h; simp at h
  | cons s r ih =>
    intro last h i a ha
    obtain ⟨h1, h2⟩ := okS_cons.1 h
    cases i with
    | zero => simp at ha; subst ha; exact h1
    | succ i =>
      have := ih h2 (i := i) (by simpa using ha)
      omega

/-- What the search for a code point comes to: k is the first place whose span ends at c or behind it. -/
theorem valueL_at {l : List Sp} {c : Int} {k : Nat} (h0 : ∀ i a, i < k → l[i]? = some a → a.2.1 < c) {a : Sp} (ha : l[k]? = some a) (hc : a.1 ≤ c) (hc' : c ≤ a.2.1) : valueL l c = a.2.2 := by
  induction l generalizing k with
  | nil => simp at ha
  | cons s r ih =>
    cases k with
    | zero => simp at ha; subst ha; rw [valueL, if_pos ⟨hc, hc'⟩]
    | succ k =>
      have h1 := h0 0 s (by omega) rfl
      rw [valueL, if_neg (by omega)]
      exact ih (k := k) (fun i a hi h => h0 (i + 1) a (by omega) (by simpa using h)) (by simpa using ha)
theorem valueL_no {l : List Sp} {c : Int} (h : ∀ (i : Nat) (a : Sp), l[i]? = some a → ¬(a.1 ≤ c ∧ c ≤ a.2.1)) : valueL l c = 0 := by
  induction l with
  | nil => rfl
  | cons s r ih => rw [valueL, if_neg (h 0 s rfl)]; exact ih (fun i a hi => h (i + 1) a (by simpa using hi))
theorem valueL_miss {l : List Sp} {c : Int} {k : Nat} {lo hi : Int} (hs : okS lo hi (-1) l = true) (h0 : ∀ i a, i < k → l[i]? = some a → a.2.1 < c) (h1 : ∀ a, l[k]? = some a → c < a.1) : valueL l c = 0 := by
  refine valueL_no fun i a hi => ?_
  rcases Nat.lt_trichotomy i k with h | h | h
  · have := h0 i a h hi; omega
  · subst h; have := h1 a hi; omega
  · have hk : k < l.length := by have := (List.getElem?_eq_some_iff.1 hi).1; omega
    have hk' : l[k]? = some l[k] := List.getElem?_eq_getElem hk
    have := okS_at hs h hk' hi
    have := h1 _ hk'
    omega

/-- Keys of mappings ascend. -/
def sortM (l : List Mp) : Prop := ∀ (i j : Nat) (a b : Mp), i < j → l[i]? = some a → l[j]? = some b → a.1 < b.1
theorem findL_at {l : List Mp} {c : Int} {k : Nat} (h0 : ∀ i a, i < k → l[i]? = some a → a.1 < c) {a : Mp} (ha : l[k]? = some a) (hc : a.1 = c) : findL l c = a.2 := by
  induction l generalizing k with
  | nil => simp at ha
  | cons s r ih =>
    cases k with
    | zero => simp at ha; subst ha; rw [findL, if_pos hc]
    | succ k =>
      have h1 := h0 0 s (by omega) rfl
      rw [findL, if_neg (by omega)]
      exact ih (k := k) (fun i a hi h => h0 (i + 1) a (by omega) (by simpa using h)) (by simpa using ha)
theorem findL_no {l : List Mp} {c : Int} (h : ∀ (i : Nat) (a : Mp), l[i]? = some a → a.1 ≠ c) : findL l c = [] := by
  induction l with
  | nil => rfl
  | cons s r ih => rw [findL, if_neg (h 0 s rfl)]; exact ih (fun i a hi => h (i + 1) a (by simpa using hi))
theorem findL_miss {l : List Mp} {c : Int} {k : Nat} (hs : sortM l) (h0 : ∀ i a, i < k → l[i]? = some a → a.1 < c) (h1 : ∀ a, l[k]? = some a → c ≠ a.1 ∧ c ≤ a.1) : findL l c = [] := by
  refine findL_no fun i a hi => ?_
  rcases Nat.lt_trichotomy i k with h | h | h
  · have := h0 i a h hi; omega
  · subst h; have := h1 a hi; omega
  · have hk : k < l.length := by have := (List.getElem?_eq_some_iff.1 hi).1; omega
    have hk' : l[k]? = some l[k] := List.getElem?_eq_getElem hk
    have := hs k i _ _ h hk' hi
    have := h1 _ hk'
    omega
theorem findL_mem {l : List Mp} {c : Int} (h : findL l c ≠ []) : (c, findL l c) ∈ l := by
  induction l with
  | nil => exact absurd rfl h
  | cons s r ih =>
    rw [findL] at h ⊢
    split at h
    · rename_i hc; rw [if_pos hc]; obtain ⟨a, b⟩ := s; simp only at hc; subst hc; exact List.mem_cons_self
    · rename_i hc; rw [if_neg hc]; exact List.mem_cons_of_mem _ (ih h)

/-- The fixed properties: category, Bidi class, script, status. -/
def fixC (c : Int) : Int × Int × Int × Int :=
  if 97 ≤ c ∧ c ≤ 122 then (1, 0, 3, 1)
  else if 65 ≤ c ∧ c ≤ 90 then (1, 0, 3, 3)
  else if 48 ≤ c ∧ c ≤ 57 then (3, 4, 1, 1)
  else if c = 45 then (5, 5, 1, 1)
  else if c = 46 then (5, 6, 1, 1)
  else if c = 32 then (7, 11, 1, 0)
  else if c < 32 ∨ c = 127 then (8, 11, 1, 0)
  else if c < 127 then (5, 8, 1, 0)
  else if 44032 ≤ c ∧ c ≤ 55203 then (1, 0, 9, 1)
  else if 4352 ≤ c ∧ c ≤ 4370 ∨ 4449 ≤ c ∧ c ≤ 4469 ∨ 4520 ≤ c ∧ c ≤ 4546 then (1, 0, 9, 0)
  else (0, 0, 0, 0)
/-- A property: own for a reserved code point, else the list's. -/
def propL (l : List Sp) (own c : Int) : Int := if lenC c = 0 then 0 else if resB c = true then own else valueL l c
def Tab.categoryOf (T : Tab) (c : Int) : Int := propL T.category (fixC c).1 c
def Tab.bidiOf (T : Tab) (c : Int) : Int := propL T.bidi (fixC c).2.1 c
def Tab.scriptOf (T : Tab) (c : Int) : Int := propL T.script (fixC c).2.2.1 c
def Tab.statusOf (T : Tab) (c : Int) : Int := propL T.status (fixC c).2.2.2 c
def Tab.classOf (T : Tab) (c : Int) : Int := valueL T.cls c
def Tab.joiningOf (T : Tab) (c : Int) : Int := valueL T.joining c
def Tab.ignB (T : Tab) (c : Int) : Bool := valueL T.ignorable c == 1
def Tab.excB (T : Tab) (c : Int) : Bool := decide (c ∈ T.excluded)
/-- What a code point is mapped to. -/
def Tab.mapsOf (T : Tab) (c : Int) : List Int := if 65 ≤ c ∧ c ≤ 90 then [c + 32] else findL T.maps c
end ND
/-
  Words for memory: a slice value that reads as a list of mappings; tables by value; the variable that holds the reserved blocks.
-/
namespace Go.Proofs.YtneinkpfhkojgaaGreatDoor
open Go.ChangeShapes Go.WideShapes Go.Deep Go.RowKit ND

/-- The slice value v holds the mappings xs; their cells and their sequences' cells lie below block B. -/
def Mapps (w : World) (B : Nat) (v : Value) (xs : List Mp) : Prop :=
  ∃ A c, v = .slice A xs.length c ∧ xs.length ≤ c ∧ c ≤ maxLen ∧ (A = none → c = 0) ∧
    ∀ i x, xs[i]? = some x → ∃ ad sv, A = some ad ∧ ad.block < B ∧ w.cell? (ad.add (i * 2)) = some (.int .i64 x.1) ∧ w.cell? (ad.add (i * 2 + 1)) = some sv ∧ Ints w B .i64 sv x.2
section
variable {w w' : World} {B B' : Nat} {v : Value} {xs : List Mp}
theorem Mapps.keep (h : Mapps w B v xs) (hk : ∀ p : Addr, p.block < B → w'.cell? p = w.cell? p) : Mapps w' B v xs := by
  obtain ⟨A, c, hv, h1, h2, h3, h4⟩ := h
  refine ⟨A, c, hv, h1, h2, h3, fun i x hi => ?_⟩
  obtain ⟨ad, sv, e, hb, c0, c1, hi'⟩ := h4 i x hi
  exact ⟨ad, sv, e, hb, (hk _ (by rw [block_of_add]; exact hb)).trans c0, (hk _ (by rw [block_of_add]; exact hb)).trans c1, hi'.keep hk⟩
theorem Mapps.more (h : Mapps w B v xs) (hB : B ≤ B') : Mapps w B' v xs := by
  obtain ⟨A, c, hv, h1, h2, h3, h4⟩ := h
  refine ⟨A, c, hv, h1, h2, h3, fun i x hi => ?_⟩
  obtain ⟨ad, sv, e, hb, c0, c1, hi'⟩ := h4 i x hi
  exact ⟨ad, sv, e, by omega, c0, c1, hi'.more hB⟩
theorem Mapps.below (h : Mapps w B v xs) (hb : Below B w w') : Mapps w' B v xs := h.keep fun _ hp => hb.cell hp
theorem Mapps.later (h : Mapps w w.heap.size v xs) (hb : Below w.heap.size w w') : Mapps w' w'.heap.size v xs := (h.below hb).more hb.size
theorem Mapps.none_ : Mapps w B (.slice none 0 0) [] := ⟨none, 0, rfl, Nat.le_refl _, Nat.zero_le _, fun _ => rfl, fun _ _ h => by simp at h⟩
end

/-- The two cells of a mapping, as a load of the whole has them, and its sequence. -/
theorem map_cells {w wr : World} {ad : Addr} {k : Nat} {B : Nat} {x y : Value} (hb : Below B w wr) (ha : ad.block < B) (d0 : w.cell? (ad.add (k * 2)) = some x) (d1 : w.cell? (ad.add (k * 2 + 1)) = some y) :
    wr.cell? (ad.add (k * 2)) = some x ∧ wr.cell? { block := (ad.add (k * 2)).block, off := (ad.add (k * 2)).off + 1, spot := none } = some y := by
  refine ⟨(hb.cell (p := ad.add (k * 2)) (by rw [block_of_add]; exact ha)).trans d0, ?_⟩
  rw [← add_mid _ _ _ (by decide)]; exact (hb.cell (p := ad.add (k * 2 + 1)) (by rw [block_of_add]; exact ha)).trans d1

/-- The twelve slices of tables. -/
structure Tv where
  c0 : Value
  c1 : Value
  c2 : Value
  c3 : Value
  c4 : Value
  c5 : Value
  c6 : Value
  c7 : Value
  c8 : Value
  c9 : Value
  c10 : Value
  c11 : Value
structure TabR (w : World) (B : Nat) (t : Tv) (T : Tab) : Prop where
  r0 : Spans w B t.c0 T.category
  r1 : Spans w B t.c1 T.cls
  r2 : Spans w B t.c2 T.joining
  r3 : Spans w B t.c3 T.bidi
  r4 : Spans w B t.c4 T.script
  r5 : Spans w B t.c5 T.status
  r6 : Spans w B t.c6 T.ignorable
  r7 : Mapps w B t.c7 T.extensions
  r8 : Mapps w B t.c8 T.maps
  r9 : Mapps w B t.c9 T.decomps
  r10 : Ints w B .i64 t.c10 T.excluded
  r11 : Mapps w B t.c11 T.prototypes
section
variable {w w' : World} {B B' : Nat} {t : Tv} {T : Tab}
theorem TabR.keep (h : TabR w B t T) (hk : ∀ p : Addr, p.block < B → w'.cell? p = w.cell? p) : TabR w' B t T :=
  ⟨h.r0.keep hk, h.r1.keep hk, h.r2.keep hk, h.r3.keep hk, h.r4.keep hk, h.r5.keep hk, h.r6.keep hk, h.r7.keep hk, h.r8.keep hk, h.r9.keep hk, h.r10.keep hk, h.r11.keep hk⟩
theorem TabR.more (h : TabR w B t T) (hB : B ≤ B') : TabR w B' t T :=
  ⟨h.r0.more hB, h.r1.more hB, h.r2.more hB, h.r3.more hB, h.r4.more hB, h.r5.more hB, h.r6.more hB, h.r7.more hB, h.r8.more hB, h.r9.more hB, h.r10.more hB, h.r11.more hB⟩
theorem TabR.below (h : TabR w B t T) (hb : Below B w w') : TabR w' B t T := h.keep fun _ hp => hb.cell hp
theorem TabR.later (h : TabR w w.heap.size t T) (hb : Below w.heap.size w w') : TabR w' w'.heap.size t T := (h.below hb).more hb.size
end
/-- Tables as a value. -/
abbrev Tv.val (t : Tv) : Value := .agg #[t.c0, t.c1, t.c2, t.c3, t.c4, t.c5, t.c6, t.c7, t.c8, t.c9, t.c10, t.c11]
abbrev Tv.cells (t : Tv) : Array Value := #[t.c0, t.c1, t.c2, t.c3, t.c4, t.c5, t.c6, t.c7, t.c8, t.c9, t.c10, t.c11]
end Go.Proofs.YtneinkpfhkojgaaGreatDoor
/-
  Plain mathematics of chapter 4, second part: full decompositions, with a bound on their depth. No program in sight.
-/
namespace ND
open Go

/-- The full decomposition of a code point, at most f rounds deep. -/
def expF (D : List Mp) : Nat → Int → List Int
  | 0, c => [c]
  | f + 1, c => if findL D c = [] then [c] else (findL D c).flatMap (expF D f)
/-- How many code points the full decomposition has, or 19. -/
def sizeF (D : List Mp) : Nat → Int → Nat
  | 0, c => if findL D c = [] then 1 else 19
  | f + 1, c => if findL D c = [] then 1 else min 19 ((findL D c).map (sizeF D f)).sum
/-- Nothing in the list has a decomposition. -/
def doneB (D : List Mp) (l : List Int) : Bool := l.all (fun x => decide (findL D x = []))
def fin (D : List Mp) (f : Nat) (c : Int) : Bool := doneB D (expF D f c)

theorem expF_none {D : List Mp} {c : Int} (h : findL D c = []) (f : Nat) : expF D f c = [c] := by
  cases f with
  | zero => rfl
  | succ f => rw [expF, if_pos h]
theorem expF_some {D : List Mp} {c : Int} (h : findL D c ≠ []) (f : Nat) : expF D (f + 1) c = (findL D c).flatMap (expF D f) := by rw [expF, if_neg h]
theorem doneB_append (D : List Mp) (a b : List Int) : doneB D (a ++ b) = (doneB D a && doneB D b) := by unfold doneB; rw [List.all_append]
theorem doneB_flatMap (D : List Mp) (g : Int → List Int) (l : List Int) : doneB D (l.flatMap g) = l.all (fun x => doneB D (g x)) := by
  induction l with
  | nil => rfl
  | cons a r ih => rw [List.flatMap_cons, doneB_append, ih, List.all_cons]
theorem doneB_one (D : List Mp) (c : Int) : doneB D [c] = decide (findL D c = []) := by unfold doneB; simp
theorem fin_none {D : List Mp} {c : Int} (h : findL D c = []) (f : Nat) : fin D f c = true := by
  unfold fin; rw [expF_none h, doneB_one, decide_eq_true h]
theorem fin_zero {D : List Mp} {c : Int} : fin D 0 c = decide (findL D c = []) := by unfold fin expF; rw [doneB_one]
theorem fin_succ {D : List Mp} {c : Int} (h : findL D c ≠ []) (f : Nat) : fin D (f + 1) c = (findL D c).all (fin D f) := by
  show doneB D (expF D (f + 1) c) = _
  rw [expF_some h, doneB_flatMap]; rfl
theorem length_pos_ne {α : Type} {l : List α} (h : l ≠ []) : 0 < l.length := List.length_pos_iff.2 h
theorem flatMap_same {g g' : Int → List Int} {l : List Int} (h : ∀ x ∈ l, g x = g' x) : l.flatMap g = l.flatMap g' := by
  induction l with
  | nil => rfl
  | cons a r ih => rw [List.flatMap_cons, List.flatMap_cons, h a List.mem_cons_self, ih fun x hx => h x (List.mem_cons_of_mem _ hx)]
theorem expF_ne (D : List Mp) : ∀ (f : Nat) (c : Int), expF D f c ≠ [] := by
  intro f
  induction f with
  | zero => intro c h; cases h
  | succ f ih =>
    intro c
    by_cases h : findL D c = []
    · rw [expF_none h]; intro h; cases h
    · rw [expF_some h]
      cases hl : findL D c with
      | nil => exact absurd hl h
      | cons a r => rw [List.flatMap_cons]; intro he; exact ih a (List.append_eq_nil_iff.1 he).1
/-- Once final, deeper rounds add nothing. -/
theorem fin_more {D : List Mp} : ∀ (f : Nat) (c : Int), fin D f c = true → expF D (f + 1) c = expF D f c := by
  intro f
  induction f with
  | zero =>
    intro c h
    rw [fin_zero, decide_eq_true_eq] at h
    rw [expF_none h, expF_none h]
  | succ f ih =>
    intro c h
    by_cases hc : findL D c = []
    · rw [expF_none hc, expF_none hc]
    · rw [expF_some hc, expF_some hc]
      rw [fin_succ hc] at h
      exact flatMap_same (fun x hx => ih x (List.all_eq_true.1 h x hx))
theorem fin_up {D : List Mp} {f : Nat} {c : Int} (h : fin D f c = true) : ∀ g, f ≤ g → fin D g c = true ∧ expF D g c = expF D f c := by
  intro g hg
  induction g with
  | zero => obtain rfl : f = 0 := by omega
            exact ⟨h, rfl⟩
  | succ g ih =>
    rcases Nat.lt_or_ge g f with hlt | hge
    · obtain rfl : f = g + 1 := by omega
      exact ⟨h, rfl⟩
    · obtain ⟨h1, h2⟩ := ih hge
      have h3 := fin_more g c h1
      refine ⟨?_, h3.trans h2⟩
      unfold fin at h1 ⊢
      rw [h3]; exact h1

/-- A sum of sizes. -/
theorem sum_sizes (D : List Mp) (f : Nat) (hs : ∀ c, sizeF D f c = if fin D f c = true then min 19 (expF D f c).length else 19) (l : List Int) :
    min 19 ((l.map (sizeF D f)).sum) = if l.all (fin D f) = true then min 19 (l.flatMap (expF D f)).length else if l = [] then 0 else 19 := by
  induction l with
  | nil => simp
  | cons a r ih =>
    rw [List.map_cons, List.sum_cons, List.all_cons, List.flatMap_cons, List.length_append, hs a]
    cases ha : fin D f a
    · simp
    · simp only [if_true, Bool.true_and]
      cases hr : r.all (fin D f)
      · rw [hr] at ih
        simp only [Bool.false_eq_true, if_false] at ih ⊢
        by_cases hn : r = []
        · subst hn; simp at hr
        · rw [if_neg hn] at ih; simp; omega
      · rw [hr, if_pos rfl] at ih
        simp only [if_true]
        omega
theorem sizeF_eq (D : List Mp) : ∀ (f : Nat) (c : Int), sizeF D f c = if fin D f c = true then min 19 (expF D f c).length else 19 := by
  intro f
  induction f with
  | zero =>
    intro c
    rw [sizeF, fin_zero]
    by_cases h : findL D c = []
    · rw [if_pos h, if_pos (by simpa using h)]; rfl
    · rw [if_neg h, if_neg (by simpa using h)]
  | succ f ih =>
    intro c
    by_cases h : findL D c = []
    · rw [sizeF, if_pos h, fin_none h, if_pos rfl, expF_none h]; rfl
    · rw [sizeF, if_neg h, fin_succ h, expF_some h, sum_sizes D f ih]
      cases hA : (findL D c).all (fin D f)
      · simp [h]
      · simp
theorem sizeF_le {D : List Mp} {f : Nat} {c : Int} : sizeF D f c ≤ 18 ↔ fin D f c = true ∧ (expF D f c).length ≤ 18 := by
  rw [sizeF_eq]
  cases h : fin D f c
  · simp
  · simp; omega

/-- How many rows are final. -/
def cntF (D : List Mp) (f : Nat) : Nat := D.countP (fun m => fin D f m.1)
theorem countP_strict {α : Type} {p q : α → Bool} {l : List α} (h : ∀ x ∈ l, p x = true → q x = true) (he : ∃ x ∈ l, q x = true ∧ p x = false) : l.countP p + 1 ≤ l.countP q := by
  induction l with
  | nil => obtain ⟨x, hx, _⟩ := he; cases hx
  | cons a r ih =>
    rw [List.countP_cons, List.countP_cons]
    have hr : ∀ x ∈ r, p x = true → q x = true := fun x hx => h x (List.mem_cons_of_mem _ hx)
    obtain ⟨x, hx, h1, h2⟩ := he
    rcases List.mem_cons.1 hx with rfl | hx
    · rw [h1, h2]
      have := List.countP_mono_left hr
      simp; omega
    · have := ih hr ⟨x, hx, h1, h2⟩
      cases hp : p a
      · simp; split <;> omega
      · rw [h a List.mem_cons_self hp]; simp; omega
def stableAt (D : List Mp) (f : Nat) : Prop := ∀ c, fin D (f + 1) c = true → fin D f c = true
theorem stable_up {D : List Mp} {f : Nat} (h : stableAt D f) : ∀ g, f ≤ g → stableAt D g := by
  intro g hg
  induction g with
  | zero => obtain rfl : f = 0 := by omega
            exact h
  | succ g ih =>
    rcases Nat.lt_or_ge g f with hlt | hge
    · obtain rfl : f = g + 1 := by omega
      exact h
    · have h1 := ih hge
      intro c hc
      by_cases hn : findL D c = []
      · exact fin_none hn _
      · rw [fin_succ hn] at hc ⊢
        rw [List.all_eq_true] at hc ⊢
        exact fun x hx => h1 x (hc x hx)
theorem stable_fin {D : List Mp} {f : Nat} (h : stableAt D f) {c : Int} : ∀ g, fin D g c = true → fin D f c = true := by
  intro g
  induction g with
  | zero => intro hc; exact (fin_up hc f (Nat.zero_le _)).1
  | succ g ih =>
    intro hc
    rcases Nat.lt_or_ge g f with hlt | hge
    · exact (fin_up hc f hlt).1
    · exact ih (stable_up h g hge c hc)
theorem fin_key {D : List Mp} {c : Int} (h : findL D c ≠ []) : ∃ m ∈ D, m.1 = c := ⟨_, findL_mem h, rfl⟩
theorem stable_or (D : List Mp) : ∀ f, (∃ g, g < f ∧ stableAt D g) ∨ f ≤ cntF D f := by
  intro f
  induction f with
  | zero => exact .inr (Nat.zero_le _)
  | succ f ih =>
    rcases ih with ⟨g, hg, hs⟩ | ih
    · exact .inl ⟨g, by omega, hs⟩
    · by_cases hs : stableAt D f
      · exact .inl ⟨f, by omega, hs⟩
      · right
        have : ∃ c, fin D (f + 1) c = true ∧ fin D f c = false := by
          by_cases he : ∃ c, fin D (f + 1) c = true ∧ fin D f c = false
          · exact he
          · refine absurd (fun c hc => ?_) hs
            cases hx : fin D f c
            · exact absurd ⟨c, hc, hx⟩ he
            · rfl
        obtain ⟨c, h1, h2⟩ := this
        have hk : findL D c ≠ [] := fun h => by rw [fin_none h] at h2; cases h2
        obtain ⟨m, hm, rfl⟩ := fin_key hk
        have := countP_strict (p := fun m : Mp => fin D f m.1) (q := fun m : Mp => fin D (f + 1) m.1) (l := D) (fun x _ hx => (fin_up hx (f + 1) (by omega)).1) ⟨m, hm, h1, h2⟩
        unfold cntF at ih ⊢
        omega
/-- Whatever is final at all is final after as many rounds as there are rows. -/
theorem fin_len {D : List Mp} {g : Nat} {c : Int} (h : fin D g c = true) : fin D D.length c = true := by
  rcases stable_or D D.length with ⟨f, hf, hs⟩ | hc
  · exact (fin_up (stable_fin hs g h) D.length (by omega)).1
  · by_cases hn : findL D c = []
    · exact fin_none hn _
    · obtain ⟨m, hm, rfl⟩ := fin_key hn
      have he : D.countP (fun m => fin D D.length m.1) = D.length := Nat.le_antisymm List.countP_le_length hc
      exact List.countP_eq_length.1 he m hm

/-- One round of the reference. -/
def exp1 (D : List Mp) (l : List Int) : List Int := l.flatMap (fun x => if findL D x = [] then [x] else findL D x)
def fullF (D : List Mp) : Nat → List Int → Option (List Int)
  | 0, _ => none
  | n + 1, l => if doneB D l = true then some l else if 18 < (exp1 D l).length then none else fullF D n (exp1 D l)
theorem flatMap_exp1 (D : List Mp) (k : Nat) (l : List Int) : (exp1 D l).flatMap (expF D k) = l.flatMap (expF D (k + 1)) := by
  unfold exp1
  induction l with
  | nil => rfl
  | cons a r ih =>
    rw [List.flatMap_cons, List.flatMap_append, ih, List.flatMap_cons]
    congr 1
    by_cases h : findL D a = []
    · rw [if_pos h, expF_none h]; simp [expF_none h]
    · rw [if_neg h, expF_some h]
theorem flatMap_zero (D : List Mp) (l : List Int) : l.flatMap (expF D 0) = l := by
  induction l with
  | nil => rfl
  | cons a r ih => rw [List.flatMap_cons, ih]; rfl
theorem flatMap_done {D : List Mp} {l : List Int} (h : doneB D l = true) (k : Nat) : l.flatMap (expF D k) = l := by
  induction l with
  | nil => rfl
  | cons a r ih =>
    unfold doneB at h ih
    rw [List.all_cons, Bool.and_eq_true, decide_eq_true_eq] at h
    rw [List.flatMap_cons, ih h.2, expF_none h.1]; rfl
theorem flatMap_len (D : List Mp) (k : Nat) (l : List Int) : l.length ≤ (l.flatMap (expF D k)).length := by
  induction l with
  | nil => simp
  | cons a r ih =>
    have := length_pos_ne (expF_ne D k a)
    rw [List.flatMap_cons, List.length_append, List.length_cons]; omega
theorem fullF_of (D : List Mp) : ∀ (n k : Nat) (l : List Int), k < n → doneB D (l.flatMap (expF D k)) = true → (l.flatMap (expF D k)).length ≤ 18 → fullF D n l = some (l.flatMap (expF D k)) := by
  intro n
  induction n with
  | zero => intro k l h; omega
  | succ n ih =>
    intro k l hk hd hl
    rw [fullF]
    by_cases h : doneB D l = true
    · rw [if_pos h, flatMap_done h]
    · rw [if_neg h]
      cases k with
      | zero => rw [flatMap_zero] at hd; exact absurd hd h
      | succ k =>
        rw [← flatMap_exp1] at hd hl ⊢
        have := flatMap_len D k (exp1 D l)
        rw [if_neg (by omega)]
        exact ih k _ (by omega) hd hl
theorem fullF_some (D : List Mp) : ∀ (n : Nat) (l r : List Int), fullF D n l = some r → ∃ k, k < n ∧ r = l.flatMap (expF D k) ∧ doneB D r = true ∧ (l.length ≤ 18 → r.length ≤ 18) := by
  intro n
  induction n with
  | zero => intro l r h; cases h
  | succ n ih =>
    intro l r h
    rw [fullF] at h
    by_cases hd : doneB D l = true
    · rw [if_pos hd] at h; cases h
      exact ⟨0, by omega, (flatMap_zero D l).symm, hd, id⟩
    · rw [if_neg hd] at h
      by_cases hb : 18 < (exp1 D l).length
      · rw [if_pos hb] at h; cases h
      · rw [if_neg hb] at h
        obtain ⟨k, hk, he, h1, h2⟩ := ih _ _ h
        exact ⟨k + 1, by omega, by rw [← flatMap_exp1]; exact he, h1, fun _ => h2 (by omega)⟩
/-- The code's size and the reference's full decomposition agree. -/
theorem full_size {D : List Mp} (hD : D.length ≤ 256) (c : Int) :
    (sizeF D (D.length + 1) c ≤ 18 ∧ fullF D 257 [c] = some (expF D D.length c) ∧ fin D D.length c = true ∧ (expF D D.length c).length ≤ 18) ∨ (¬ sizeF D (D.length + 1) c ≤ 18 ∧ fullF D 257 [c] = none) := by
  have h1 : ∀ k, [c].flatMap (expF D k) = expF D k c := fun k => by simp
  by_cases h : sizeF D (D.length + 1) c ≤ 18
  · refine .inl ⟨h, ?_⟩
    obtain ⟨hf, hl⟩ := sizeF_le.1 h
    have hf' := fin_len hf
    obtain ⟨_, he⟩ := fin_up hf' (D.length + 1) (by omega)
    rw [he] at hl
    refine ⟨?_, hf', hl⟩
    have := fullF_of D 257 D.length [c] (by omega) (by rw [h1]; exact hf') (by rw [h1]; exact hl)
    rw [this, h1]
  · refine .inr ⟨h, ?_⟩
    cases hr : fullF D 257 [c] with
    | none => rfl
    | some r =>
      obtain ⟨k, hk, he, hd, hl⟩ := fullF_some D 257 [c] r hr
      rw [h1] at he
      subst he
      have hf := fin_len (g := k) (c := c) hd
      obtain ⟨hf1, he1⟩ := fin_up hf (D.length + 1) (by omega)
      refine absurd (sizeF_le.2 ⟨hf1, ?_⟩) h
      have hk2 := hl (by simp)
      rcases Nat.le_total k (D.length + 1) with hle | hle
      · rw [(fin_up (f := k) hd (D.length + 1) hle).2]; exact hk2
      · rw [← (fin_up hf1 k hle).2]; exact hk2
end ND
/-
  Plain mathematics of chapter 4, third part: the nine rules. No program in sight.
-/
namespace ND
open Go

def blocksL : List Sp := [(0, 127, 0), (4352, 4370, 0), (4449, 4469, 0), (4520, 4546, 0), (44032, 55203, 0), (55296, 57343, 0)]
def refBlocks : List (Int × Int) := [(0, 127), (55296, 57343), (44032, 55203), (4352, 4370), (4449, 4469), (4520, 4546)]
/-- A span has no code point in common with a block. -/
def apartB (f t lo hi : Int) : Bool := !decide (f ≤ hi ∧ lo ≤ t)
def outB (f t : Int) : Bool := blocksL.all (fun b => apartB f t b.1 b.2.1)
theorem outB_ref (f t : Int) : refBlocks.all (fun b => apartB f t b.1 b.2) = outB f t := by
  unfold outB refBlocks blocksL
  simp only [List.all_cons, List.all_nil]
  generalize apartB f t 0 127 = a1
  generalize apartB f t 55296 57343 = a2
  generalize apartB f t 44032 55203 = a3
  generalize apartB f t 4352 4370 = a4
  generalize apartB f t 4449 4469 = a5
  generalize apartB f t 4520 4546 = a6
  cases a1 <;> cases a2 <;> cases a3 <;> cases a4 <;> cases a5 <;> cases a6 <;> rfl
theorem apart_ways (f t lo hi : Int) : (apartB f t lo hi = true ∧ decide (f ≤ hi) = false) ∨ (apartB f t lo hi = true ∧ decide (f ≤ hi) = true ∧ decide (lo ≤ t) = false) ∨ (apartB f t lo hi = false ∧ decide (f ≤ hi) = true ∧ decide (lo ≤ t) = true) := by
  unfold apartB
  simp only [Bool.not_eq_true', Bool.not_eq_false', decide_eq_true_eq, decide_eq_false_iff_not]
  omega
theorem outB_res {f t c : Int} (h : outB f t = true) (h1 : f ≤ c) (h2 : c ≤ t) : resB c = false := by
  unfold outB blocksL apartB at h
  simp only [List.all_cons, List.all_nil, Bool.and_eq_true, Bool.not_eq_true', decide_eq_false_iff_not] at h
  rw [resB_not]
  obtain ⟨a1, a2, a3, a4, a5, a6, _⟩ := h
  omega
theorem outB_one {c : Int} (h : resB c = false) : outB c c = true := by
  rw [resB_not] at h
  unfold outB blocksL apartB
  simp only [List.all_cons, List.all_nil, Bool.and_eq_true, Bool.not_eq_true', decide_eq_false_iff_not, Bool.and_true]
  refine ⟨?_, ?_, ?_, ?_, ?_, ?_⟩ <;> omega

/-- What a key may be behind another one; p: a letter, a digit or a hyphen may be one, too. -/
def keyOk (p : Bool) (last c : Int) : Bool := decide (last < c ∧ c ≤ 1114111) && (!resB c || (p && nameB c))
def keysB (p : Bool) : Int → List Int → Bool
  | _, [] => true
  | last, c :: r => keyOk p last c && keysB p c r
/-- Script numbers that ascend. -/
def scrG : Int → List Int → Bool
  | _, [] => true
  | last, s :: r => decide (3 ≤ s ∧ s ≤ 60 ∧ last < s) && scrG s r
def toB (x : Bool) (m : Mp) : Bool := decide (1 ≤ m.2.length ∧ m.2.length ≤ 18) && (if x then scrG 2 m.2 else m.2.all scalarB)
/-- How many code points have the status Mapped. -/
def mapCount : List Sp → Int
  | [] => 0
  | s :: r => (if s.2.2 = 3 then s.2.1 - s.1 + 1 else 0) + mapCount r
def okStat (s : Int) : Bool := decide (s = 1 ∨ s = 4)

def Tab.cols (T : Tab) : List (List Sp × Int × Int) := [(T.category, 0, 8), (T.cls, 1, 254), (T.joining, 0, 5), (T.bidi, 0, 11), (T.script, 0, 60), (T.status, 0, 4), (T.ignorable, 1, 1)]
def Tab.mps (T : Tab) : List (List Mp) := [T.extensions, T.maps, T.decomps, T.prototypes]
def keysOf (l : List Mp) : List Int := l.map (·.1)
def colOk (l : List Sp) : Bool := checkS l 0 1114111 && l.all (fun s => outB s.1 s.2.1)
def valsOk (c : List Sp × Int × Int) : Bool := c.1.all (fun s => decide (c.2.1 ≤ s.2.2 ∧ s.2.2 ≤ c.2.2))

def Tab.rule1 (T : Tab) : Bool := decide (T.excluded.length ≤ 256) && (T.cols.all (fun c => decide (c.1.length ≤ 256)) && T.mps.all (fun m => decide (m.length ≤ 256)))
def Tab.rule2m (T : Tab) : Bool := keysB false (-1) (keysOf T.extensions) && (keysB false (-1) (keysOf T.maps) && (keysB false (-1) (keysOf T.decomps) && keysB true (-1) (keysOf T.prototypes)))
def Tab.rule2 (T : Tab) : Bool := T.cols.all (fun c => colOk c.1) && (T.rule2m && keysB false (-1) T.excluded)
def Tab.rule3 (T : Tab) : Bool := T.cols.all valsOk
def Tab.rule4 (T : Tab) : Bool := T.extensions.all (toB true) && (T.maps.all (toB false) && (T.decomps.all (toB false) && T.prototypes.all (toB false)))
def Tab.mapOk (T : Tab) (m : Mp) : Bool := decide (T.statusOf m.1 = 3) && m.2.all (fun c => okStat (T.statusOf c))
def Tab.rule5 (T : Tab) : Bool := decide (mapCount T.status = (T.maps.length : Int)) && T.maps.all T.mapOk
def decEl (c : Int) : Bool := !(decide (c = 46) || sylB c || jamoB c)
def decOk (m : Mp) : Bool := decide (m.2.length ≤ 2) && m.2.all decEl
def Tab.szOk (T : Tab) (m : Mp) : Bool := decide (sizeF T.decomps (T.decomps.length + 1) m.1 ≤ 18)
def Tab.rule6 (T : Tab) : Bool := T.decomps.all decOk && T.decomps.all T.szOk
def Tab.exOk (T : Tab) (c : Int) : Bool := decide (findL T.decomps c ≠ [])
def Tab.rule7 (T : Tab) : Bool := T.excluded.all T.exOk

/-- The last code point of a full decomposition. -/
def lastF (D : List Mp) (f : Nat) (c : Int) : Int := (expF D f c).getLastD 0
/-- Whether a decomposition is composable: f rounds deep. -/
def Tab.compF (T : Tab) : Nat → Int → Bool
  | 0, _ => false
  | f + 1, c => match findL T.decomps c with
    | [a, b] => !T.excB c && (decide (T.classOf c = 0) && (decide (T.classOf a = 0) && (decide (findL T.decomps b = []) &&
        ((decide (findL T.decomps a = []) || T.compF f a) && (decide (T.classOf b = 0) || decide (T.classOf (lastF T.decomps f a) ≤ T.classOf b))))))
    | _ => false
def Tab.comp (T : Tab) (c : Int) : Bool := T.compF T.decomps.length c
/-- The sequences of the composable decompositions. -/
def Tab.pairs (T : Tab) : List (List Int) := (T.decomps.filter (fun m => T.comp m.1)).map (·.2)
def Tab.rule8 (T : Tab) : Bool := decide T.pairs.Nodup
def Tab.plainB (T : Tab) (c : Int) : Bool := decide (findL T.decomps c = []) && !T.ignB c
def Tab.protoEl (T : Tab) (c : Int) : Bool := T.plainB c && (!sylB c && decide (findL T.prototypes c = []))
def Tab.protoOk (T : Tab) (m : Mp) : Bool := T.plainB m.1 && m.2.all T.protoEl
def Tab.rule9 (T : Tab) : Bool := T.prototypes.all T.protoOk

def Tab.check (T : Tab) : Int :=
  if T.rule1 = false then 1 else if T.rule2 = false then 2 else if T.rule3 = false then 3 else if T.rule4 = false then 4 else if T.rule5 = false then 5
  else if T.rule6 = false then 6 else if T.rule7 = false then 7 else if T.rule8 = false then 8 else if T.rule9 = false then 9 else 0

theorem keysB_at {p : Bool} {l : List Int} : ∀ {last : Int}, keysB p last l = true → ∀ c ∈ l, last < c ∧ c ≤ 1114111 ∧ (resB c = false ∨ p = true ∧ nameB c = true) := by
  induction l with
  | nil => intro last _ c h; cases h
  | cons a r ih =>
    intro last h c hc
    rw [keysB, Bool.and_eq_true] at h
    obtain ⟨h1, h2⟩ := h
    unfold keyOk at h1
    simp only [Bool.and_eq_true, decide_eq_true_eq, Bool.or_eq_true, Bool.not_eq_true'] at h1
    rcases List.mem_cons.1 hc with rfl | hc
    · exact ⟨h1.1.1, h1.1.2, h1.2⟩
    · have := ih h2 c hc
      exact ⟨by omega, this.2⟩
theorem keysB_sort {p : Bool} {l : List Mp} : ∀ {last : Int}, keysB p last (keysOf l) = true → sortM l := by
  induction l with
  | nil => intro last _ i j a b _ h; simp at h
  | cons m r ih =>
    intro last h i j a b hij ha hb
    unfold keysOf at h
    rw [List.map_cons, keysB, Bool.and_eq_true] at h
    obtain ⟨h1, h2⟩ := h
    cases j with
    | zero => omega
    | succ j =>
      have hb' : r[j]? = some b := by simpa using hb
      cases i with
      | zero =>
        simp at ha; subst ha
        exact (keysB_at h2 b.1 (List.mem_map_of_mem (List.mem_of_getElem? hb'))).1
      | succ i => exact ih h2 i j a b (by omega) (by simpa using ha) hb'

/-- What the first rules say. -/
structure Shape (T : Tab) : Prop where
  len : ∀ c ∈ T.cols, c.1.length ≤ 256
  lenM : ∀ m ∈ T.mps, m.length ≤ 256
  lenX : T.excluded.length ≤ 256
  col : ∀ c ∈ T.cols, colOk c.1 = true
  kx : keysB false (-1) (keysOf T.extensions) = true
  km : keysB false (-1) (keysOf T.maps) = true
  kd : keysB false (-1) (keysOf T.decomps) = true
  kp : keysB true (-1) (keysOf T.prototypes) = true
  ke : keysB false (-1) T.excluded = true
theorem Shape.of {T : Tab} (h1 : T.rule1 = true) (h2 : T.rule2 = true) : Shape T := by
  unfold Tab.rule1 at h1
  unfold Tab.rule2 Tab.rule2m at h2
  simp only [Bool.and_eq_true, decide_eq_true_eq, List.all_eq_true] at h1 h2
  exact ⟨h1.2.1, h1.2.2, h1.1, h2.1, h2.2.1.1, h2.2.1.2.1, h2.2.1.2.2.1, h2.2.1.2.2.2, h2.2.2⟩
def GoodS (l : List Sp) : Prop := okS 0 1114111 (-1) l = true ∧ l.length ≤ 256 ∧ ∀ s ∈ l, outB s.1 s.2.1 = true
section
variable {T : Tab}
theorem Shape.ok (h : Shape T) {l : List Sp} {a b : Int} (hm : (l, a, b) ∈ T.cols) : GoodS l := by
  have h1 := h.col _ hm
  unfold colOk checkS at h1
  simp only [Bool.and_eq_true, decide_eq_true_eq, List.all_eq_true] at h1
  exact ⟨h1.1.1, h1.1.2, h1.2⟩
theorem Shape.c0 (h : Shape T) : GoodS T.category := h.ok (l := T.category) (a := 0) (b := 8) (by simp [Tab.cols])
theorem Shape.c1 (h : Shape T) : GoodS T.cls := h.ok (l := T.cls) (a := 1) (b := 254) (by simp [Tab.cols])
theorem Shape.c2 (h : Shape T) : GoodS T.joining := h.ok (l := T.joining) (a := 0) (b := 5) (by simp [Tab.cols])
theorem Shape.c3 (h : Shape T) : GoodS T.bidi := h.ok (l := T.bidi) (a := 0) (b := 11) (by simp [Tab.cols])
theorem Shape.c4 (h : Shape T) : GoodS T.script := h.ok (l := T.script) (a := 0) (b := 60) (by simp [Tab.cols])
theorem Shape.c5 (h : Shape T) : GoodS T.status := h.ok (l := T.status) (a := 0) (b := 4) (by simp [Tab.cols])
theorem Shape.c6 (h : Shape T) : GoodS T.ignorable := h.ok (l := T.ignorable) (a := 1) (b := 1) (by simp [Tab.cols])
theorem Shape.lx (h : Shape T) : T.extensions.length ≤ 256 := h.lenM _ (by simp [Tab.mps])
theorem Shape.lm (h : Shape T) : T.maps.length ≤ 256 := h.lenM _ (by simp [Tab.mps])
theorem Shape.ld (h : Shape T) : T.decomps.length ≤ 256 := h.lenM _ (by simp [Tab.mps])
theorem Shape.lp (h : Shape T) : T.prototypes.length ≤ 256 := h.lenM _ (by simp [Tab.mps])
end
theorem toB_iff {x : Bool} {m : Mp} : toB x m = true ↔ 1 ≤ m.2.length ∧ m.2.length ≤ 18 ∧ (if x then scrG 2 m.2 else m.2.all scalarB) = true := by
  unfold toB
  simp only [Bool.and_eq_true, decide_eq_true_eq, and_assoc]
theorem toB_ne {x : Bool} {l : List Mp} (h : l.all (toB x) = true) : ∀ m ∈ l, m.2 ≠ [] ∧ m.2.length ≤ 1000 := by
  intro m hm
  have := toB_iff.1 (List.all_eq_true.1 h m hm)
  exact ⟨fun e => by rw [e] at this; simp at this, by omega⟩
/-- What the fourth rule says. -/
structure Sized (T : Tab) : Prop where
  nx : ∀ m ∈ T.extensions, m.2 ≠ [] ∧ m.2.length ≤ 1000
  nm : ∀ m ∈ T.maps, m.2 ≠ [] ∧ m.2.length ≤ 1000
  nd : ∀ m ∈ T.decomps, m.2 ≠ [] ∧ m.2.length ≤ 1000
  np : ∀ m ∈ T.prototypes, m.2 ≠ [] ∧ m.2.length ≤ 1000
theorem Sized.of {T : Tab} (h : T.rule4 = true) : Sized T := by
  unfold Tab.rule4 at h
  simp only [Bool.and_eq_true] at h
  exact ⟨toB_ne h.1, toB_ne h.2.1, toB_ne h.2.2.1, toB_ne h.2.2.2⟩

/-- A value outside all spans. -/
theorem value_out {l : List Sp} {c : Int} (h : ∀ s ∈ l, ¬(s.1 ≤ c ∧ c ≤ s.2.1)) : valueL l c = 0 :=
  valueL_no fun _ _ hi => h _ (List.mem_of_getElem? hi)
theorem value_res {l : List Sp} {c : Int} (h : ∀ s ∈ l, outB s.1 s.2.1 = true) (hr : resB c = true) : valueL l c = 0 :=
  value_out fun s hs ⟨h1, h2⟩ => by rw [outB_res (h s hs) h1 h2] at hr; cases hr
theorem value_range {l : List Sp} {c : Int} (h : okS 0 1114111 (-1) l = true) (hc : c < 0 ∨ 1114111 < c) : valueL l c = 0 :=
  valueL_no fun _ _ hi => by have := okS_el h hi; omega
theorem lenC_zero {c : Int} : lenC c = 0 ↔ scalarB c = false := by
  unfold lenC
  cases h : scalarB c
  · simp
  · simp only [if_true]
    constructor
    · intro h
      split at h
      · cases h
      · split at h
        · cases h
        · split at h <;> cases h
    · intro h; cases h
/-- A property that is read as the reference reads it. -/
theorem propL_ref {l : List Sp} {own c : Int} (h1 : okS 0 1114111 (-1) l = true) (h2 : ∀ s ∈ l, outB s.1 s.2.1 = true) :
    propL l own c = if resB c = true ∧ surB c = false then own else valueL l c := by
  unfold propL
  by_cases hs : scalarB c = true
  · have h0 : lenC c ≠ 0 := fun e => by rw [lenC_zero, hs] at e; cases e
    have hu : surB c = false := by
      rw [scalarB_iff] at hs
      unfold surB
      rw [decide_eq_false_iff_not]; omega
    rw [if_neg h0]
    by_cases hr : resB c = true
    · rw [if_pos hr, if_pos ⟨hr, hu⟩]
    · rw [if_neg hr, if_neg (fun h => hr h.1)]
  · have hs' : scalarB c = false := by simpa using hs
    rw [if_pos (lenC_zero.2 hs')]
    rw [scalarB_not] at hs'
    rw [if_neg]
    · rcases hs' with h | h | h
      · exact (value_range h1 (.inl h)).symm
      · exact (value_range h1 (.inr h)).symm
      · exact (value_res h2 ((resB_iff c).2 (by omega))).symm
    · rintro ⟨h3, h4⟩
      rw [resB_iff] at h3
      unfold surB at h4
      rw [decide_eq_false_iff_not] at h4
      omega
end ND
