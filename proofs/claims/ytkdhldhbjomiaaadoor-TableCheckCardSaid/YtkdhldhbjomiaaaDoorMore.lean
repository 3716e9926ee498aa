/-
  Small lemmas that many texts use: results, lists, cells, rows of the call's own.
-/
import Derived.Test.YtkdhldhbjomiaaaDoorMem
import Derived.Test.YtkdhldhbjomiaaaDoorSpans
import Derived.Test.YtkdhldhbjomiaaaDoorProg
namespace Go.Proofs.YtkdhldhbjomiaaaDoor
open Go.RowKit

theorem ret_bool {a b : Bool} (h : a = b) : Ending.returned (.bool a) = .returned (.bool b) := by rw [h]
theorem ret_int {k : IntKind} {a b : Int} (h : a = b) : Ending.returned (.int k a) = .returned (.int k b) := by rw [h]
theorem ret_int2 {k l : IntKind} {a b c d : Int} (h : a = b) (h' : c = d) : Ending.returned (.tuple #[.int k a, .int l c]) = .returned (.tuple #[.int k b, .int l d]) := by rw [h, h']
theorem bool_eq {a b : Bool} (h : a = true ↔ b = true) : a = b := Bool.eq_iff_iff.2 h
theorem drop_of_get {α : Type} {xs : List α} {k : Nat} {x : α} (h : xs[k]? = some x) : xs.drop k = x :: xs.drop (k + 1) := by
  obtain ⟨a, a'⟩ := List.getElem?_eq_some_iff.1 h
  rw [List.drop_eq_getElem_cons a, a']
theorem sz_list (s : ByteArray) : s.data.toList.length = s.size := by rw [Array.length_toList]; rfl
theorem all_no {α : Type} {f : α → Bool} {xs : List α} {k : Nat} {x : α} (hx : xs[k]? = some x) (h : (xs.drop k).all f = xs.all f) (hf : f x = false) : xs.all f = false := by
  rw [← h, drop_of_get hx]; simp [hf]
theorem all_yes {α : Type} {f : α → Bool} {xs : List α} {k : Nat} {x : α} (hx : xs[k]? = some x) (h : (xs.drop k).all f = xs.all f) (hf : f x = true) : (xs.drop (k + 1)).all f = xs.all f := by
  rw [← h, drop_of_get hx]; simp [hf]
theorem all_end {α : Type} {f : α → Bool} {xs : List α} {k : Nat} (hk : xs.length ≤ k) (h : (xs.drop k).all f = xs.all f) : xs.all f = true := by
  rw [← h, List.drop_eq_nil_of_le hk]; rfl
theorem Tryd.infoInt' : (Tryd.prog.info? 3).map (fun i => (i.zero, i.size, i.bytes)) = some (some (.int .i64 0), 1, 8) := by kernel_rfl
theorem Blk.at_ {w : World} {g : Nat} {t : TypeId} {cs : Array Value} {i : Nat} {u : Value} (h : Blk w g t cs) (hu : cs[i]? = some u) : w.cell? ⟨g, i, none⟩ = some u := (h.cell i).trans hu
theorem get_el {α : Type} {xs : List α} {k : Nat} (h : k < xs.length) : ∃ x, xs[k]? = some x ∧ x ∈ xs := ⟨xs[k], List.getElem?_eq_getElem h, List.getElem_mem h⟩
theorem add_mid (a : Addr) (i j : Nat) (h : j ≠ 0) : a.add (i + j) = { block := (a.add i).block, off := (a.add i).off + j, spot := none } := by
  rw [← add_of_add, Addr.add, if_neg h]
/-- The three cells of a span, as a load of the whole has them. -/
theorem span_cells {w wr : World} {ad : Addr} {k : Nat} {B : Nat} {x y z : Value} (hb : Below B w wr) (ha : ad.block < B) (d0 : w.cell? (ad.add (k * 3)) = some x) (d1 : w.cell? (ad.add (k * 3 + 1)) = some y) (d2 : w.cell? (ad.add (k * 3 + 2)) = some z) :
    wr.cell? (ad.add (k * 3)) = some x ∧ wr.cell? { block := (ad.add (k * 3)).block, off := (ad.add (k * 3)).off + 1, spot := none } = some y ∧ wr.cell? { block := (ad.add (k * 3)).block, off := (ad.add (k * 3)).off + 2, spot := none } = some z := by
  refine ⟨(hb.cell (p := ad.add (k * 3)) (by rw [block_of_add]; exact ha)).trans d0, ?_, ?_⟩
  · rw [← add_mid _ _ _ (by decide)]; exact (hb.cell (p := ad.add (k * 3 + 1)) (by rw [block_of_add]; exact ha)).trans d1
  · rw [← add_mid _ _ _ (by decide)]; exact (hb.cell (p := ad.add (k * 3 + 2)) (by rw [block_of_add]; exact ha)).trans d2
theorem grown_trans {a b c : World} {row : Option Nat} (h : a.grownBy b row) (k : b.grownBy c row) : a.grownBy c row :=
  ⟨k.os.trans h.os, k.tape.trans h.tape, k.output.trans h.output, Nat.le_trans h.size k.size, fun j hj hne => (k.block j (Nat.lt_of_lt_of_le hj h.size) hne).trans (h.block j hj hne)⟩
theorem grown_alloc (w : World) (o : Obj) (row : Option Nat) : w.grownBy (w.alloc o) row :=
  ⟨rfl, rfl, rfl, by simp, fun j hj _ => Below.heap_alloc w o j hj⟩
theorem Ints.grown {w w' : World} {g : Nat} {k : IntKind} {v : Value} {xs : List Int} (h : Ints w g k v xs) (hg : w.grownBy w' (some g)) (hlt : g < w.heap.size) : Ints w' g k v xs :=
  h.keep fun p hp => World.cell?_of_block (w := w) (hg.block p.block (by omega) (by intro e; cases e; omega))
theorem cell_kept {w w' : World} {g : Nat} {l : List Value} (b : Nat) (h : ∀ j u, l[j]? = some u → w.cell? ((⟨b, 0, none⟩ : Addr).add j) = some u) (hg : w.grownBy w' (some g)) (hb : b < w.heap.size) (hne : b ≠ g) (j : Nat) (u : Value) (hu : l[j]? = some u) : w'.cell? ⟨b, j, none⟩ = some u := by
  have h1 := h j u hu
  have hadd : (⟨b, 0, none⟩ : Addr).add j = ⟨b, j, none⟩ := by unfold Addr.add; split <;> simp_all
  rw [hadd] at h1
  exact (World.cell?_of_block (w := w) (a := ⟨b, j, none⟩) (hg.block b hb (by intro e; cases e; exact hne rfl))).trans h1
theorem Ints.grownB {w w' : World} {B : Nat} {k : IntKind} {v : Value} {xs : List Int} {row : Option Nat} (h : Ints w B k v xs) (hg : w.grownBy w' row) (hB : B ≤ w.heap.size) (hr : ∀ g, row = some g → B ≤ g) : Ints w' B k v xs :=
  h.keep fun p hp => World.cell?_of_block (hg.block p.block (by omega) (fun e => by have := hr _ e.symm; omega))
theorem below_own {a w w' : World} {e : TypeId} {size : Nat} {v : Value} {n : Nat} {xs : List Value} (hb : Below a.heap.size a w) (hown : w.ownsRow a.heap.size e size v n xs) {o : Obj} (hg : (w.alloc o).grownBy w' v.ownBlock) : Below a.heap.size a w' :=
  (hb.alloc hb.size _).grown hg (by have := hb.size; simp; omega) (fun k hk => (hown.lt k hk).1)
theorem Tryd.infoSpan : (Tryd.prog.info? 64).map (fun i => (i.zero, i.size, i.bytes)) = some (some (.agg #[.int .i64 0, .int .i64 0, .int .i64 0]), 3, 24) := by kernel_rfl
theorem spans_snoc (acc : List (Int × Int × Int)) (x : Int × Int × Int) : (acc ++ [x]).flatMap spCells = acc.flatMap spCells ++ spCells x := by simp
end Go.Proofs.YtkdhldhbjomiaaaDoor
