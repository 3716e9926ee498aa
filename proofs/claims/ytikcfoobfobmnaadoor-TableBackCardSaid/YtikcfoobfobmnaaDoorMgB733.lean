/-
  Merged texts: lemmas and walks that the last text of this claim leans on.
-/
import Derived.Test.YtikcfoobfobmnaaDoorMgB732
import Derived.Test.YtikcfoobfobmnaaDoorMgB75
import Derived.Test.YtikcfoobfobmnaaDoorMgB73
import Derived.Test.YtikcfoobfobmnaaDoorMgB71
import Derived.Test.YtikcfoobfobmnaaDoorMgB729
import Derived.Test.YtikcfoobfobmnaaDoorMgB730
import Derived.Test.YtikcfoobfobmnaaDoorMgB74
/-
  Literals of spans and of mappings, as they lie in memory.
-/
namespace Go.Proofs.YtikcfoobfobmnaaDoor
open Go.RowKit ND

theorem lit_i (w : World) (xs : List Int) (hl : xs.length ≤ 1000000) : Ints (w.alloc (.cells (xs.map (Value.int .i64)).toArray 3)) (w.alloc (.cells (xs.map (Value.int .i64)).toArray 3)).heap.size .i64 (.slice (some ⟨w.heap.size, 0, none⟩) xs.length xs.length) xs :=
  Ints.of_own (own_new w 3 xs hl)
/-- One span. -/
theorem lit_span (w : World) (a b c : Int) : Spans (w.alloc (.cells #[.int .i64 a, .int .i64 b, .int .i64 c] 46)) (w.alloc (.cells #[.int .i64 a, .int .i64 b, .int .i64 c] 46)).heap.size (.slice (some ⟨w.heap.size, 0, none⟩) 1 1) [(a, b, c)] := by
  have h := cells_new w [.int .i64 a, .int .i64 b, .int .i64 c] 46
  refine ⟨_, _, rfl, Nat.le_refl _, by unfold maxLen; omega, (by simp), fun i x hi => ?_⟩
  cases i with
  | zero =>
    simp at hi; subst hi
    exact ⟨_, rfl, by simp, h 0 _ rfl, h 1 _ rfl, h 2 _ rfl⟩
  | succ i => simp at hi
/-- One mapping. -/
theorem lit_map (w : World) (a : Int) (v : Value) (xs : List Int) (hv : Ints w w.heap.size .i64 v xs) : Mapps (w.alloc (.cells #[.int .i64 a, v] 53)) (w.alloc (.cells #[.int .i64 a, v] 53)).heap.size (.slice (some ⟨w.heap.size, 0, none⟩) 1 1) [(a, xs)] := by
  have h := cells_new w [.int .i64 a, v] 53
  have hb : Below w.heap.size w (w.alloc (.cells #[.int .i64 a, v] 53)) := (Below.refl _ _).alloc (Nat.le_refl _) _
  refine ⟨_, _, rfl, Nat.le_refl _, by unfold maxLen; omega, (by simp), fun i x hi => ?_⟩
  cases i with
  | zero =>
    simp at hi; subst hi
    exact ⟨_, v, rfl, by simp, h 0 _ rfl, h 1 _ rfl, hv.later hb⟩
  | succ i => simp at hi
/-- Two mappings. -/
theorem lit_map2 (w : World) (a : Int) (v : Value) (xs : List Int) (a' : Int) (v' : Value) (xs' : List Int) (hv : Ints w w.heap.size .i64 v xs) (hv' : Ints w w.heap.size .i64 v' xs') : Mapps (w.alloc (.cells #[.int .i64 a, v, .int .i64 a', v'] 53)) (w.alloc (.cells #[.int .i64 a, v, .int .i64 a', v'] 53)).heap.size (.slice (some ⟨w.heap.size, 0, none⟩) 2 2) [(a, xs), (a', xs')] := by
  have h := cells_new w [.int .i64 a, v, .int .i64 a', v'] 53
  have hb : Below w.heap.size w (w.alloc (.cells #[.int .i64 a, v, .int .i64 a', v'] 53)) := (Below.refl _ _).alloc (Nat.le_refl _) _
  refine ⟨_, _, rfl, Nat.le_refl _, by unfold maxLen; omega, (by simp), fun i x hi => ?_⟩
  match i, hi with
  | 0, hi =>
    simp at hi; subst hi
    exact ⟨_, v, rfl, by simp, h 0 _ rfl, h 1 _ rfl, hv.later hb⟩
  | 1, hi =>
    simp at hi; subst hi
    exact ⟨_, v', rfl, by simp, h 2 _ rfl, h 3 _ rfl, hv'.later hb⟩
  | i + 2, hi => simp at hi
end Go.Proofs.YtikcfoobfobmnaaDoor
/-
  Below, whatever name the size of the first heap bears.
-/
namespace Go.Proofs.YtikcfoobfobmnaaDoor
open Go.RowKit
theorem below_w {a b c : World} {B : Nat} (h : Below a.heap.size a b) (k : Below b.heap.size b c) (hB : B = a.heap.size := by first | rfl | omega) : Below B a c := hB ▸ below_next h k
end Go.Proofs.YtikcfoobfobmnaaDoor
/-
  The encoding of tables, in plain Lean.
-/
namespace Go.Proofs.YtikcfoobfobmnaaDoor
open Go.RowKit ND

def encCols (s : List UInt8) (l : List (List Sp)) : List UInt8 := l.foldl (fun s xs => (putSpans s xs).1) s
def encRow (s : List UInt8) (m : Mp) : List UInt8 := (putList (putInt s m.1) m.2).1
def encMp (s : List UInt8) (ms : List Mp) : List UInt8 := ms.foldl encRow (putInt s ms.length)
def encMps (s : List UInt8) (l : List (List Mp)) : List UInt8 := l.foldl encMp s
def magicL : List UInt8 := [78, 68, 84, 49]
def encCol (T : Tab) : List UInt8 := encCols magicL (T.cols.map (·.1))
def encBody (T : Tab) : List UInt8 := (putList (encMps (encCol T) T.mps) T.excluded).1
def encAllT (T : Tab) : List UInt8 := putInt (encBody T) (sumL (encBody T))
/-- What Encode hands back. -/
def encTR (T : Tab) : List UInt8 × Int := if T.check ≠ 0 then ([], 2) else if 32768 < (encAllT T).length then ([], 7) else (encAllT T, 0)
theorem encTR_bad {T : Tab} (h : T.check ≠ 0) : encTR T = ([], 2) := by unfold encTR; rw [if_pos h]
theorem encTR_full {T : Tab} (h : T.check = 0) (h2 : 32768 < (encAllT T).length) : encTR T = ([], 7) := by unfold encTR; rw [if_neg (by omega), if_pos h2]
theorem encTR_ok {T : Tab} (h : T.check = 0) (h2 : (encAllT T).length ≤ 32768) : encTR T = (encAllT T, 0) := by unfold encTR; rw [if_neg (by omega), if_neg (by omega)]

theorem putAll_lenT (xs : List Int) : ∀ b : List UInt8, (putAll b xs).length ≤ b.length + 10 * xs.length := by
  induction xs with
  | nil => intro b; simp [putAll]
  | cons x r ih =>
    intro b
    have h1 := ih (putInt b x)
    have h2 := putInt_len b x
    rw [List.length_cons]
    show (putAll (putInt b x) r).length ≤ _
    omega
theorem putList_lenT (b : List UInt8) (xs : List Int) : (putList b xs).1.length ≤ b.length + 10 * min xs.length 4096 + 10 := by
  by_cases h1 : 4096 < xs.length
  · rw [putList_full h1]; simp
  · cases h2 : xs.all fitsB
    · rw [putList_range (by omega) h2]; simp
    · rw [putList_ok (by omega) h2]
      have h3 := putAll_lenT (diffs 0 xs) (putInt b xs.length)
      have h4 := putInt_len b xs.length
      have h5 : ∀ (l : List Int) (k : Int), (diffs k l).length = l.length := by
        intro l
        induction l with
        | nil => intro k; rfl
        | cons x r ih => intro k; rw [diffs, List.length_cons, List.length_cons, ih]
      rw [h5] at h3
      show (putAll _ _).length ≤ _
      omega
theorem putSpans_lenT (b : List UInt8) (xs : List Sp) : (putSpans b xs).1.length ≤ b.length + 30 * min xs.length 256 + 10 := by
  cases h1 : checkS xs 0 1114111
  · rw [putSpans_arg h1]; simp
  · have hl := (checkS_all h1).1
    cases h2 : xs.all (fun s => fitsB s.2.2)
    · rw [putSpans_range h1 h2]; simp
    · rw [putSpans_ok h1 h2]
      have h3 := putAll_lenT (nums 0 xs) (putInt b xs.length)
      have h4 := putInt_len b xs.length
      have h5 : ∀ (l : List Sp) (k : Int), (nums k l).length = 3 * l.length := by
        intro l
        induction l with
        | nil => intro k; rfl
        | cons x r ih =>
          intro k
          obtain ⟨f, t, v⟩ := x
          rw [nums]
          simp only [List.length_cons, ih]; omega
      rw [h5] at h3
      show (putAll _ _).length ≤ _
      omega
theorem encRow_len (s : List UInt8) (m : Mp) : (encRow s m).length ≤ s.length + 41010 := by
  have h1 := putList_lenT (putInt s m.1) m.2
  have h2 := putInt_len s m.1
  unfold encRow; omega
theorem foldl_snoc {α β : Type} {f : β → α → β} {l : List α} {k : Nat} {x : α} (h : l[k]? = some x) (b : β) : (l.take (k + 1)).foldl f b = f ((l.take k).foldl f b) x := by
  obtain ⟨h1, e⟩ := List.getElem?_eq_some_iff.1 h
  rw [List.take_succ_eq_append_getElem h1, List.foldl_append, e]; rfl
theorem rows_len (ms : List Mp) (s : List UInt8) : (ms.foldl encRow s).length ≤ s.length + 41010 * ms.length := by
  induction ms generalizing s with
  | nil => simp
  | cons m r ih =>
    have h1 := ih (encRow s m)
    have h2 := encRow_len s m
    rw [List.foldl_cons, List.length_cons]; omega
theorem encMp_len (s : List UInt8) {ms : List Mp} (h : ms.length ≤ 256) : (encMp s ms).length ≤ s.length + 10498570 := by
  have h1 := rows_len ms (putInt s ms.length)
  have h2 := putInt_len s ms.length
  have h3 : 41010 * ms.length ≤ 41010 * 256 := Nat.mul_le_mul_left _ h
  unfold encMp; omega
theorem encCols_step {T : Tab} {k : Nat} {l : List Sp} {lo hi : Int} {s : List UInt8} (h : T.cols[k]? = some (l, lo, hi)) : encCols s ((T.cols.take (k + 1)).map (·.1)) = (putSpans (encCols s ((T.cols.take k).map (·.1))) l).1 := by
  unfold encCols
  rw [List.map_take, List.map_take]
  exact foldl_snoc (by rw [List.getElem?_map, h]; rfl) s
theorem encMps_step {T : Tab} {k : Nat} {ms : List Mp} {s : List UInt8} (h : T.mps[k]? = some ms) : encMps s (T.mps.take (k + 1)) = ms.foldl encRow (putInt (encMps s (T.mps.take k)) (ms.length : Int)) := by
  unfold encMps
  rw [foldl_snoc h]
  rfl
end Go.Proofs.YtikcfoobfobmnaaDoor
