/-
  Merged texts: lemmas and walks that the last text of this claim leans on.
-/
import Derived.Test.YtkdhldhbjomiaaaDoorMgT43
import Derived.Test.YtkdhldhbjomiaaaDoorMgT44
import Derived.Deep.Cut
import Derived.Deep.CutRange
import Derived.Deep.CutBlock
import Derived.Deep.LoopGhost
import Derived.Test.YtkdhldhbjomiaaaDoorMgT42
import Derived.Test.YtkdhldhbjomiaaaDoorMgT41
import Derived.WalkSmall
/-
  The walk through keep.prototypes.
-/
namespace Go.Proofs.YtkdhldhbjomiaaaDoor
open Go.RowKit ND

/-- What keep.prototypes leaves. -/
def RetPro (w : World) (g b : Nat) (v : Value) (n : Nat) (t : Tv) (T : Tab) (e : Ending) (w' : World) : Prop :=
  ∃ v11 D, e = .returned (.tuple #[]) ∧ Blk w' b 26 #[t.c0, t.c1, t.c2, t.c3, t.c4, t.c5, t.c6, t.c7, t.c8, t.c9, t.c10, v11] ∧ TabR (veil [g, b] w') w'.heap.size { t with c11 := v11 } { T with prototypes := D } ∧
    D.Sublist protoL ∧ (∀ m ∈ D, T.ignB m.1 = false ∧ T.ignB (m.2.getLastD 0) = false) ∧ Src w' g v n ∧ onlyIn [g, b] w w'

theorem proto_lit (w : World) (g b : Nat) (hgb : g < b) (hb : b < w.heap.size) : Mapps (veil [g, b] ((((((w.alloc (.cells #[.int .i64 111] 3)).alloc (.cells #[.int .i64 114, .int .i64 110] 3)).alloc (.cells #[.int .i64 97] 3)).alloc (.cells #[.int .i64 97] 3)).alloc (.cells #[.int .i64 111, .int .i64 803] 3)).alloc (.cells #[.int .i64 48, .slice (some ⟨w.heap.size, 0, none⟩) 1 1, .int .i64 109, .slice (some ⟨w.heap.size + 1, 0, none⟩) 2 2, .int .i64 945, .slice (some ⟨w.heap.size + 1 + 1, 0, none⟩) 1 1, .int .i64 1072, .slice (some ⟨w.heap.size + 1 + 1 + 1, 0, none⟩) 1 1, .int .i64 1632, .slice (some ⟨w.heap.size + 1 + 1 + 1 + 1, 0, none⟩) 2 2] 54))) ((((((w.alloc (.cells #[.int .i64 111] 3)).alloc (.cells #[.int .i64 114, .int .i64 110] 3)).alloc (.cells #[.int .i64 97] 3)).alloc (.cells #[.int .i64 97] 3)).alloc (.cells #[.int .i64 111, .int .i64 803] 3)).alloc (.cells #[.int .i64 48, .slice (some ⟨w.heap.size, 0, none⟩) 1 1, .int .i64 109, .slice (some ⟨w.heap.size + 1, 0, none⟩) 2 2, .int .i64 945, .slice (some ⟨w.heap.size + 1 + 1, 0, none⟩) 1 1, .int .i64 1072, .slice (some ⟨w.heap.size + 1 + 1 + 1, 0, none⟩) 1 1, .int .i64 1632, .slice (some ⟨w.heap.size + 1 + 1 + 1 + 1, 0, none⟩) 2 2] 54)).heap.size (.slice (some ⟨w.heap.size + 1 + 1 + 1 + 1 + 1, 0, none⟩) 5 5) protoL := by
  have n (k : Nat) (hk : w.heap.size ≤ k) : k ∉ [g, b] := by simp; omega
  have h0 : Blk ((((((w.alloc (.cells #[.int .i64 111] 3)).alloc (.cells #[.int .i64 114, .int .i64 110] 3)).alloc (.cells #[.int .i64 97] 3)).alloc (.cells #[.int .i64 97] 3)).alloc (.cells #[.int .i64 111, .int .i64 803] 3)).alloc (.cells #[.int .i64 48, .slice (some ⟨w.heap.size, 0, none⟩) 1 1, .int .i64 109, .slice (some ⟨w.heap.size + 1, 0, none⟩) 2 2, .int .i64 945, .slice (some ⟨w.heap.size + 1 + 1, 0, none⟩) 1 1, .int .i64 1072, .slice (some ⟨w.heap.size + 1 + 1 + 1, 0, none⟩) 1 1, .int .i64 1632, .slice (some ⟨w.heap.size + 1 + 1 + 1 + 1, 0, none⟩) 2 2] 54)) (w.heap.size) 3 ([111].map (Value.int .i64)).toArray := by have h := ((((((Blk.new w 3 #[.int .i64 111]).alloc (.cells #[.int .i64 114, .int .i64 110] 3)).alloc (.cells #[.int .i64 97] 3)).alloc (.cells #[.int .i64 97] 3)).alloc (.cells #[.int .i64 111, .int .i64 803] 3)).alloc (.cells #[.int .i64 48, .slice (some ⟨w.heap.size, 0, none⟩) 1 1, .int .i64 109, .slice (some ⟨w.heap.size + 1, 0, none⟩) 2 2, .int .i64 945, .slice (some ⟨w.heap.size + 1 + 1, 0, none⟩) 1 1, .int .i64 1072, .slice (some ⟨w.heap.size + 1 + 1 + 1, 0, none⟩) 1 1, .int .i64 1632, .slice (some ⟨w.heap.size + 1 + 1 + 1 + 1, 0, none⟩) 2 2] 54)); simpa using h
  have h1 : Blk ((((((w.alloc (.cells #[.int .i64 111] 3)).alloc (.cells #[.int .i64 114, .int .i64 110] 3)).alloc (.cells #[.int .i64 97] 3)).alloc (.cells #[.int .i64 97] 3)).alloc (.cells #[.int .i64 111, .int .i64 803] 3)).alloc (.cells #[.int .i64 48, .slice (some ⟨w.heap.size, 0, none⟩) 1 1, .int .i64 109, .slice (some ⟨w.heap.size + 1, 0, none⟩) 2 2, .int .i64 945, .slice (some ⟨w.heap.size + 1 + 1, 0, none⟩) 1 1, .int .i64 1072, .slice (some ⟨w.heap.size + 1 + 1 + 1, 0, none⟩) 1 1, .int .i64 1632, .slice (some ⟨w.heap.size + 1 + 1 + 1 + 1, 0, none⟩) 2 2] 54)) (w.heap.size + 1) 3 ([114, 110].map (Value.int .i64)).toArray := by have h := (((((Blk.new (w.alloc (.cells #[.int .i64 111] 3)) 3 #[.int .i64 114, .int .i64 110]).alloc (.cells #[.int .i64 97] 3)).alloc (.cells #[.int .i64 97] 3)).alloc (.cells #[.int .i64 111, .int .i64 803] 3)).alloc (.cells #[.int .i64 48, .slice (some ⟨w.heap.size, 0, none⟩) 1 1, .int .i64 109, .slice (some ⟨w.heap.size + 1, 0, none⟩) 2 2, .int .i64 945, .slice (some ⟨w.heap.size + 1 + 1, 0, none⟩) 1 1, .int .i64 1072, .slice (some ⟨w.heap.size + 1 + 1 + 1, 0, none⟩) 1 1, .int .i64 1632, .slice (some ⟨w.heap.size + 1 + 1 + 1 + 1, 0, none⟩) 2 2] 54)); simpa using h
  have h2 : Blk ((((((w.alloc (.cells #[.int .i64 111] 3)).alloc (.cells #[.int .i64 114, .int .i64 110] 3)).alloc (.cells #[.int .i64 97] 3)).alloc (.cells #[.int .i64 97] 3)).alloc (.cells #[.int .i64 111, .int .i64 803] 3)).alloc (.cells #[.int .i64 48, .slice (some ⟨w.heap.size, 0, none⟩) 1 1, .int .i64 109, .slice (some ⟨w.heap.size + 1, 0, none⟩) 2 2, .int .i64 945, .slice (some ⟨w.heap.size + 1 + 1, 0, none⟩) 1 1, .int .i64 1072, .slice (some ⟨w.heap.size + 1 + 1 + 1, 0, none⟩) 1 1, .int .i64 1632, .slice (some ⟨w.heap.size + 1 + 1 + 1 + 1, 0, none⟩) 2 2] 54)) (w.heap.size + 1 + 1) 3 ([97].map (Value.int .i64)).toArray := by have h := ((((Blk.new ((w.alloc (.cells #[.int .i64 111] 3)).alloc (.cells #[.int .i64 114, .int .i64 110] 3)) 3 #[.int .i64 97]).alloc (.cells #[.int .i64 97] 3)).alloc (.cells #[.int .i64 111, .int .i64 803] 3)).alloc (.cells #[.int .i64 48, .slice (some ⟨w.heap.size, 0, none⟩) 1 1, .int .i64 109, .slice (some ⟨w.heap.size + 1, 0, none⟩) 2 2, .int .i64 945, .slice (some ⟨w.heap.size + 1 + 1, 0, none⟩) 1 1, .int .i64 1072, .slice (some ⟨w.heap.size + 1 + 1 + 1, 0, none⟩) 1 1, .int .i64 1632, .slice (some ⟨w.heap.size + 1 + 1 + 1 + 1, 0, none⟩) 2 2] 54)); simpa using h
  have h3 : Blk ((((((w.alloc (.cells #[.int .i64 111] 3)).alloc (.cells #[.int .i64 114, .int .i64 110] 3)).alloc (.cells #[.int .i64 97] 3)).alloc (.cells #[.int .i64 97] 3)).alloc (.cells #[.int .i64 111, .int .i64 803] 3)).alloc (.cells #[.int .i64 48, .slice (some ⟨w.heap.size, 0, none⟩) 1 1, .int .i64 109, .slice (some ⟨w.heap.size + 1, 0, none⟩) 2 2, .int .i64 945, .slice (some ⟨w.heap.size + 1 + 1, 0, none⟩) 1 1, .int .i64 1072, .slice (some ⟨w.heap.size + 1 + 1 + 1, 0, none⟩) 1 1, .int .i64 1632, .slice (some ⟨w.heap.size + 1 + 1 + 1 + 1, 0, none⟩) 2 2] 54)) (w.heap.size + 1 + 1 + 1) 3 ([97].map (Value.int .i64)).toArray := by have h := (((Blk.new (((w.alloc (.cells #[.int .i64 111] 3)).alloc (.cells #[.int .i64 114, .int .i64 110] 3)).alloc (.cells #[.int .i64 97] 3)) 3 #[.int .i64 97]).alloc (.cells #[.int .i64 111, .int .i64 803] 3)).alloc (.cells #[.int .i64 48, .slice (some ⟨w.heap.size, 0, none⟩) 1 1, .int .i64 109, .slice (some ⟨w.heap.size + 1, 0, none⟩) 2 2, .int .i64 945, .slice (some ⟨w.heap.size + 1 + 1, 0, none⟩) 1 1, .int .i64 1072, .slice (some ⟨w.heap.size + 1 + 1 + 1, 0, none⟩) 1 1, .int .i64 1632, .slice (some ⟨w.heap.size + 1 + 1 + 1 + 1, 0, none⟩) 2 2] 54)); simpa using h
  have h4 : Blk ((((((w.alloc (.cells #[.int .i64 111] 3)).alloc (.cells #[.int .i64 114, .int .i64 110] 3)).alloc (.cells #[.int .i64 97] 3)).alloc (.cells #[.int .i64 97] 3)).alloc (.cells #[.int .i64 111, .int .i64 803] 3)).alloc (.cells #[.int .i64 48, .slice (some ⟨w.heap.size, 0, none⟩) 1 1, .int .i64 109, .slice (some ⟨w.heap.size + 1, 0, none⟩) 2 2, .int .i64 945, .slice (some ⟨w.heap.size + 1 + 1, 0, none⟩) 1 1, .int .i64 1072, .slice (some ⟨w.heap.size + 1 + 1 + 1, 0, none⟩) 1 1, .int .i64 1632, .slice (some ⟨w.heap.size + 1 + 1 + 1 + 1, 0, none⟩) 2 2] 54)) (w.heap.size + 1 + 1 + 1 + 1) 3 ([111, 803].map (Value.int .i64)).toArray := by have h := ((Blk.new ((((w.alloc (.cells #[.int .i64 111] 3)).alloc (.cells #[.int .i64 114, .int .i64 110] 3)).alloc (.cells #[.int .i64 97] 3)).alloc (.cells #[.int .i64 97] 3)) 3 #[.int .i64 111, .int .i64 803]).alloc (.cells #[.int .i64 48, .slice (some ⟨w.heap.size, 0, none⟩) 1 1, .int .i64 109, .slice (some ⟨w.heap.size + 1, 0, none⟩) 2 2, .int .i64 945, .slice (some ⟨w.heap.size + 1 + 1, 0, none⟩) 1 1, .int .i64 1072, .slice (some ⟨w.heap.size + 1 + 1 + 1, 0, none⟩) 1 1, .int .i64 1632, .slice (some ⟨w.heap.size + 1 + 1 + 1 + 1, 0, none⟩) 2 2] 54)); simpa using h
  have h5 : Blk ((((((w.alloc (.cells #[.int .i64 111] 3)).alloc (.cells #[.int .i64 114, .int .i64 110] 3)).alloc (.cells #[.int .i64 97] 3)).alloc (.cells #[.int .i64 97] 3)).alloc (.cells #[.int .i64 111, .int .i64 803] 3)).alloc (.cells #[.int .i64 48, .slice (some ⟨w.heap.size, 0, none⟩) 1 1, .int .i64 109, .slice (some ⟨w.heap.size + 1, 0, none⟩) 2 2, .int .i64 945, .slice (some ⟨w.heap.size + 1 + 1, 0, none⟩) 1 1, .int .i64 1072, .slice (some ⟨w.heap.size + 1 + 1 + 1, 0, none⟩) 1 1, .int .i64 1632, .slice (some ⟨w.heap.size + 1 + 1 + 1 + 1, 0, none⟩) 2 2] 54)) (w.heap.size + 1 + 1 + 1 + 1 + 1) 54 (mpCells [((48 : Int), .slice (some ⟨w.heap.size, 0, none⟩) 1 1), ((109 : Int), .slice (some ⟨w.heap.size + 1, 0, none⟩) 2 2), ((945 : Int), .slice (some ⟨w.heap.size + 1 + 1, 0, none⟩) 1 1), ((1072 : Int), .slice (some ⟨w.heap.size + 1 + 1 + 1, 0, none⟩) 1 1), ((1632 : Int), .slice (some ⟨w.heap.size + 1 + 1 + 1 + 1, 0, none⟩) 2 2)]).toArray := by have h := Blk.new (((((w.alloc (.cells #[.int .i64 111] 3)).alloc (.cells #[.int .i64 114, .int .i64 110] 3)).alloc (.cells #[.int .i64 97] 3)).alloc (.cells #[.int .i64 97] 3)).alloc (.cells #[.int .i64 111, .int .i64 803] 3)) 54 #[.int .i64 48, .slice (some ⟨w.heap.size, 0, none⟩) 1 1, .int .i64 109, .slice (some ⟨w.heap.size + 1, 0, none⟩) 2 2, .int .i64 945, .slice (some ⟨w.heap.size + 1 + 1, 0, none⟩) 1 1, .int .i64 1072, .slice (some ⟨w.heap.size + 1 + 1 + 1, 0, none⟩) 1 1, .int .i64 1632, .slice (some ⟨w.heap.size + 1 + 1 + 1 + 1, 0, none⟩) 2 2]; simpa [mpCells] using h
  refine Mapps.of_blk (D := protoL) h5 (n _ (by omega)) (by simp) rfl fun i p d hp hd => ?_
  match i, hp, hd with
  | 0, hp, hd => cases hp; cases hd; exact Ints.of_blk h0 (n _ (by omega)) (by simp)
  | 1, hp, hd => cases hp; cases hd; exact Ints.of_blk h1 (n _ (by omega)) (by simp)
  | 2, hp, hd => cases hp; cases hd; exact Ints.of_blk h2 (n _ (by omega)) (by simp)
  | 3, hp, hd => cases hp; cases hd; exact Ints.of_blk h3 (n _ (by omega)) (by simp)
  | 4, hp, hd => cases hp; cases hd; exact Ints.of_blk h4 (n _ (by omega)) (by simp)
  | _ + 5, hp, hd => simp at hp

theorem add_zero_off (k i : Nat) : Addr.add ⟨k, 0, none⟩ i = ⟨k, i, none⟩ := by cases i <;> simp [Addr.add]
theorem proto_len : ∀ m ∈ protoL, 1 ≤ m.2.length ∧ m.2.length ≤ 2 := by decide

set_option maxRecDepth 100000 in
set_option maxHeartbeats 4000000 in
theorem prototypes_any (w : World) (g b : Nat) (v : Value) (xs : List Int) (t : Tv) (T : Tab) (hv : Ints w g .i64 v xs) (hs : Src w g v xs.length)
    (hb : Blk w b 26 #[t.c0, t.c1, t.c2, t.c3, t.c4, t.c5, t.c6, t.c7, t.c8, t.c9, t.c10, .slice none 0 0]) (hgb : g < b)
    (ht : TabR (veil [g, b] w) w.heap.size { t with c11 := .slice none 0 0 } { T with prototypes := [] }) :
    Calls Tryd.prog 59 #[.pointer (some ⟨g, 0, none⟩), .pointer (some ⟨b, 0, none⟩)] w (RetPro w g b v xs.length t T) := by
  have hbw : b < w.heap.size := hb.lt
  have HT := Lib.hid ht
  have HV := Lib.hid hv
  have HS := Lib.hid hs
  have HB := Lib.hid hb
  clear hv hs hb ht
  have HNX : Hid (∀ (W : World) (m : Int), onlyIn [g, b] w W → Src W g v xs.length → 0 < m → m ≤ 1000000 → Calls Tryd.prog 52 #[.pointer (some ⟨g, 0, none⟩), .int .i64 m] W (RetNext W g v xs.length m)) :=
    Lib.hid fun W m h1 h2 h3 h4 => next_src W g v xs m (HV.out.below (h1.below (by intro x hx; simp at hx; omega) (by omega))) h2 h3 h4
  go_enter Tryd.func59, Tryd.ntmps59
  go_wp2_with fail
  have hbel : Below w.heap.size w ((((((w.alloc (.cells #[.int .i64 111] 3)).alloc (.cells #[.int .i64 114, .int .i64 110] 3)).alloc (.cells #[.int .i64 97] 3)).alloc (.cells #[.int .i64 97] 3)).alloc (.cells #[.int .i64 111, .int .i64 803] 3)).alloc (.cells #[.int .i64 48, .slice (some ⟨w.heap.size, 0, none⟩) 1 1, .int .i64 109, .slice (some ⟨w.heap.size + 1, 0, none⟩) 2 2, .int .i64 945, .slice (some ⟨w.heap.size + 1 + 1, 0, none⟩) 1 1, .int .i64 1072, .slice (some ⟨w.heap.size + 1 + 1 + 1, 0, none⟩) 1 1, .int .i64 1632, .slice (some ⟨w.heap.size + 1 + 1 + 1 + 1, 0, none⟩) 2 2] 54)) := (((((((Below.refl _ _).alloc (Nat.le_refl _) _).alloc (by simp; try omega) _).alloc (by simp; try omega) _).alloc (by simp; try omega) _).alloc (by simp; try omega) _).alloc (by simp; try omega) _)
  have hI : PSt w g b xs.length v t T (.slice (some ⟨w.heap.size + 1 + 1 + 1 + 1 + 1, 0, none⟩) 5 5) (.slice none 0 0) [] ((((((w.alloc (.cells #[.int .i64 111] 3)).alloc (.cells #[.int .i64 114, .int .i64 110] 3)).alloc (.cells #[.int .i64 97] 3)).alloc (.cells #[.int .i64 97] 3)).alloc (.cells #[.int .i64 111, .int .i64 803] 3)).alloc (.cells #[.int .i64 48, .slice (some ⟨w.heap.size, 0, none⟩) 1 1, .int .i64 109, .slice (some ⟨w.heap.size + 1, 0, none⟩) 2 2, .int .i64 945, .slice (some ⟨w.heap.size + 1 + 1, 0, none⟩) 1 1, .int .i64 1072, .slice (some ⟨w.heap.size + 1 + 1 + 1, 0, none⟩) 1 1, .int .i64 1632, .slice (some ⟨w.heap.size + 1 + 1 + 1 + 1, 0, none⟩) 2 2] 54)) := by
    have ho : onlyIn [g, b] w ((((((w.alloc (.cells #[.int .i64 111] 3)).alloc (.cells #[.int .i64 114, .int .i64 110] 3)).alloc (.cells #[.int .i64 97] 3)).alloc (.cells #[.int .i64 97] 3)).alloc (.cells #[.int .i64 111, .int .i64 803] 3)).alloc (.cells #[.int .i64 48, .slice (some ⟨w.heap.size, 0, none⟩) 1 1, .int .i64 109, .slice (some ⟨w.heap.size + 1, 0, none⟩) 2 2, .int .i64 945, .slice (some ⟨w.heap.size + 1 + 1, 0, none⟩) 1 1, .int .i64 1072, .slice (some ⟨w.heap.size + 1 + 1 + 1, 0, none⟩) 1 1, .int .i64 1632, .slice (some ⟨w.heap.size + 1 + 1 + 1 + 1, 0, none⟩) 2 2] 54)) := onlyIn.of_below hbel
    have hso : onlyIn [] w ((((((w.alloc (.cells #[.int .i64 111] 3)).alloc (.cells #[.int .i64 114, .int .i64 110] 3)).alloc (.cells #[.int .i64 97] 3)).alloc (.cells #[.int .i64 97] 3)).alloc (.cells #[.int .i64 111, .int .i64 803] 3)).alloc (.cells #[.int .i64 48, .slice (some ⟨w.heap.size, 0, none⟩) 1 1, .int .i64 109, .slice (some ⟨w.heap.size + 1, 0, none⟩) 2 2, .int .i64 945, .slice (some ⟨w.heap.size + 1 + 1, 0, none⟩) 1 1, .int .i64 1072, .slice (some ⟨w.heap.size + 1 + 1 + 1, 0, none⟩) 1 1, .int .i64 1632, .slice (some ⟨w.heap.size + 1 + 1 + 1 + 1, 0, none⟩) 2 2] 54)) := onlyIn.of_below hbel
    refine ⟨hso.blk HB.out (by simp), (HT.out.reveil (onlyIn_reveil ho fun x hx => hx)).more hbel.size, OwnM.nil _ _ _, proto_lit w g b hgb hbw, HS.out.below hbel, ho⟩
  have HI := Lib.hid hI
  clear hI hbel HB HS HT
  generalize ((((((w.alloc (.cells #[.int .i64 111] 3)).alloc (.cells #[.int .i64 114, .int .i64 110] 3)).alloc (.cells #[.int .i64 97] 3)).alloc (.cells #[.int .i64 97] 3)).alloc (.cells #[.int .i64 111, .int .i64 803] 3)).alloc (.cells #[.int .i64 48, .slice (some ⟨w.heap.size, 0, none⟩) 1 1, .int .i64 109, .slice (some ⟨w.heap.size + 1, 0, none⟩) 2 2, .int .i64 945, .slice (some ⟨w.heap.size + 1 + 1, 0, none⟩) 1 1, .int .i64 1072, .slice (some ⟨w.heap.size + 1 + 1 + 1, 0, none⟩) 1 1, .int .i64 1632, .slice (some ⟨w.heap.size + 1 + 1 + 1 + 1, 0, none⟩) 2 2] 54)) = W0 at *
  obtain ⟨lb, hlb⟩ : ∃ lb, lb = w.heap.size + 1 + 1 + 1 + 1 + 1 := ⟨_, rfl⟩
  rw [← hlb] at HI
  rw [← hlb]
  clear hlb
  go_loopg [18] 5 (fun gk iv wr => ∃ (k : Nat) (v11 : Value) (D : List Mp), iv = .int .i64 k ∧ k + gk = 5 ∧ Hid (PSt w g b xs.length v t T (.slice (some ⟨lb, 0, none⟩) 5 5) v11 D wr) ∧ Hid (D.Sublist (protoL.take k)) ∧ Hid (∀ m ∈ D, T.ignB m.1 = false ∧ T.ignB (m.2.getLastD 0) = false))
  case atStart => exact ⟨0, _, [], rfl, rfl, HI, Lib.hid (List.nil_sublist _), Lib.hid (by simp)⟩
  case round =>
    obtain ⟨k, v11, D, rfl, hk, HM, HD, HG⟩ := hrel
    clear HI
    by_cases hlt : k < 5
    · obtain ⟨⟨mc, ml⟩, hm, hmm⟩ := get_el (show k < protoL.length from hlt)
      obtain ⟨hm1, hm2⟩ := proto_len _ hmm
      simp only at hm1 hm2
      obtain ⟨A, c, hlv, _, _, _, hcl⟩ := HM.out.lit
      cases hlv
      obtain ⟨aj, sv, hA, haj, d0', d1', hto⟩ := hcl k _ hm
      cases hA
      have d0 := veil_cell d0'
      have d1 := veil_cell d1'
      simp only at d0 d1 hto
      have HTO := Lib.hid hto
      obtain ⟨A', c', rfl, hl1, hl2, _, hcx⟩ := id hto
      obtain ⟨j, hj⟩ : ∃ j, ml.length = j + 1 := ⟨ml.length - 1, by omega⟩
      obtain ⟨x, hx⟩ : ∃ x, ml[j]? = some x := ⟨_, List.getElem?_eq_getElem (by omega)⟩
      have hxl : ml.getLastD 0 = x := by
        rw [List.getLastD_eq_getLast?, List.getLast?_eq_getElem?, hj, show j + 1 - 1 = j from rfl, hx]; rfl
      obtain ⟨ad, rfl, _, _⟩ := hcx j x hx
      have HMM := Lib.hid hm
      have HJ := Lib.hid hj
      have HX := Lib.hid hx
      have HXL := Lib.hid hxl
      have hj1 : j < ml.length := by omega
      have e0 : wr.cell? ⟨lb, k * 2, none⟩ = some (.int .i64 mc) := by rw [← d0, add_zero_off]
      have e1 : wr.cell? ⟨lb, k * 2 + 1, none⟩ = some (.slice (some ad) ml.length c') := by rw [← d1, add_zero_off]
      clear hcl d0 d1 d0' d1' hto hm hmm haj hcx hj hx hxl hl1 hl2
      have k1 : (k : Int) < 5 := by omega
      go_upto_region 3 with fail
      go_cut [46] from 22 to 46 (fun s46 wx => ∃ d : Bool, s46 = .bool d ∧ Hid (d = false → T.ignB mc = false ∧ T.ignB (ml.getLastD 0) = false) ∧ Hid (onlyIn [g] wr wx) ∧ Hid (Src wx g v xs.length) ∧ Hid (Blk wx wr.heap.size 54 #[.int .i64 mc, .slice (some ad) ml.length c']))
      case first =>
        clear e0 e1 k1
        have HO2 : Hid (onlyIn [g] wr (wr.alloc (.cells #[.int .i64 mc, .slice (some ad) ml.length c'] 54))) := Lib.hid (onlyIn.of_below ((Below.refl _ _).alloc (Nat.le_refl _) _))
        have HS2 : Hid (Src (wr.alloc (.cells #[.int .i64 mc, .slice (some ad) ml.length c'] 54)) g v xs.length) := Lib.hid (HM.out.src.alloc _)
        have HX2 : Hid (Blk (wr.alloc (.cells #[.int .i64 mc, .slice (some ad) ml.length c'] 54)) wr.heap.size 54 #[.int .i64 mc, .slice (some ad) ml.length c']) := Lib.hid (Blk.new wr 54 _)
        have HN := Lib.hid (HNX.out (wr.alloc (.cells #[.int .i64 mc, .slice (some ad) ml.length c'] 54)).drew 3 (HM.out.only hgb hbw HO2.out HS2.out).oi HS2.out (by decide) (by decide))
        generalize wr.alloc (.cells #[.int .i64 mc, .slice (some ad) ml.length c'] 54) = W2 at *
        refine wp_region_any (by kernel_rfl) ?_
        refine wpAny_one 0 _ (by kernel_rfl) rfl (fun K hK => ?_)
        go_simp
        refine hK _ _ ?_
        clear hK K
        refine wpAny_one 1 _ (by kernel_rfl) rfl (fun K hK => ?_)
        go_simp
        go_at_call 52
        refine HN.out.mono ?_
        rintro e w7 ⟨q7, rfl, q70, q71, hs7, hg70⟩
        refine hK _ _ ?_
        clear hK K
        have hO7 := HO2.out.trans (onlyIn.of_grown (undrew hg70) (by simp))
        have hM7 := HM.out.only hgb hbw hO7 hs7
        have hX7 := HX2.out.grown (undrew hg70) (by intro e; injection e with e; have := HM.out.oi.2.2.2.1; omega)
        have HTab := Lib.hid fun W (hW : Below w7.heap.size w7 W) => (hM7.tab hgb hbw).unveil.later hW
        have HO7 := Lib.hid hO7
        have HS7 := Lib.hid hs7
        have HX7 := Lib.hid hX7
        obtain ⟨x0, x1, x2, x3, x4, x5, x6, x7, x8, x9, x10, x11⟩ := hM7.blk.tabG
        have m0 := cell_regrown (hX7.at_ (i := 0) rfl)
        have m1 := cell_regrown (hX7.at_ (i := 1) rfl)
        obtain ⟨_, _, hvx, _, _, _, hcx⟩ := (HTO.out.reveil (onlyIn_reveil (S1 := [g, b] ++ v11.ownBlock.toList) hO7 fun x hx => by simp at hx; simp [hx])).unveil
        cases hvx
        obtain ⟨_, hA, _, hcx2⟩ := hcx j x HX.out
        cases hA
        have m2 := cell_regrown hcx2
        have hj2 : (0 : Int) ≤ (j : Int) := by omega
        have hj3 : (j : Int) < (ml.length : Int) := by omega
        have hw : IntKind.i64.wrap ((ml.length : Int) - 1) = (j : Int) := by rw [IntWalk.i64_in _ (by omega)]; have := HJ.out; omega
        clear hg70 hs7 hO7 hM7 hX7 hcx hcx2 HN HO2 HS2 HX2
        by_cases h7 : q7 = 0
        · have n7 : (q7 == 0) = true := by simpa using h7
          clear h7
          refine wpAny_one 2 _ (by kernel_rfl) rfl (fun K hK => ?_)
          go_simp
          refine hK _ _ ?_
          clear hK K
          refine wpAny_one 3 _ (by kernel_rfl) rfl (fun K hK => ?_)
          go_simp
          refine hK _ _ ?_
          clear hK K
          refine wpAny_below 4 _ rfl rfl (by kernel_rfl) (by kernel_rfl) ?_
          simp only [List.drop_succ_cons, List.drop_zero]
          repeat (go_big_quiet_step (fail))
          refine wpQuiet_nil ?_
          rintro _ ⟨⟨dq, osq⟩, rfl⟩
          go_wp2
          go_meet
          case rel => exact ⟨_, rfl, Lib.hid (fun h => by cases h), Lib.hid (HO7.out.trans (onlyIn.of_below (below_regrown _ dq osq))), Lib.hid (HS7.out.below (below_regrown _ dq osq)), Lib.hid (HX7.out.later (below_regrown _ dq osq))⟩
        · have n7 : (q7 == 0) = false := by simpa using h7
          clear h7
          obtain ⟨b1, hb1⟩ : ∃ b1, T.ignB mc = b1 := ⟨_, rfl⟩
          obtain ⟨b2, hb2⟩ : ∃ b2, T.ignB x = b2 := ⟨_, rfl⟩
          have HI1 : Hid (∀ W, Below w7.heap.size w7 W → Calls Tryd.prog 49 #[.agg #[t.c0, t.c1, t.c2, t.c3, t.c4, t.c5, t.c6, t.c7, t.c8, t.c9, t.c10, v11], .int .i64 mc] W fun e w' => e = .returned (.bool b1) ∧ Below W.heap.size W w') :=
            Lib.hid fun W hW => by rw [← hb1]; exact refIgnorable_any { t with c11 := v11 } { T with prototypes := D } mc W (HTab.out W hW)
          have HI2 : Hid (∀ W, Below w7.heap.size w7 W → Calls Tryd.prog 49 #[.agg #[t.c0, t.c1, t.c2, t.c3, t.c4, t.c5, t.c6, t.c7, t.c8, t.c9, t.c10, v11], .int .i64 x] W fun e w' => e = .returned (.bool b2) ∧ Below W.heap.size W w') :=
            Lib.hid fun W hW => by rw [← hb2]; exact refIgnorable_any { t with c11 := v11 } { T with prototypes := D } x W (HTab.out W hW)
          have HB1 := Lib.hid hb1
          have HB2 := Lib.hid hb2
          clear hb1 hb2 HTab
          cases b1
          · cases b2
            all_goals
              refine wpAny_one 2 _ (by kernel_rfl) rfl (fun K hK => ?_)
              go_simp
              refine hK _ _ ?_
              clear hK K
              refine wpAny_one 3 _ (by kernel_rfl) rfl (fun K hK => ?_)
              go_simp
              refine hK _ _ ?_
              clear hK K
              refine wpAny_below 4 _ rfl rfl (by kernel_rfl) (by kernel_rfl) ?_
              simp only [List.drop_succ_cons, List.drop_zero]
              repeat (go_big_quiet_step (first | (go_at_call 49; with_reducible exact quiet_t HI1.out) | (go_at_call 49; with_reducible exact quiet_t HI2.out)))
              refine wpQuiet_nil ?_
              rintro _ ⟨⟨dq, osq⟩, rfl⟩
              go_wp2
              go_meet
              case rel => exact ⟨_, rfl, Lib.hid (fun h => by first | (cases h; done) | exact ⟨HB1.out, by rw [HXL.out]; exact HB2.out⟩), Lib.hid (HO7.out.trans (onlyIn.of_below (below_regrown _ dq osq))), Lib.hid (HS7.out.below (below_regrown _ dq osq)), Lib.hid (HX7.out.later (below_regrown _ dq osq))⟩
          · cases b2
            all_goals
              refine wpAny_one 2 _ (by kernel_rfl) rfl (fun K hK => ?_)
              go_simp
              refine hK _ _ ?_
              clear hK K
              refine wpAny_one 3 _ (by kernel_rfl) rfl (fun K hK => ?_)
              go_simp
              refine hK _ _ ?_
              clear hK K
              refine wpAny_below 4 _ rfl rfl (by kernel_rfl) (by kernel_rfl) ?_
              simp only [List.drop_succ_cons, List.drop_zero]
              repeat (go_big_quiet_step (first | (go_at_call 49; with_reducible exact quiet_t HI1.out) | (go_at_call 49; with_reducible exact quiet_t HI2.out)))
              refine wpQuiet_nil ?_
              rintro _ ⟨⟨dq, osq⟩, rfl⟩
              go_wp2
              go_meet
              case rel => exact ⟨_, rfl, Lib.hid (fun h => by cases h), Lib.hid (HO7.out.trans (onlyIn.of_below (below_regrown _ dq osq))), Lib.hid (HS7.out.below (below_regrown _ dq osq)), Lib.hid (HX7.out.later (below_regrown _ dq osq))⟩
      case rest =>
        obtain ⟨d, rfl, HDD, HO3, HS3, HX3⟩ := hcut
        have HM3 := Lib.hid (HM.out.only hgb hbw HO3.out HS3.out)
        cases d
        · have hb3 := HM3.out.blk
          have e11 := hb3.at_ (i := 11) rfl
          have e11a := (hb3.alloc (.cells #[.int .i64 mc, .slice (some ad) ml.length c'] 54)).at_ (i := 11) rfl
          have hx3 := HX3.out
          have x0 := hx3.at_ (i := 0) rfl
          have x1 := hx3.at_ (i := 1) rfl
          have HBA := Lib.hid (hb3.alloc (.cells #[.int .i64 mc, .slice (some ad) ml.length c'] 54))
          have HOX : Hid (onlyIn [] wc (wc.alloc (.cells #[.int .i64 mc, .slice (some ad) ml.length c'] 54)).drew) := Lib.hid (onlyIn.of_below ((Below.refl _ _).alloc (Nat.le_refl _) _).drew)
          have HMX := Lib.hid (HM3.out.only hgb hbw (HOX.out.more (by simp)) (show Src (wc.alloc (.cells #[.int .i64 mc, .slice (some ad) ml.length c'] 54)).drew g v xs.length from HM3.out.src.alloc _))
          have HIX : Hid (Ints (veil ([g, b] ++ v11.ownBlock.toList) (wc.alloc (.cells #[.int .i64 mc, .slice (some ad) ml.length c'] 54)).drew) (wc.alloc (.cells #[.int .i64 mc, .slice (some ad) ml.length c'] 54)).drew.heap.size .i64 (.slice (some ad) ml.length c') ml) := by
            have h1 := (HTO.out.reveil (onlyIn_reveil (S1 := [g, b] ++ v11.ownBlock.toList) HO3.out fun x hx => by simp at hx; simp [hx]))
            have h2 := ((h1.more HO3.out.2.2.2.1).reveil (onlyIn_reveil (S1 := [g, b] ++ v11.ownBlock.toList) HOX.out fun x hx => by cases hx)).more HOX.out.2.2.2.1
            exact Lib.hid h2
          have HKX : Hid (Blk (wc.alloc (.cells #[.int .i64 mc, .slice (some ad) ml.length c'] 54)).drew wc.heap.size 54 #[.int .i64 mc, .slice (some ad) ml.length c']) := Lib.hid (Blk.new wc 54 #[.int .i64 mc, .slice (some ad) ml.length c'])
          have hszY : w.heap.size ≤ (wc.alloc (.cells #[.int .i64 mc, .slice (some ad) ml.length c'] 54)).drew.heap.size := by have h1 := HM3.out.oi.2.2.2.1; simp; omega
          have hDl : D.length ≤ 1000000 := by have h := HD.out.length_le; rw [List.length_take] at h; omega
          obtain ⟨i0, hi, hz0, hz1, hz2⟩ := info_parts Tryd.infoMap
          clear hb3 hx3 e0 e1
          go_wp2
          go_region_law (first
            | (refine step_app_map rfl (.tmp 51) (.tmp 53) rfl Tryd.underlying23 hi _ hz0 hz1 hz2 rfl [g, b] w.heap.size v11 D wc.heap.size mc (.slice (some ad) ml.length c') ml rfl rfl HMX.out.om HKX.out HIX.out hDl hszY ?_; intro v13 w13 hM13 hg13 hr13 hs13; have hb13 := (show Blk (wc.alloc (.cells #[.int .i64 mc, .slice (some ad) ml.length c'] 54)).drew b 26 #[t.c0, t.c1, t.c2, t.c3, t.c4, t.c5, t.c6, t.c7, t.c8, t.c9, t.c10, v11] from HBA.out).grown hg13 (fun e => by have := (HM3.out.own b e.symm).1; omega); have e13 := hb13.at_ (i := 11) rfl; have f13 := hb13.free 11; have HM13 := Lib.hid hM13; have HG13 := Lib.hid hg13; have HR13 := Lib.hid hr13; obtain ⟨A13, m13, c13', rfl⟩ := hs13; clear hb13 hM13 hg13 hr13))
          all_goals go_wp2
          all_goals
            go_roundg (4 - k)
            case measure => omega
            case rel =>
              refine ⟨k + 1, _, D ++ [(mc, ml)], by go_num, by omega, Lib.hid (HM3.out.append hgb hbw HOX.out HG13.out HR13.out HM13.out), Lib.hid ?_, Lib.hid ?_⟩
              · rw [take_snoc_get HMM.out]; exact HD.out.append (List.Sublist.refl _)
              · intro m hm
                rcases List.mem_append.1 hm with hm | hm
                · exact HG.out m hm
                · rw [List.mem_singleton] at hm; subst hm; exact HDD.out (by simp)
        · clear e0 e1
          go_wp2
          go_roundg (4 - k)
          case measure => omega
          case rel => exact ⟨k + 1, v11, D, by go_num, by omega, HM3, Lib.hid (HD.out.trans (List.take_sublist_take_left (by omega))), HG⟩
    · have hk5 : k = 5 := by omega
      subst hk5
      go_wp2
      go_end0
      have h := HM.out.tab hgb hbw
      exact ⟨v11, D, rfl, HM.out.blk, h, HD.out.trans (List.take_sublist _ _), HG.out, HM.out.src, HM.out.oi⟩
end Go.Proofs.YtkdhldhbjomiaaaDoor
/-
  The state of keep.Tables' loop, and what keeps it.
-/
namespace Go.Proofs.YtkdhldhbjomiaaaDoor
open Go.RowKit ND

theorem veil_more {R : Nat} {S : List Nat} {W : World} {p : Addr} {x : Value} (h : (veil S W).cell? p = some x) (hp : p.block ≠ R) : (veil (R :: S) W).cell? p = some x := by
  have hn : p.block ∉ R :: S := by
    intro hx
    rcases List.mem_cons.1 hx with e | e
    · exact hp e
    · exact unveil_at h e
  rw [cell_veil hn]; exact veil_cell h
theorem Ints.apart {R : Nat} {S : List Nat} {W : World} {B : Nat} {v : Value} {xs : List Int} (hR : ∀ (p : Addr) (x : Int), W.cell? p = some (.int .i64 x) → p.block ≠ R) (h : Ints (veil S W) B .i64 v xs) : Ints (veil (R :: S) W) B .i64 v xs := by
  obtain ⟨A, c, hv, h1, h2, h3, h4⟩ := h
  refine ⟨A, c, hv, h1, h2, h3, fun i x hi => ?_⟩
  obtain ⟨ad, e, hb, hc⟩ := h4 i x hi
  exact ⟨ad, e, hb, veil_more hc (hR _ _ (veil_cell hc))⟩
theorem Spans.apart {R : Nat} {S : List Nat} {W : World} {B : Nat} {v : Value} {xs : List Sp} (hR : ∀ (p : Addr) (x : Int), W.cell? p = some (.int .i64 x) → p.block ≠ R) (h : Spans (veil S W) B v xs) : Spans (veil (R :: S) W) B v xs := by
  obtain ⟨A, c, hv, h1, h2, h3, h4⟩ := h
  refine ⟨A, c, hv, h1, h2, h3, fun i x hi => ?_⟩
  obtain ⟨ad, e, hb, c0, c1, c2⟩ := h4 i x hi
  exact ⟨ad, e, hb, veil_more c0 (hR _ _ (veil_cell c0)), veil_more c1 (hR _ _ (veil_cell c1)), veil_more c2 (hR _ _ (veil_cell c2))⟩
theorem Mapps.apart {R : Nat} {S : List Nat} {W : World} {B : Nat} {v : Value} {xs : List Mp} (hR : ∀ (p : Addr) (x : Int), W.cell? p = some (.int .i64 x) → p.block ≠ R) (h : Mapps (veil S W) B v xs) : Mapps (veil (R :: S) W) B v xs := by
  obtain ⟨A, c, hv, h1, h2, h3, h4⟩ := h
  refine ⟨A, c, hv, h1, h2, h3, fun i x hi => ?_⟩
  obtain ⟨ad, sv, e, hb, c0, c1, hI⟩ := h4 i x hi
  have hn := hR _ _ (veil_cell c0)
  rw [block_of_add] at hn
  exact ⟨ad, sv, e, hb, veil_more c0 (by rw [block_of_add]; exact hn), veil_more c1 (by rw [block_of_add]; exact hn), hI.apart hR⟩
theorem TabR.apart {R : Nat} {S : List Nat} {W : World} {B : Nat} {t : Tv} {T : Tab} (hR : ∀ (p : Addr) (x : Int), W.cell? p = some (.int .i64 x) → p.block ≠ R) (h : TabR (veil S W) B t T) : TabR (veil (R :: S) W) B t T :=
  ⟨h.r0.apart hR, h.r1.apart hR, h.r2.apart hR, h.r3.apart hR, h.r4.apart hR, h.r5.apart hR, h.r6.apart hR, h.r7.apart hR, h.r8.apart hR, h.r9.apart hR, h.r10.apart hR, h.r11.apart hR⟩
/-- A block of slices alone is no block of integers. -/
theorem no_int {W : World} {R : Nat} {t : TypeId} {cs : Array Value} (h : Blk W R t cs) (hc : ∀ u ∈ cs.toList, ∀ x, u ≠ .int .i64 x) : ∀ (p : Addr) (x : Int), W.cell? p = some (.int .i64 x) → p.block ≠ R := by
  rintro ⟨q, off, spot⟩ x hp rfl
  cases spot with
  | none =>
    rw [h.cell off] at hp
    exact hc _ (Array.mem_toList_iff.2 (Array.mem_of_getElem? hp)) x rfl
  | some s =>
    unfold World.cell? at hp
    rw [h] at hp
    simp at hp

/-- A column with one span more, if its value is not 0. -/
def more (L : List Sp) (c x : Int) : List Sp := if 0 < x then L ++ [(c, c, x)] else L
theorem colN_more {k : Nat} {hi c x : Int} {L : List Sp} (h : colN k 1 hi L) (hc : poolL[k]? = some c) (hx : x ≤ hi) : colN (k + 1) 1 hi (more L c x) := by
  unfold more
  split
  · exact colN_add h hc (by omega) hx
  · exact colN_skip h

structure KSt (w : World) (g b n : Nat) (v : Value) (t : Tv) (T : Tab) (sv : Value) (st : List Int) (wr : World) : Prop where
  blk : Blk wr b 26 t.cells
  tr : TabR (veil ([g, b] ++ sv.ownBlock.toList) wr) wr.heap.size t T
  st : wr.ownsRow w.heap.size 3 1 sv st.length (st.map (Value.int .i64))
  src : Src wr g v n
  oi : onlyIn [g, b] w wr

section
variable {w : World} {g b n : Nat} {v : Value} {t : Tv} {T : Tab} {sv : Value} {st : List Int} {wr w' : World}
theorem KSt.own (h : KSt w g b n v t T sv st wr) : ∀ q, sv.ownBlock = some q → w.heap.size ≤ q ∧ q < wr.heap.size := fun q hq => h.st.lt q hq
theorem KSt.only (h : KSt w g b n v t T sv st wr) (hgb : g < b) (hb : b < w.heap.size) (ho : onlyIn [g] wr w') (hs : Src w' g v n) : KSt w g b n v t T sv st w' := by
  have hown := h.own
  have ho2 : onlyIn [g, b] wr w' := ho.more fun x hx => by simp at hx ⊢; exact .inl hx
  have hk := onlyIn_reveil (S1 := [g, b] ++ sv.ownBlock.toList) ho2 fun x hx => List.mem_append_left _ hx
  refine ⟨ho.blk h.blk (by simp; omega), (h.tr.reveil hk).more ho.2.2.2.1, ⟨h.st.1, ?_⟩, hs, h.oi.trans ho2⟩
  rcases h.st.2 with hn | ⟨q, cap, cur, rfl, hq, hg, hrest⟩
  · exact .inl hn
  · exact .inr ⟨q, cap, cur, rfl, hq, ho.blk hg (by simp; omega), hrest⟩
/-- What a span more in a column leaves as it was. -/
theorem KSt.keepAdd (h : KSt w g b n v t T sv st wr) (hgb : g < b) (hb : b < w.heap.size) (hg : wr.grownBy w' (some b)) :
    TabR (veil ([g, b] ++ sv.ownBlock.toList) w') w'.heap.size t T ∧ w'.ownsRow w.heap.size 3 1 sv st.length (st.map (Value.int .i64)) ∧ Src w' g v n ∧ onlyIn [g, b] w w' := by
  have hown := h.own
  have ho2 : onlyIn [g, b] wr w' := onlyIn.of_grown hg (by simp)
  have hk := onlyIn_reveil (S1 := [g, b] ++ sv.ownBlock.toList) ho2 fun x hx => List.mem_append_left _ hx
  exact ⟨(h.tr.reveil hk).more hg.size, h.st.kept hg (by
    cases hv : sv.ownBlock with
    | none => exact .inl rfl
    | some q => have := hown q hv; refine .inr (fun e => ?_); injection e; omega), h.src.grown hg (by intro e; injection e; omega), h.oi.trans ho2⟩
theorem KSt.inS (h : KSt w g b n v t T sv st wr) (hgb : g < b) (hb : b < w.heap.size) : ∀ x ∈ [g, b] ++ sv.ownBlock.toList, x < wr.heap.size := fun x hx => by
  have h1 := h.oi.2.2.2.1
  rcases List.mem_append.1 hx with hx | hx
  · simp at hx; omega
  · rw [Option.mem_toList] at hx; exact (h.own x hx).2
theorem KSt.add0 (h : KSt w g b n v t T sv st wr) (hgb : g < b) (hb : b < w.heap.size) {c x : Int} {e : Ending} (ret : RetAdd wr b 0 26 t.cells t.c0 T.category c c x e w') :
    ∃ v', e = .returned (.tuple #[]) ∧ KSt w g b n v { t with c0 := v' } { T with category := more T.category c x } sv st w' ∧ wr.grownBy w' (some b) := by
  obtain ⟨v', rfl, hb', hg, hz, hp⟩ := ret
  obtain ⟨h1, h2, h3, h4⟩ := h.keepAdd hgb hb hg
  refine ⟨v', rfl, ⟨by simpa using hb', ?_, h2, h3, h4⟩, hg⟩
  by_cases hx : 0 < x
  · have hp' := hp hx ([g, b] ++ sv.ownBlock.toList) (h.inS hgb hb)
    rw [veil_size] at hp'
    exact { h1 with r0 := by show Spans _ _ _ (more T.category c x); unfold more; rw [if_pos hx]; exact hp' }
  · have hv := hz (by omega)
    exact { h1 with r0 := by show Spans _ _ v' (more T.category c x); unfold more; rw [if_neg hx, hv]; exact h1.r0 }
theorem KSt.add1 (h : KSt w g b n v t T sv st wr) (hgb : g < b) (hb : b < w.heap.size) {c x : Int} {e : Ending} (ret : RetAdd wr b 1 26 t.cells t.c1 T.cls c c x e w') :
    ∃ v', e = .returned (.tuple #[]) ∧ KSt w g b n v { t with c1 := v' } { T with cls := more T.cls c x } sv st w' ∧ wr.grownBy w' (some b) := by
  obtain ⟨v', rfl, hb', hg, hz, hp⟩ := ret
  obtain ⟨h1, h2, h3, h4⟩ := h.keepAdd hgb hb hg
  refine ⟨v', rfl, ⟨by simpa using hb', ?_, h2, h3, h4⟩, hg⟩
  by_cases hx : 0 < x
  · have hp' := hp hx ([g, b] ++ sv.ownBlock.toList) (h.inS hgb hb)
    rw [veil_size] at hp'
    exact { h1 with r1 := by show Spans _ _ _ (more T.cls c x); unfold more; rw [if_pos hx]; exact hp' }
  · have hv := hz (by omega)
    exact { h1 with r1 := by show Spans _ _ v' (more T.cls c x); unfold more; rw [if_neg hx, hv]; exact h1.r1 }
theorem KSt.add2 (h : KSt w g b n v t T sv st wr) (hgb : g < b) (hb : b < w.heap.size) {c x : Int} {e : Ending} (ret : RetAdd wr b 2 26 t.cells t.c2 T.joining c c x e w') :
    ∃ v', e = .returned (.tuple #[]) ∧ KSt w g b n v { t with c2 := v' } { T with joining := more T.joining c x } sv st w' ∧ wr.grownBy w' (some b) := by
  obtain ⟨v', rfl, hb', hg, hz, hp⟩ := ret
  obtain ⟨h1, h2, h3, h4⟩ := h.keepAdd hgb hb hg
  refine ⟨v', rfl, ⟨by simpa using hb', ?_, h2, h3, h4⟩, hg⟩
  by_cases hx : 0 < x
  · have hp' := hp hx ([g, b] ++ sv.ownBlock.toList) (h.inS hgb hb)
    rw [veil_size] at hp'
    exact { h1 with r2 := by show Spans _ _ _ (more T.joining c x); unfold more; rw [if_pos hx]; exact hp' }
  · have hv := hz (by omega)
    exact { h1 with r2 := by show Spans _ _ v' (more T.joining c x); unfold more; rw [if_neg hx, hv]; exact h1.r2 }
theorem KSt.add3 (h : KSt w g b n v t T sv st wr) (hgb : g < b) (hb : b < w.heap.size) {c x : Int} {e : Ending} (ret : RetAdd wr b 3 26 t.cells t.c3 T.bidi c c x e w') :
    ∃ v', e = .returned (.tuple #[]) ∧ KSt w g b n v { t with c3 := v' } { T with bidi := more T.bidi c x } sv st w' ∧ wr.grownBy w' (some b) := by
  obtain ⟨v', rfl, hb', hg, hz, hp⟩ := ret
  obtain ⟨h1, h2, h3, h4⟩ := h.keepAdd hgb hb hg
  refine ⟨v', rfl, ⟨by simpa using hb', ?_, h2, h3, h4⟩, hg⟩
  by_cases hx : 0 < x
  · have hp' := hp hx ([g, b] ++ sv.ownBlock.toList) (h.inS hgb hb)
    rw [veil_size] at hp'
    exact { h1 with r3 := by show Spans _ _ _ (more T.bidi c x); unfold more; rw [if_pos hx]; exact hp' }
  · have hv := hz (by omega)
    exact { h1 with r3 := by show Spans _ _ v' (more T.bidi c x); unfold more; rw [if_neg hx, hv]; exact h1.r3 }
theorem KSt.add4 (h : KSt w g b n v t T sv st wr) (hgb : g < b) (hb : b < w.heap.size) {c x : Int} {e : Ending} (ret : RetAdd wr b 4 26 t.cells t.c4 T.script c c x e w') :
    ∃ v', e = .returned (.tuple #[]) ∧ KSt w g b n v { t with c4 := v' } { T with script := more T.script c x } sv st w' ∧ wr.grownBy w' (some b) := by
  obtain ⟨v', rfl, hb', hg, hz, hp⟩ := ret
  obtain ⟨h1, h2, h3, h4⟩ := h.keepAdd hgb hb hg
  refine ⟨v', rfl, ⟨by simpa using hb', ?_, h2, h3, h4⟩, hg⟩
  by_cases hx : 0 < x
  · have hp' := hp hx ([g, b] ++ sv.ownBlock.toList) (h.inS hgb hb)
    rw [veil_size] at hp'
    exact { h1 with r4 := by show Spans _ _ _ (more T.script c x); unfold more; rw [if_pos hx]; exact hp' }
  · have hv := hz (by omega)
    exact { h1 with r4 := by show Spans _ _ v' (more T.script c x); unfold more; rw [if_neg hx, hv]; exact h1.r4 }
theorem KSt.add6 (h : KSt w g b n v t T sv st wr) (hgb : g < b) (hb : b < w.heap.size) {c x : Int} {e : Ending} (ret : RetAdd wr b 6 26 t.cells t.c6 T.ignorable c c x e w') :
    ∃ v', e = .returned (.tuple #[]) ∧ KSt w g b n v { t with c6 := v' } { T with ignorable := more T.ignorable c x } sv st w' ∧ wr.grownBy w' (some b) := by
  obtain ⟨v', rfl, hb', hg, hz, hp⟩ := ret
  obtain ⟨h1, h2, h3, h4⟩ := h.keepAdd hgb hb hg
  refine ⟨v', rfl, ⟨by simpa using hb', ?_, h2, h3, h4⟩, hg⟩
  by_cases hx : 0 < x
  · have hp' := hp hx ([g, b] ++ sv.ownBlock.toList) (h.inS hgb hb)
    rw [veil_size] at hp'
    exact { h1 with r6 := by show Spans _ _ _ (more T.ignorable c x); unfold more; rw [if_pos hx]; exact hp' }
  · have hv := hz (by omega)
    exact { h1 with r6 := by show Spans _ _ v' (more T.ignorable c x); unfold more; rw [if_neg hx, hv]; exact h1.r6 }
/-- One status more. -/
theorem KSt.status (h : KSt w g b n v t T sv st wr) (hgb : g < b) (hb : b < w.heap.size) {Y : World} {sv' : Value} {st' : List Int}
    (ho : onlyIn [] wr Y) (hg : Y.grownBy w' sv.ownBlock) (hr : ∀ q, sv'.ownBlock = some q → sv.ownBlock = some q ∨ q = Y.heap.size) (hS : w'.ownsRow w.heap.size 3 1 sv' st'.length (st'.map (Value.int .i64))) :
    KSt w g b n v t T sv' st' w' := by
  have hown := h.own
  have hnot : ∀ q, q < w.heap.size → some q ≠ sv.ownBlock := fun q hq e => by have := hown q e.symm; omega
  have k1 := onlyIn_reveil (S1 := [g, b] ++ sv.ownBlock.toList) (ho.more (S' := [g, b]) (by simp)) fun x hx => List.mem_append_left _ hx
  have k2 := grown_reveil (S := [g, b]) (v := sv) (v' := sv') hg hr
  refine ⟨(ho.blk h.blk (by simp)).grown hg (hnot b hb), ((((h.tr.reveil k1).more ho.2.2.2.1).reveil k2)).more hg.size, hS, ?_, ?_⟩
  · obtain ⟨i, h1, h2⟩ := h.src
    exact ⟨i, h1, (ho.blk h2 (by simp)).grown hg (hnot g (by omega))⟩
  · have oX := h.oi.trans (ho.more (S' := [g, b]) (by simp))
    exact ⟨hg.os.trans oX.1, hg.tape.trans oX.2.1, hg.output.trans oX.2.2.1, Nat.le_trans oX.2.2.2.1 hg.size, fun q hq hl => (hg.block q (by have := oX.2.2.2.1; omega) (hnot q (by omega))).trans (oX.2.2.2.2 q hq hl)⟩
end
end Go.Proofs.YtkdhldhbjomiaaaDoor
/-
  The walks through keep.usual and keep.choose.
-/
namespace Go.Proofs.YtkdhldhbjomiaaaDoor
open Go.RowKit ND

/-- Six usual properties. -/
def RetUsual (w : World) (e : Ending) (w' : World) : Prop :=
  ∃ u0 u1 u2 u3 u4 u5 : Int, e = .returned (.agg #[.int .i64 u0, .int .i64 u1, .int .i64 u2, .int .i64 u3, .int .i64 u4, .int .i64 u5]) ∧ (0 ≤ u0 ∧ u0 ≤ 8) ∧ (0 ≤ u1 ∧ u1 ≤ 254) ∧ (0 ≤ u2 ∧ u2 ≤ 5) ∧ (0 ≤ u3 ∧ u3 ≤ 11) ∧ (0 ≤ u4 ∧ u4 ≤ 60) ∧ (u5 = 0 ∨ u5 = 1 ∨ u5 = 4) ∧ Below w.heap.size w w'

set_option maxRecDepth 100000 in
set_option maxHeartbeats 4000000 in
theorem usual_any (c : Int) (w : World) : Calls Tryd.prog 54 #[.int .i64 c] w (RetUsual w) := by
  by_cases q173 : c = 173
  · subst q173; (go_enter Tryd.func54, Tryd.ntmps54; go_wp2; all_goals exact bodyPost_ret (v := .agg #[.int .i64 8, .int .i64 0, .int .i64 5, .int .i64 9, .int .i64 1, .int .i64 4]) (by simp [results, Tryd.results54, go_sem]) rfl ⟨8, 0, 5, 9, 1, 4, rfl, by omega, by omega, by omega, by omega, by omega, by omega, Below.alloc (Below.refl _ _) (Nat.le_refl _) _⟩)
  by_cases q8204 : c = 8204
  · subst q8204; (go_enter Tryd.func54, Tryd.ntmps54; go_wp2; all_goals exact bodyPost_ret (v := .agg #[.int .i64 8, .int .i64 0, .int .i64 5, .int .i64 9, .int .i64 1, .int .i64 4]) (by simp [results, Tryd.results54, go_sem]) rfl ⟨8, 0, 5, 9, 1, 4, rfl, by omega, by omega, by omega, by omega, by omega, by omega, Below.alloc (Below.refl _ _) (Nat.le_refl _) _⟩)
  by_cases q8205 : c = 8205
  · subst q8205; (go_enter Tryd.func54, Tryd.ntmps54; go_wp2; all_goals exact bodyPost_ret (v := .agg #[.int .i64 8, .int .i64 0, .int .i64 5, .int .i64 9, .int .i64 1, .int .i64 4]) (by simp [results, Tryd.results54, go_sem]) rfl ⟨8, 0, 5, 9, 1, 4, rfl, by omega, by omega, by omega, by omega, by omega, by omega, Below.alloc (Below.refl _ _) (Nat.le_refl _) _⟩)
  by_cases q183 : c = 183
  · subst q183; (go_enter Tryd.func54, Tryd.ntmps54; go_wp2; all_goals exact bodyPost_ret (v := .agg #[.int .i64 5, .int .i64 0, .int .i64 0, .int .i64 8, .int .i64 1, .int .i64 1]) (by simp [results, Tryd.results54, go_sem]) rfl ⟨5, 0, 0, 8, 1, 1, rfl, by omega, by omega, by omega, by omega, by omega, by omega, Below.alloc (Below.refl _ _) (Nat.le_refl _) _⟩)
  by_cases q885 : c = 885
  · subst q885; (go_enter Tryd.func54, Tryd.ntmps54; go_wp2; all_goals exact bodyPost_ret (v := .agg #[.int .i64 5, .int .i64 0, .int .i64 0, .int .i64 8, .int .i64 1, .int .i64 1]) (by simp [results, Tryd.results54, go_sem]) rfl ⟨5, 0, 0, 8, 1, 1, rfl, by omega, by omega, by omega, by omega, by omega, by omega, Below.alloc (Below.refl _ _) (Nat.le_refl _) _⟩)
  by_cases q12539 : c = 12539
  · subst q12539; (go_enter Tryd.func54, Tryd.ntmps54; go_wp2; all_goals exact bodyPost_ret (v := .agg #[.int .i64 5, .int .i64 0, .int .i64 0, .int .i64 8, .int .i64 1, .int .i64 1]) (by simp [results, Tryd.results54, go_sem]) rfl ⟨5, 0, 0, 8, 1, 1, rfl, by omega, by omega, by omega, by omega, by omega, by omega, Below.alloc (Below.refl _ _) (Nat.le_refl _) _⟩)
  by_cases q803 : c = 803
  · subst q803; (go_enter Tryd.func54, Tryd.ntmps54; go_wp2; all_goals exact bodyPost_ret (v := .agg #[.int .i64 2, .int .i64 220, .int .i64 5, .int .i64 10, .int .i64 2, .int .i64 1]) (by simp [results, Tryd.results54, go_sem]) rfl ⟨2, 220, 5, 10, 2, 1, rfl, by omega, by omega, by omega, by omega, by omega, by omega, Below.alloc (Below.refl _ _) (Nat.le_refl _) _⟩)
  by_cases q2381 : c = 2381
  · subst q2381; (go_enter Tryd.func54, Tryd.ntmps54; go_wp2; all_goals exact bodyPost_ret (v := .agg #[.int .i64 2, .int .i64 9, .int .i64 5, .int .i64 10, .int .i64 20, .int .i64 1]) (by simp [results, Tryd.results54, go_sem]) rfl ⟨2, 9, 5, 10, 20, 1, rfl, by omega, by omega, by omega, by omega, by omega, by omega, Below.alloc (Below.refl _ _) (Nat.le_refl _) _⟩)
  by_cases q1072 : c = 1072
  · subst q1072; (go_enter Tryd.func54, Tryd.ntmps54; go_wp2; all_goals exact bodyPost_ret (v := .agg #[.int .i64 1, .int .i64 0, .int .i64 0, .int .i64 0, .int .i64 5, .int .i64 1]) (by simp [results, Tryd.results54, go_sem]) rfl ⟨1, 0, 0, 0, 5, 1, rfl, by omega, by omega, by omega, by omega, by omega, by omega, Below.alloc (Below.refl _ _) (Nat.le_refl _) _⟩)
  by_cases q1488 : c = 1488
  · subst q1488; (go_enter Tryd.func54, Tryd.ntmps54; go_wp2; all_goals exact bodyPost_ret (v := .agg #[.int .i64 1, .int .i64 0, .int .i64 0, .int .i64 1, .int .i64 11, .int .i64 1]) (by simp [results, Tryd.results54, go_sem]) rfl ⟨1, 0, 0, 1, 11, 1, rfl, by omega, by omega, by omega, by omega, by omega, by omega, Below.alloc (Below.refl _ _) (Nat.le_refl _) _⟩)
  by_cases q1523 : c = 1523
  · subst q1523; (go_enter Tryd.func54, Tryd.ntmps54; go_wp2; all_goals exact bodyPost_ret (v := .agg #[.int .i64 1, .int .i64 0, .int .i64 0, .int .i64 1, .int .i64 11, .int .i64 1]) (by simp [results, Tryd.results54, go_sem]) rfl ⟨1, 0, 0, 1, 11, 1, rfl, by omega, by omega, by omega, by omega, by omega, by omega, Below.alloc (Below.refl _ _) (Nat.le_refl _) _⟩)
  by_cases q1576 : c = 1576
  · subst q1576; (go_enter Tryd.func54, Tryd.ntmps54; go_wp2; all_goals exact bodyPost_ret (v := .agg #[.int .i64 1, .int .i64 0, .int .i64 3, .int .i64 2, .int .i64 12, .int .i64 1]) (by simp [results, Tryd.results54, go_sem]) rfl ⟨1, 0, 3, 2, 12, 1, rfl, by omega, by omega, by omega, by omega, by omega, by omega, Below.alloc (Below.refl _ _) (Nat.le_refl _) _⟩)
  by_cases q1577 : c = 1577
  · subst q1577; (go_enter Tryd.func54, Tryd.ntmps54; go_wp2; all_goals exact bodyPost_ret (v := .agg #[.int .i64 1, .int .i64 0, .int .i64 3, .int .i64 2, .int .i64 12, .int .i64 1]) (by simp [results, Tryd.results54, go_sem]) rfl ⟨1, 0, 3, 2, 12, 1, rfl, by omega, by omega, by omega, by omega, by omega, by omega, Below.alloc (Below.refl _ _) (Nat.le_refl _) _⟩)
  by_cases q1632 : c = 1632
  · subst q1632; (go_enter Tryd.func54, Tryd.ntmps54; go_wp2; all_goals exact bodyPost_ret (v := .agg #[.int .i64 3, .int .i64 0, .int .i64 0, .int .i64 3, .int .i64 1, .int .i64 1]) (by simp [results, Tryd.results54, go_sem]) rfl ⟨3, 0, 0, 3, 1, 1, rfl, by omega, by omega, by omega, by omega, by omega, by omega, Below.alloc (Below.refl _ _) (Nat.le_refl _) _⟩)
  by_cases q1776 : c = 1776
  · subst q1776; (go_enter Tryd.func54, Tryd.ntmps54; go_wp2; all_goals exact bodyPost_ret (v := .agg #[.int .i64 3, .int .i64 0, .int .i64 0, .int .i64 4, .int .i64 1, .int .i64 1]) (by simp [results, Tryd.results54, go_sem]) rfl ⟨3, 0, 0, 4, 1, 1, rfl, by omega, by omega, by omega, by omega, by omega, by omega, Below.alloc (Below.refl _ _) (Nat.le_refl _) _⟩)
  by_cases q19968 : c = 19968
  · subst q19968; (go_enter Tryd.func54, Tryd.ntmps54; go_wp2; all_goals exact bodyPost_ret (v := .agg #[.int .i64 1, .int .i64 0, .int .i64 0, .int .i64 0, .int .i64 6, .int .i64 1]) (by simp [results, Tryd.results54, go_sem]) rfl ⟨1, 0, 0, 0, 6, 1, rfl, by omega, by omega, by omega, by omega, by omega, by omega, Below.alloc (Below.refl _ _) (Nat.le_refl _) _⟩)
  have b173 : (c == 173) = false := by simpa using q173
  have b8204 : (c == 8204) = false := by simpa using q8204
  have b8205 : (c == 8205) = false := by simpa using q8205
  have b183 : (c == 183) = false := by simpa using q183
  have b885 : (c == 885) = false := by simpa using q885
  have b12539 : (c == 12539) = false := by simpa using q12539
  have b803 : (c == 803) = false := by simpa using q803
  have b2381 : (c == 2381) = false := by simpa using q2381
  have b1072 : (c == 1072) = false := by simpa using q1072
  have b1488 : (c == 1488) = false := by simpa using q1488
  have b1523 : (c == 1523) = false := by simpa using q1523
  have b1576 : (c == 1576) = false := by simpa using q1576
  have b1577 : (c == 1577) = false := by simpa using q1577
  have b1632 : (c == 1632) = false := by simpa using q1632
  have b1776 : (c == 1776) = false := by simpa using q1776
  have b19968 : (c == 19968) = false := by simpa using q19968
  clear q173 q8204 q8205 q183 q885 q12539 q803 q2381 q1072 q1488 q1523 q1576 q1577 q1632 q1776 q19968
  by_cases r769 : 769 ≤ c ∧ c ≤ 837
  · obtain ⟨h1, h2⟩ := r769
    (go_enter Tryd.func54, Tryd.ntmps54; go_wp2; all_goals exact bodyPost_ret (v := .agg #[.int .i64 2, .int .i64 230, .int .i64 5, .int .i64 10, .int .i64 2, .int .i64 1]) (by simp [results, Tryd.results54, go_sem]) rfl ⟨2, 230, 5, 10, 2, 1, rfl, by omega, by omega, by omega, by omega, by omega, by omega, Below.alloc (Below.refl _ _) (Nat.le_refl _) _⟩)
  by_cases r945 : 945 ≤ c ∧ c ≤ 947
  · obtain ⟨h1, h2⟩ := r945
    (go_enter Tryd.func54, Tryd.ntmps54; go_wp2; all_goals exact bodyPost_ret (v := .agg #[.int .i64 1, .int .i64 0, .int .i64 0, .int .i64 0, .int .i64 4, .int .i64 1]) (by simp [results, Tryd.results54, go_sem]) rfl ⟨1, 0, 0, 0, 4, 1, rfl, by omega, by omega, by omega, by omega, by omega, by omega, Below.alloc (Below.refl _ _) (Nat.le_refl _) _⟩)
  by_cases r7680 : 7680 ≤ c ∧ c ≤ 7684
  · obtain ⟨h1, h2⟩ := r7680
    (go_enter Tryd.func54, Tryd.ntmps54; go_wp2; all_goals exact bodyPost_ret (v := .agg #[.int .i64 1, .int .i64 0, .int .i64 0, .int .i64 0, .int .i64 3, .int .i64 1]) (by simp [results, Tryd.results54, go_sem]) rfl ⟨1, 0, 0, 0, 3, 1, rfl, by omega, by omega, by omega, by omega, by omega, by omega, Below.alloc (Below.refl _ _) (Nat.le_refl _) _⟩)
  (go_enter Tryd.func54, Tryd.ntmps54; go_wp2; all_goals exact bodyPost_ret (v := .agg #[.int .i64 6, .int .i64 0, .int .i64 0, .int .i64 8, .int .i64 1, .int .i64 0]) (by simp [results, Tryd.results54, go_sem]) rfl ⟨6, 0, 0, 8, 1, 0, rfl, by omega, by omega, by omega, by omega, by omega, by omega, Below.alloc (Below.refl _ _) (Nat.le_refl _) _⟩)
end Go.Proofs.YtkdhldhbjomiaaaDoor
/-
  The walk through keep.maps.
-/
namespace Go.Proofs.YtkdhldhbjomiaaaDoor
open Go.RowKit ND

/-- What keep.maps leaves: the statuses and the mappings. -/
def RetMaps (w : World) (g b sb : Nat) (v : Value) (n : Nat) (c0 c1 c2 c3 c4 c6 c7 c9 c10 c11 : Value) (e : Ending) (w' : World) : Prop :=
  ∃ v5 v8 S M, e = .returned (.tuple #[]) ∧ Blk w' b 26 #[c0, c1, c2, c3, c4, v5, c6, c7, v8, c9, c10, c11] ∧ Spans (veil [g, b] w') w'.heap.size v5 S ∧ Mapps (veil [g, b] w') w'.heap.size v8 M ∧ MapN 28 S M ∧
    Src w' g v n ∧ onlyIn [g, b, sb] w w'

theorem set_same {l : List Int} {k : Nat} {x : Int} (h : l[k]? = some x) : l.set k x = l := by
  refine List.ext_getElem? fun i => ?_
  rw [List.getElem?_set]
  split
  · rename_i e; subst e; rw [h]; have := (List.getElem?_eq_some_iff.1 h).1; simp [this]
  · rfl

/-- A sequence that a code point may be mapped to. -/
def mapL (l : List Int) : Prop := ∃ a, (a = 97 ∨ a = 98 ∨ a = 99) ∧ (l = [a] ∨ l = [a, 46])

set_option maxRecDepth 100000 in
set_option maxHeartbeats 4000000 in
theorem keepMaps_any (w : World) (g b sb : Nat) (v : Value) (xs : List Int) (c0 c1 c2 c3 c4 c6 c7 c9 c10 c11 : Value) (st : List Int) (sc : Nat) (hv : Ints w g .i64 v xs) (hs : Src w g v xs.length)
    (hb : Blk w b 26 #[c0, c1, c2, c3, c4, .slice none 0 0, c6, c7, .slice none 0 0, c9, c10, c11]) (hgb : g < b) (hbs : b < sb)
    (hst : StRow w sb 0 st) (hst1 : ∀ x ∈ st, 0 ≤ x ∧ x ≤ 4 ∧ x ≠ 3) (hst2 : st.length = 28) :
    Calls Tryd.prog 58 #[.pointer (some ⟨g, 0, none⟩), .pointer (some ⟨b, 0, none⟩), .slice (some ⟨sb, 0, none⟩) 28 sc] w (RetMaps w g b sb v xs.length c0 c1 c2 c3 c4 c6 c7 c9 c10 c11) := by
  have HV := Lib.hid hv
  have HT := Lib.hid hst
  have hsb : sb < w.heap.size := by obtain ⟨cs, h, _⟩ := hst; exact h.lt
  have HS := Lib.hid hs
  have HB := Lib.hid hb
  clear hv hs hb hst
  go_enter Tryd.func58, Tryd.ntmps58
  go_wp2_with (go_at_call 53; refine (pool_any _).mono ?_; rintro e w1 ⟨rfl, rfl⟩)
  have hI : MSt w g b sb xs.length v c0 c1 c2 c3 c4 c6 c7 c9 c10 c11 0 (.slice none 0 0) (.slice none 0 0) [] [] st (w.alloc (.cells (poolL.map (Value.int .i64)).toArray 3)) :=
    ⟨HB.out.alloc _, Spans.none_, OwnM.nil _ _ _, (by obtain ⟨i, h1, h2⟩ := HS.out; exact ⟨i, h1, h2.alloc _⟩), onlyIn.of_below (Below.alloc (Below.refl _ _) (Nat.le_refl _) _), Blk.new _ _ _, (by obtain ⟨cs, h1, h2⟩ := HT.out; exact ⟨cs, h1.alloc _, h2⟩)⟩
  have HI := Lib.hid hI
  clear hI HS HB HT
  generalize w.alloc (.cells (poolL.map (Value.int .i64)).toArray 3) = w1 at *
  go_loopg [13] 28 (fun gk iv wr => ∃ (k : Nat) (v5 v8 : Value) (S : List Sp) (M : List Mp), iv = .int .i64 k ∧ k + gk = 28 ∧ Hid (MSt w g b sb xs.length v c0 c1 c2 c3 c4 c6 c7 c9 c10 c11 k v5 v8 S M st wr) ∧ Hid (MapN k S M))
  case atStart => exact ⟨0, _, _, [], [], rfl, rfl, HI, Lib.hid (MapN.nil 0)⟩
  case round =>
    obtain ⟨k, v5, v8, S, M, rfl, hk, HM, HN⟩ := hrel
    by_cases hlt : k < 28
    · obtain ⟨c, hc, _⟩ := get_of (show k < poolL.length from hlt)
      have d0 : wr.cell? ⟨w.heap.size, k, none⟩ = some (.int .i64 c) := HM.out.pool.at_ (by simp [hc])
      have HNX : Hid (∀ (W : World) (m : Int), onlyIn [g, b, sb] w W → Src W g v xs.length → 0 < m → m ≤ 1000000 → Calls Tryd.prog 52 #[.pointer (some ⟨g, 0, none⟩), .int .i64 m] W (RetNext W g v xs.length m)) :=
        Lib.hid fun W m h1 h2 h3 h4 => next_src W g v xs m (HV.out.below (h1.below (by intro x hx; simp at hx; omega) (by omega))) h2 h3 h4
      have hdl : decide ((k : Int) < (28 : Int)) = true := by simp; omega
      go_upto_region 4 with fail
      go_cut [32] from 18 to 32 (fun s32 wx => ∃ d : Bool, s32 = .bool d ∧ Hid (MSt w g b sb xs.length v c0 c1 c2 c3 c4 c6 c7 c9 c10 c11 k v5 v8 S M st wx))
      case first =>
        have hN2 := HNX.out wr 2 HM.out.oi HM.out.src (by decide) (by decide)
        by_cases ha : c = 128512
        · have n1 : (c == 128512) = true := by simpa using ha
          go_wp2; go_meet; case rel => exact ⟨true, rfl, HM⟩
        · have n1 : (c == 128512) = false := by simpa using ha
          by_cases hb : c = 7684
          · have n2 : (c == 7684) = true := by simpa using hb
            go_wp2; go_meet; case rel => exact ⟨true, rfl, HM⟩
          · have n2 : (c == 7684) = false := by simpa using hb
            by_cases hd : c = 947
            · have n3 : (c == 947) = true := by simpa using hd
              clear ha hb hd
              go_wp2_with (go_at_call 52; refine hN2.mono ?_; rintro e w2 ⟨q, rfl, q0, q1, hs2, hg2⟩)
              all_goals go_meet
              all_goals case rel => exact ⟨_, rfl, Lib.hid (HM.out.only hgb hbs hsb (onlyIn.of_grown hg2 (by simp)) hs2)⟩
            · have n3 : (c == 947) = false := by simpa using hd
              go_wp2; go_meet; case rel => exact ⟨false, rfl, HM⟩
      case rest =>
        obtain ⟨d, rfl, HM1⟩ := hcut
        clear d0 HM
        go_upto_if 32 with fail
        go_cut [] from 33 to 62 (fun wx => ∃ v8' M' x, Hid (MSt w g b sb xs.length v c0 c1 c2 c3 c4 c6 c7 c9 c10 c11 k v5 v8' S M' (st.set k x) wx) ∧ Hid ((M' = M ∧ 0 ≤ x ∧ x ≤ 4 ∧ x ≠ 3) ∨ (x = 3 ∧ ∃ l, M' = M ++ [(c, l)] ∧ mapL l)))
        case first =>
          cases d
          · obtain ⟨x, hx, hxm⟩ := get_of (show k < st.length by omega)
            go_wp2
            go_meet
            case rel => exact ⟨v8, M, x, Lib.hid (by rw [set_same hx]; exact HM1.out), Lib.hid (.inl ⟨rfl, hst1 x hxm⟩)⟩
          · have hN0 := HNX.out wc 3 HM1.out.oi HM1.out.src (by decide) (by decide)
            go_upto_region 6 with (go_at_call 52; refine hN0.mono ?_; rintro e w2 ⟨q, rfl, q0, q1, hs2, hg2⟩)
            have HM2 := Lib.hid (HM1.out.only hgb hbs hsb (onlyIn.of_grown hg2 (by simp)) hs2)
            have hX5 : XAt ((w2.alloc (.cells #[.int .i64 (97 + q)] 3)).alloc (.cells #[.int .i64 c, .slice (some ⟨w2.heap.size, 0, none⟩) 1 1] 54)) (w2.heap.size + 1) w2.heap.size c (.slice (some ⟨w2.heap.size, 0, none⟩) 1 1) [97 + q] :=
              ⟨by have h := Blk.new (w2.alloc (.cells #[.int .i64 (97 + q)] 3)) 54 #[.int .i64 c, .slice (some ⟨w2.heap.size, 0, none⟩) 1 1]; simpa using h, (own_new w2 3 [97 + q] (by simp)).alloc _⟩
            have hO5 : onlyIn [g] w2 ((w2.alloc (.cells #[.int .i64 (97 + q)] 3)).alloc (.cells #[.int .i64 c, .slice (some ⟨w2.heap.size, 0, none⟩) 1 1] 54)) :=
              onlyIn.of_below (((Below.refl _ _).alloc (Nat.le_refl _) _).alloc (by simp) _)
            have hS5 : Src ((w2.alloc (.cells #[.int .i64 (97 + q)] 3)).alloc (.cells #[.int .i64 c, .slice (some ⟨w2.heap.size, 0, none⟩) 1 1] 54)) g v xs.length := by
              obtain ⟨i, h1, h2⟩ := hs2
              exact ⟨i, h1, (h2.alloc _).alloc _⟩
            have hsb2 : sb < w2.heap.size := by have h1 := HM1.out.oi.2.2.2.1; have h2 := hg2.size; omega
            have hz5 : w2.heap.size + 1 < ((w2.alloc (.cells #[.int .i64 (97 + q)] 3)).alloc (.cells #[.int .i64 c, .slice (some ⟨w2.heap.size, 0, none⟩) 1 1] 54)).heap.size := by simp
            have HX5 := Lib.hid hX5
            have HO5 := Lib.hid hO5
            have HS5 := Lib.hid hS5
            clear hX5 hO5 hS5 hs2 hg2 HM1
            generalize (w2.alloc (.cells #[.int .i64 (97 + q)] 3)).alloc (.cells #[.int .i64 c, .slice (some ⟨w2.heap.size, 0, none⟩) 1 1] 54) = W5 at *
            have HNW : Hid (∀ (W : World) (m : Int), onlyIn [g] w2 W → Src W g v xs.length → 0 < m → m ≤ 1000000 → Calls Tryd.prog 52 #[.pointer (some ⟨g, 0, none⟩), .int .i64 m] W (RetNext W g v xs.length m)) :=
              Lib.hid fun W m h1 h2 h3 h4 => HNX.out W m (HM2.out.only hgb hbs hsb h1 h2).oi h2 h3 h4
            obtain ⟨B0, HB0⟩ : ∃ B0, Hid (B0 = w2.heap.size) := ⟨_, Lib.hid rfl⟩
            rw [← HB0.out] at hsb2 hz5 HX5
            simp only [← HB0.out]
            have hN6 := HNW.out W5 2 HO5.out HS5.out (by decide) (by decide)
            go_upto_if 41 with (go_at_call 52; refine hN6.mono ?_; rintro e w6 ⟨q6, rfl, q60, q61, hs6, hg6⟩; have HO6 := Lib.hid (HO5.out.trans (onlyIn.of_grown hg6 (by simp))); have HS6 := Lib.hid hs6; have HX6 := Lib.hid (HX5.out.grown hg6 (by omega) (by omega)); have hz6 := Nat.le_trans hz5 hg6.size; clear hs6 hg6)
            go_cut [] from 41 to 46 (fun wx => ∃ sv l, Hid (onlyIn [g] w2 wx) ∧ Hid (Src wx g v xs.length) ∧ Hid (XAt wx (B0 + 1) B0 c sv l) ∧ Hid (mapL l) ∧ B0 + 1 < wx.heap.size)
            case first =>
              by_cases h46 : q6 = 0
              · have n6 : (q6 == 0) = true := by simpa using h46
                have hb6 := HX6.out.1
                have d1 := hb6.at_ (i := 1) rfl
                have HB6 := Lib.hid hb6
                clear hb6 h46
                obtain ⟨i0, hi, hz0, hz1, hz2⟩ := info_parts Tryd.infoInt'
                go_wp2_with (at_builtin; refine wpList_append_ints (by rfl) (.tmp 43) (.tmp 44) rfl Tryd.underlying24 hi hz0 hz1 hz2 (w6.heap.size + 1) B0 (.slice (some ⟨B0, 0, none⟩) 1 1) [97 + q] (.slice (some ⟨w6.heap.size, 0, none⟩) 1 1) [46] rfl (HX6.out.2.alloc _) rfl (by have h := Ints.of_own (own_new w6 3 [46] (by simp)); simpa using h) (by simp) (by simp; omega) ?_; intro v7 w7 hown7 hg7 _; have hb7 := (HB6.out.alloc (.cells #[.int .i64 46] 3)).grown hg7 (by simp [Value.ownBlock]); have e7 := hb7.at_ (i := 1) rfl; have f7 := hb7.free 1; have HB7 := Lib.hid hb7; have HOW7 := Lib.hid hown7; obtain ⟨A7, m7, c7', rfl⟩ := own_slice HOW7.out; have HG7 := Lib.hid hg7; clear hb7 hown7 hg7)
                go_meet
                case rel =>
                  have hB0 := HB0.out
                  refine ⟨_, [97 + q, 46], Lib.hid (((HO6.out.far (World.grownBy_alloc w6 _ none) (by simp)).far HG7.out ?_).far (grown_setCell (grown_refl w7 (some (B0 + 1))) 1 _) ?_), Lib.hid (((HS6.out.alloc _).grown HG7.out ?_).grown (grown_setCell (grown_refl w7 (some (B0 + 1))) 1 _) ?_), Lib.hid (XAt.put1 HB7.out HOW7.out), Lib.hid ⟨97 + q, by omega, .inr rfl⟩, ?_⟩
                  · intro x hx; simp [Value.ownBlock] at hx; omega
                  · intro x hx; simp at hx; omega
                  · simp [Value.ownBlock]; omega
                  · simp; omega
                  · have := HG7.out.size; simp at this ⊢; omega
              · have n6 : (q6 == 0) = false := by simpa using h46
                clear h46
                go_wp2
                go_meet
                case rel => exact ⟨_, _, HO6, HS6, HX6, Lib.hid ⟨97 + q, by omega, .inl rfl⟩, by omega⟩
            case rest =>
              obtain ⟨sv, l, HO7, HS7, HX7, HL, hz7⟩ := hcut
              clear HO6 HS6 HX6 hz6 HO5 HS5 HX5 hz5
              have hN8 := HNW.out wc 3 HO7.out HS7.out (by decide) (by decide)
              go_upto_if 49 with (go_at_call 52; refine hN8.mono ?_; rintro e w8 ⟨q8, rfl, q80, q81, hs8, hg8⟩; have HO8 := Lib.hid (HO7.out.trans (onlyIn.of_grown hg8 (by simp))); have HS8 := Lib.hid hs8; have HX8 := Lib.hid (HX7.out.grown hg8 (by omega) (by omega)); have hz8 := Nat.lt_of_lt_of_le hz7 hg8.size; clear hs8 hg8)
              have HM8 := Lib.hid (HM2.out.only hgb hbs hsb HO8.out HS8.out)
              by_cases h8 : 0 < q8
              · go_upto_region 9 with fail
                go_cut [] from 49 to 59 (fun wx => ∃ v8', Hid (MSt w g b sb xs.length v c0 c1 c2 c3 c4 c6 c7 c9 c10 c11 k v5 v8' S (M ++ [(c, l)]) st wx))
                case first =>
                  have hb8 := HM8.out.blk
                  have e8 := hb8.at_ (i := 8) rfl
                  have f8 := hb8.free 8
                  have hx8 := HX8.out.1
                  have x0 := hx8.at_ (i := 0) rfl
                  have x1 := hx8.at_ (i := 1) rfl
                  have ea := (hb8.alloc (.cells #[.int .i64 c, sv] 54)).at_ (i := 8) rfl
                  have HBA := Lib.hid (hb8.alloc (.cells #[.int .i64 c, sv] 54))
                  have HOX : Hid (onlyIn [] w8 (w8.alloc (.cells #[.int .i64 c, sv] 54)).drew) := Lib.hid (onlyIn.of_below ((Below.refl _ _).alloc (Nat.le_refl _) _).drew)
                  have HMX := Lib.hid (HM8.out.only hgb hbs hsb (HOX.out.more (by simp)) (show Src (w8.alloc (.cells #[.int .i64 c, sv] 54)).drew g v xs.length from HM8.out.src.alloc _))
                  have HIX : Hid (Ints (veil ([g, b, sb] ++ v8.ownBlock.toList) (w8.alloc (.cells #[.int .i64 c, sv] 54)).drew) (w8.alloc (.cells #[.int .i64 c, sv] 54)).drew.heap.size .i64 sv l) := by
                    have h := Ints.veil_own (S := [g, b, sb] ++ v8.ownBlock.toList) (show World.ownsRow (w8.alloc (.cells #[.int .i64 c, sv] 54)).drew B0 3 1 sv l.length (l.map (Value.int .i64)) from HX8.out.2.alloc _) (fun q hq => by
                      rcases List.mem_append.1 hq with hq | hq
                      · simp at hq; omega
                      · rw [Option.mem_toList] at hq; have := (HM2.out.own q hq).2; have := HB0.out; omega)
                    rw [veil_size] at h
                    exact Lib.hid h
                  have HKX : Hid (Blk (w8.alloc (.cells #[.int .i64 c, sv] 54)).drew w8.heap.size 54 #[.int .i64 c, sv]) := Lib.hid (Blk.new w8 54 #[.int .i64 c, sv])
                  have hml : M.length ≤ 1000000 := by have h := HN.out.same; have h2 := colN_len HN.out.col; have := congrArg List.length h; simp [keysOf] at this; have := List.length_filter_le (fun s : Sp => decide (s.2.2 = 3)) S; omega
                  have hsz8 : w.heap.size + 1 ≤ (w8.alloc (.cells #[.int .i64 c, sv] 54)).drew.heap.size := by have h1 := HM8.out.oi.2.2.2.1; simp; omega
                  obtain ⟨i0, hi, hz0, hz1, hz2⟩ := info_parts Tryd.infoMap
                  clear hb8 hx8
                  go_region_law (first
                    | (refine step_app_map rfl (.tmp 54) (.tmp 56) rfl Tryd.underlying23 hi _ hz0 hz1 hz2 rfl [g, b, sb] (w.heap.size + 1) v8 M w8.heap.size c sv l rfl rfl HMX.out.om HKX.out HIX.out hml hsz8 ?_; intro v9 w9 hM9 hg9 hr9 hs9; have hb9 := (show Blk (w8.alloc (.cells #[.int .i64 c, sv] 54)).drew b 26 #[c0, c1, c2, c3, c4, v5, c6, c7, v8, c9, c10, c11] from HBA.out).grown hg9 (fun e => by have := (HM8.out.own b e.symm).1; omega); have e9 := hb9.at_ (i := 8) rfl; have f9 := hb9.free 8; have HM9 := Lib.hid hM9; have HG9 := Lib.hid hg9; have HR9 := Lib.hid hr9; obtain ⟨A9, m9, c9', rfl⟩ := hs9; clear hb9 hM9 hg9 hr9))
                  all_goals go_wp2
                  all_goals go_meet
                  all_goals case rel => exact ⟨_, Lib.hid (HM8.out.append hgb hbs hsb HOX.out HG9.out HR9.out HM9.out)⟩
                case rest =>
                  obtain ⟨v8', HM9⟩ := hcut
                  clear HM8 HX8 HO8 HS8
                  have k1 : (k : Int) < 28 := by omega
                  obtain ⟨ct, ht1, ht2⟩ := HM9.out.row
                  obtain ⟨x, hx, hxm⟩ := get_of (show k < st.length by omega)
                  have d1 := ht1.at_ (ht2 k x (Nat.le_refl _) hx)
                  have f1 := ht1.free k
                  clear ht1 ht2 hx hxm hdl
                  go_wp2
                  go_meet
                  case rel => exact ⟨v8', _, 3, Lib.hid (HM9.out.status hgb hbs hsb 3), Lib.hid (.inr ⟨rfl, l, rfl, HL.out⟩)⟩
              · obtain ⟨x, hx, hxm⟩ := get_of (show k < st.length by omega)
                go_wp2
                go_meet
                case rel => exact ⟨v8, M, x, Lib.hid (by rw [set_same hx]; exact HM8.out), Lib.hid (.inl ⟨rfl, hst1 x hxm⟩)⟩
        case rest =>
          obtain ⟨v8', M', x, HM2, HX⟩ := hcut
          clear HM1 HNX
          obtain ⟨ct, ht1, ht2⟩ := HM2.out.row
          have d1 := ht1.at_ (ht2 k x (Nat.le_refl _) (by rw [List.getElem?_set_self (by omega)]))
          have e5 := HM2.out.blk.at_ (i := 5) rfl
          have hsl : S.length ≤ 1000000 := by have := colN_len HN.out.col; omega
          have hsu : Hid (Spans wc wc.heap.size v5 S) := Lib.hid HM2.out.sp.unveil
          clear ht1 ht2 hdl
          have k1 : (k : Int) < 28 := by omega
          go_wp2
          go_region_law (go_simp; go_at_call 56; refine (add_any wc.drew b 5 26 #[c0, c1, c2, c3, c4, v5, c6, c7, v8', c9, c10, c11] v5 S c c 0 x (show Blk wc.drew b 26 #[c0, c1, c2, c3, c4, v5, c6, c7, v8', c9, c10, c11] from HM2.out.blk) rfl (show Spans wc.drew wc.drew.heap.size v5 S from hsu.out) hsl).mono ?_; intro e w5 hret; obtain ⟨v5', S', rfl, hM5, hx0, hx1⟩ := HM2.out.add hgb hbs hsb hret; have HM5 := Lib.hid hM5; clear hret hM5; have HX0 := Lib.hid hx0; have HX1 := Lib.hid hx1; clear hx0 hx1)
          all_goals go_wp2
          go_roundg (27 - k)
          case measure => omega
          case rel =>
            refine ⟨k + 1, v5', v8', S', M', by go_num, by omega, Lib.hid (HM5.out.up fun j y hj hy => by rw [List.getElem?_set_ne (by omega)]; exact hy), Lib.hid ?_⟩
            rcases HX.out with ⟨rfl, h1, h2, h3⟩ | ⟨h, l, rfl, hl⟩
            · by_cases h0 : x ≤ 0
              · rw [HX0.out h0]; exact HN.out.skip
              · rw [HX1.out (by omega)]; exact HN.out.plain hc (by omega) (by omega) (by omega)
            · rw [HX1.out (by omega)]; subst h; exact HN.out.mapped hc hl
    · have hk28 : k = 28 := by omega
      subst hk28
      go_wp2
      go_end0
      refine ⟨v5, v8, S, M, rfl, HM.out.blk, ?_, ?_, HN.out, HM.out.src, HM.out.oi⟩
      · exact HM.out.sp.reveil fun p x _ hp hx => ⟨fun h => hp (List.mem_append_left _ (by simp at h ⊢; omega)), hx⟩
      · have h := HM.out.om.mapps (by intro x hx; simp at hx; omega)
        rw [veil_size] at h
        exact h.reveil fun p x _ hp hx => ⟨fun h => hp (by simp at h ⊢; omega), hx⟩
end Go.Proofs.YtkdhldhbjomiaaaDoor
/-
  The walk through keep.Same at integers.
-/
namespace Go.Proofs.YtkdhldhbjomiaaaDoor
open Go.RowKit ND

theorem same_step {xs ys : List Int} {k : Nat} {x : Int} (h : xs.take k = ys.take k) (hx : xs[k]? = some x) (hy : ys[k]? = some x) : xs.take (k + 1) = ys.take (k + 1) := by
  obtain ⟨a, a'⟩ := List.getElem?_eq_some_iff.1 hx
  obtain ⟨b, b'⟩ := List.getElem?_eq_some_iff.1 hy
  rw [List.take_succ_eq_append_getElem a, List.take_succ_eq_append_getElem b, h, a', b']

set_option maxRecDepth 100000 in
set_option maxHeartbeats 1000000 in
theorem same_any (v u : Value) (xs ys : List Int) (w : World) (hv : Ints w w.heap.size .i64 v xs) (hu : Ints w w.heap.size .i64 u ys) :
    Calls Tryd.prog 31 #[v, u] w fun e w' => e = .returned (.bool (decide (xs = ys))) ∧ Below w.heap.size w w' := by
  obtain ⟨A, c, rfl, hc1, hc2, _, hcell⟩ := hv
  obtain ⟨A', c', rfl, hc1', hc2', _, hcell'⟩ := hu
  have HC := Lib.hid hcell; clear hcell
  have HC' := Lib.hid hcell'; clear hcell'
  have hl : xs.length ≤ 9223372036854775807 := by unfold maxLen at hc2; omega
  clear hc2 hc2' hc1 hc1'
  by_cases hlen : xs.length = ys.length
  · have hb : ((xs.length : Int) != (ys.length : Int)) = false := by rw [hlen]; simp
    have hl1 : xs.length ≤ ys.length := by omega
    have hl2 : ys.length ≤ xs.length := by omega
    clear hlen
    obtain ⟨R, hR⟩ : ∃ R, R = decide (xs = ys) := ⟨_, rfl⟩
    rw [← hR]
    have HR := Lib.hid hR; clear hR
    go_enter Tryd.func31, Tryd.ntmps31
    go_wp2_with fail
    go_loopw [13] (fun i wr => ∃ k : Nat, k ≤ xs.length ∧ i = .int .i64 k ∧ Hid (xs.take k = ys.take k) ∧ Below w.heap.size w wr) (fun i _ => xs.length - (intOf i).toNat)
    case atStart => exact ⟨0, by omega, rfl, Lib.hid (by simp), Below.refl _ _⟩
    case round =>
      obtain ⟨k, hk, rfl, HS, hbel⟩ := hrel
      by_cases hlt : k < xs.length
      · obtain ⟨x, hxk, _⟩ := get_of hlt
        obtain ⟨y, hyk, _⟩ := get_of (show k < ys.length by omega)
        obtain ⟨ad, rfl, ha, hce⟩ := HC.out k x hxk
        obtain ⟨ad', rfl, ha', hce'⟩ := HC'.out k y hyk
        have e1 := (hbel.cell (p := ad.add k) (by rw [block_of_add]; exact ha)).trans hce
        have e2 := (hbel.cell (p := ad'.add k) (by rw [block_of_add]; exact ha')).trans hce'
        have HX := Lib.hid hxk
        have HY := Lib.hid hyk
        clear hce hce' hxk hyk ha ha'
        have k0 : (0 : Int) ≤ (k : Int) := by omega
        have k1 : (k : Int) < (xs.length : Int) := by omega
        have k2 : (k : Int) < (ys.length : Int) := by omega
        by_cases hxy : x = y
        · have hb2 : (x != y) = false := by rw [hxy]; simp
          have HT := Lib.hid (same_step HS.out HX.out (by rw [hxy]; exact HY.out))
          clear hxy
          go_wp2_with fail
          go_quiet (fail)
          go_wp2_with fail
          go_roundw
          case rel => exact ⟨k + 1, by omega, by go_num, HT, below_drewN hbel nq⟩
          case measure => simp [intOf]; omega
        · have hb2 : (x != y) = true := by rw [bne_iff_ne]; exact hxy
          have HN : Hid (R = false) := by
            refine Lib.hid ?_
            rw [HR.out, decide_eq_false_iff_not]
            rintro rfl
            have := HX.out.symm.trans HY.out
            simp at this
            exact hxy this
          clear hxy
          go_wp2_with fail
          go_quiet (fail)
          go_wp2_with fail
          go_ret
          rw [HN.out]
          exact ⟨rfl, below_drewN hbel nq⟩
      · have HN : Hid (R = true) := by
          refine Lib.hid ?_
          rw [HR.out, decide_eq_true_iff]
          have h := HS.out
          rw [List.take_of_length_le (by omega), List.take_of_length_le (by omega)] at h
          exact h
        go_wp2_with fail
        go_ret
        rw [HN.out]
        exact ⟨rfl, hbel⟩
  · have hb : ((xs.length : Int) != (ys.length : Int)) = true := by rw [bne_iff_ne]; omega
    have hn : decide (xs = ys) = false := by
      rw [decide_eq_false_iff_not]; rintro rfl; exact hlen rfl
    rw [hn]
    clear hn hlen
    go_enter Tryd.func31, Tryd.ntmps31
    go_wp2_with fail
    go_ret
    exact ⟨rfl, Below.refl _ _⟩
end Go.Proofs.YtkdhldhbjomiaaaDoor
/-
  The walk through keep.decomps.
-/
namespace Go.Proofs.YtkdhldhbjomiaaaDoor
open Go.RowKit ND

/-- What keep.decomps leaves: the decompositions and the exclusions. -/
def RetDec (w : World) (g b : Nat) (v : Value) (n : Nat) (c0 c1 c2 c3 c4 c5 c6 c7 c8 c11 : Value) (e : Ending) (w' : World) : Prop :=
  ∃ v9 v10 D X, e = .returned (.tuple #[]) ∧ Blk w' b 26 #[c0, c1, c2, c3, c4, c5, c6, c7, c8, v9, v10, c11] ∧ Mapps (veil (List.range w.heap.size) w') w'.heap.size v9 D ∧ Ints (veil (List.range w.heap.size) w') w'.heap.size .i64 v10 X ∧ DecN 5 D X ∧
    Src w' g v n ∧ onlyIn [g, b] w w'

/-- A decomposition of the k-th code point. -/
def decL (k : Nat) (l : List Int) : Prop := ∃ a r, l = a :: r ∧ (a = 97 ∨ a = 98 ∨ 7680 ≤ a ∧ a < 7680 + (k : Int)) ∧ (r = [] ∨ ∃ b, r = [b] ∧ (b = 769 ∨ b = 776 ∨ b = 803 ∨ b = 837 ∨ b = 945))
def fiveL : List Int := [769, 776, 803, 837, 945]

theorem five_at {j : Nat} {y : Int} (h : fiveL[j]? = some y) : (#[Value.int .i64 769, .int .i64 776, .int .i64 803, .int .i64 837, .int .i64 945] : Array Value)[j]? = some (.int .i64 y) := by
  have e : (#[Value.int .i64 769, .int .i64 776, .int .i64 803, .int .i64 837, .int .i64 945] : Array Value) = (fiveL.map (Value.int .i64)).toArray := rfl
  rw [e, List.getElem?_toArray, List.getElem?_map, h]; rfl

set_option maxRecDepth 100000 in
set_option maxHeartbeats 4000000 in
theorem decomps_any (w : World) (g b : Nat) (v : Value) (xs : List Int) (c0 c1 c2 c3 c4 c5 c6 c7 c8 c11 : Value) (hv : Ints w g .i64 v xs) (hs : Src w g v xs.length)
    (hb : Blk w b 26 #[c0, c1, c2, c3, c4, c5, c6, c7, c8, .slice none 0 0, .slice none 0 0, c11]) (hgb : g < b) :
    Calls Tryd.prog 57 #[.pointer (some ⟨g, 0, none⟩), .pointer (some ⟨b, 0, none⟩)] w (RetDec w g b v xs.length c0 c1 c2 c3 c4 c5 c6 c7 c8 c11) := by
  have hbw : b < w.heap.size := hb.lt
  have HI : Hid (DSt w g b xs.length v c0 c1 c2 c3 c4 c5 c6 c7 c8 c11 (.slice none 0 0) (.slice none 0 0) [] [] w) :=
    Lib.hid ⟨hb, OwnM.nil _ _ _, World.ownsRow_nil _ _ _ _, hs, onlyIn.refl _ _⟩
  have HV := Lib.hid hv
  clear hv hs hb
  have HNX : Hid (∀ (W : World) (m : Int), onlyIn [g, b] w W → Src W g v xs.length → 0 < m → m ≤ 1000000 → Calls Tryd.prog 52 #[.pointer (some ⟨g, 0, none⟩), .int .i64 m] W (RetNext W g v xs.length m)) :=
    Lib.hid fun W m h1 h2 h3 h4 => next_src W g v xs m (HV.out.below (h1.below (by intro x hx; simp at hx; omega) (by omega))) h2 h3 h4
  go_enter Tryd.func57, Tryd.ntmps57
  go_wp2
  go_loopg [4] 5 (fun gk iv wr => ∃ (k : Nat) (v9 v10 : Value) (D : List Mp) (X : List Int), iv = .int .i64 k ∧ k + gk = 5 ∧ D.length ≤ k ∧ X.length ≤ k ∧ Hid (DSt w g b xs.length v c0 c1 c2 c3 c4 c5 c6 c7 c8 c11 v9 v10 D X wr) ∧ Hid (DecN k D X))
  case atStart => exact ⟨0, _, _, [], [], rfl, rfl, by simp, by simp, HI, Lib.hid (DecN.nil 0)⟩
  case round =>
    obtain ⟨k, v9, v10, D, X, rfl, hk, hDl, hXl, HM, HN⟩ := hrel
    by_cases hlt : k < 5
    · have hN0 := HNX.out wr 4 HM.out.oi HM.out.src (by decide) (by decide)
      have hdl : decide ((k : Int) < (5 : Int)) = true := by simp; omega
      go_upto_region 4 with (go_at_call 52; refine hN0.mono ?_; rintro e w1 ⟨q, rfl, q0, q1, hs1, hg1⟩)
      · go_roundg (4 - k)
        case measure => omega
        case rel => exact ⟨k + 1, v9, v10, D, X, by go_num, by omega, by omega, by omega, Lib.hid (HM.out.only hgb hbw (onlyIn.of_grown hg1 (by simp)) hs1), Lib.hid HN.out.skip⟩
      · have HM1 := Lib.hid (HM.out.only hgb hbw (onlyIn.of_grown hg1 (by simp)) hs1)
        clear hs1 hg1 HM
        have hN1 := HNX.out w1 2 HM1.out.oi HM1.out.src (by decide) (by decide)
        go_upto_region 5 with (go_at_call 52; refine hN1.mono ?_; rintro e w2 ⟨r, rfl, r0, r1, hs2, hg2⟩)
        have HM2 := Lib.hid (HM1.out.only hgb hbw (onlyIn.of_grown hg2 (by simp)) hs2)
        have hX5 : XAt ((w2.alloc (.cells #[.int .i64 (97 + r)] 3)).alloc (.cells #[.int .i64 (7680 + k), .slice (some ⟨w2.heap.size, 0, none⟩) 1 1] 54)) (w2.heap.size + 1) w2.heap.size (7680 + k) (.slice (some ⟨w2.heap.size, 0, none⟩) 1 1) [97 + r] :=
          ⟨by have h := Blk.new (w2.alloc (.cells #[.int .i64 (97 + r)] 3)) 54 #[.int .i64 (7680 + k), .slice (some ⟨w2.heap.size, 0, none⟩) 1 1]; simpa using h, (own_new w2 3 [97 + r] (by simp)).alloc _⟩
        have hO5 : onlyIn [g] w2 ((w2.alloc (.cells #[.int .i64 (97 + r)] 3)).alloc (.cells #[.int .i64 (7680 + k), .slice (some ⟨w2.heap.size, 0, none⟩) 1 1] 54)) :=
          onlyIn.of_below (((Below.refl _ _).alloc (Nat.le_refl _) _).alloc (by simp) _)
        have hS5 : Src ((w2.alloc (.cells #[.int .i64 (97 + r)] 3)).alloc (.cells #[.int .i64 (7680 + k), .slice (some ⟨w2.heap.size, 0, none⟩) 1 1] 54)) g v xs.length := by
          obtain ⟨i, h1, h2⟩ := hs2
          exact ⟨i, h1, (h2.alloc _).alloc _⟩
        have hb2 : b < w2.heap.size := by have h1 := HM1.out.oi.2.2.2.1; have h2 := hg2.size; omega
        have hz5 : w2.heap.size + 1 < ((w2.alloc (.cells #[.int .i64 (97 + r)] 3)).alloc (.cells #[.int .i64 (7680 + k), .slice (some ⟨w2.heap.size, 0, none⟩) 1 1] 54)).heap.size := by simp
        have HX5 := Lib.hid hX5
        have HO5 := Lib.hid hO5
        have HS5 := Lib.hid hS5
        clear hX5 hO5 hS5 hs2 hg2 HM1
        generalize (w2.alloc (.cells #[.int .i64 (97 + r)] 3)).alloc (.cells #[.int .i64 (7680 + k), .slice (some ⟨w2.heap.size, 0, none⟩) 1 1] 54) = W5 at *
        have HNW : Hid (∀ (W : World) (m : Int), onlyIn [g] w2 W → Src W g v xs.length → 0 < m → m ≤ 1000000 → Calls Tryd.prog 52 #[.pointer (some ⟨g, 0, none⟩), .int .i64 m] W (RetNext W g v xs.length m)) :=
          Lib.hid fun W m h1 h2 h3 h4 => HNX.out W m (HM2.out.only hgb hbw h1 h2).oi h2 h3 h4
        obtain ⟨B0, HB0⟩ : ∃ B0, Hid (B0 = w2.heap.size) := ⟨_, Lib.hid rfl⟩
        rw [← HB0.out] at hb2 hz5 HX5
        simp only [← HB0.out]
        go_cut [29] from 23 to 29 (fun s29 wx => ∃ d : Bool, s29 = .bool d ∧ (d = true → 0 < k) ∧ Hid (onlyIn [g] w2 wx) ∧ Hid (Src wx g v xs.length) ∧ Hid (XAt wx (B0 + 1) B0 (7680 + k) (.slice (some ⟨B0, 0, none⟩) 1 1) [97 + r]) ∧ B0 + 1 < wx.heap.size)
        case first =>
          clear hdl
          by_cases h0 : 0 < k
          · have hN5 := HNW.out W5 3 HO5.out HS5.out (by decide) (by decide)
            have h0' : decide ((0 : Int) < (k : Int)) = true := by simp; omega
            go_wp2_with (go_at_call 52; refine hN5.mono ?_; rintro e w6 ⟨q6, rfl, q60, q61, hs6, hg6⟩)
            go_meet
            case rel => exact ⟨_, rfl, fun _ => h0, Lib.hid (HO5.out.trans (onlyIn.of_grown hg6 (by simp))), Lib.hid hs6, Lib.hid (HX5.out.grown hg6 (by omega) (by omega)), Nat.lt_of_lt_of_le hz5 hg6.size⟩
          · have h0' : decide ((0 : Int) < (k : Int)) = false := by simp; omega
            go_wp2
            go_meet
            case rel => exact ⟨false, rfl, by simp, HO5, HS5, HX5, hz5⟩
        case rest =>
          obtain ⟨d, rfl, hd0, HO6, HS6, HX6, hz6⟩ := hcut
          clear HO5 HS5 HX5 hz5
          go_upto_if 29 with fail
          go_cut [] from 29 to 36 (fun wx => ∃ a : Int, (a = 97 ∨ a = 98 ∨ 7680 ≤ a ∧ a < 7680 + k) ∧ Hid (onlyIn [g] w2 wx) ∧ Hid (Src wx g v xs.length) ∧ Hid (XAt wx (B0 + 1) B0 (7680 + k) (.slice (some ⟨B0, 0, none⟩) 1 1) [a]) ∧ B0 + 1 < wx.heap.size)
          case first =>
            cases d
            · go_wp2
              go_meet
              case rel => exact ⟨97 + r, by omega, HO6, HS6, HX6, hz6⟩
            · have hk0 := hd0 rfl
              have hx1 := HX6.out.1
              have x1 := hx1.at_ (i := 1) rfl
              clear hx1 hdl
              have HND := Lib.hid (HNW.out wc.drew k HO6.out HS6.out (by omega) (by omega))
              go_wp2
              go_region_law (first | (go_simp; go_at_call 52; refine HND.out.mono ?_; rintro e w7 ⟨q7, rfl, q70, q71, hs7, hg70⟩; have hg7 := undrew hg70; have hx7 := HX6.out.grown hg7 (by omega) (by omega); have x7 := hx7.1.at_ (i := 1) rfl; have hy7 := own_one hx7.2; have y7 := hy7.at_ (i := 0) rfl; have g7 := hy7.free 0; have HX7 := Lib.hid hx7; have HY7 := Lib.hid hy7; have HO7 := Lib.hid (HO6.out.trans (onlyIn.of_grown hg7 (by simp))); have HS7 := Lib.hid hs7; have hz7 := Nat.lt_of_lt_of_le hz6 hg7.size; clear hx7 hy7 hs7 hg7 hg70))
              all_goals go_wp2
              all_goals go_meet
              all_goals case rel =>
                have hB0 := HB0.out
                rw [show IntKind.i64.wrap (7680 + q7) = 7680 + q7 from IntWalk.i64_in _ (by omega)]
                refine ⟨7680 + q7, .inr (.inr ⟨by omega, by omega⟩), Lib.hid (HO7.out.far (grown_setCell (grown_refl w7 (some B0)) 0 _) ?_), Lib.hid (HS7.out.grown (grown_setCell (grown_refl w7 (some B0)) 0 _) ?_), Lib.hid ⟨HX7.out.1.far ?_ _, own_of_one (by simpa using HY7.out.put 0 (.int .i64 (7680 + q7))) (Nat.le_refl _)⟩, ?_⟩
                · intro x hx; simp at hx; omega
                · simp; omega
                · simp
                · simpa using hz7
          case rest =>
            obtain ⟨a, ha, HO7, HS7, HX7, hz7⟩ := hcut
            clear HO6 HS6 HX6 hz6
            have hN7 := HNW.out wc 8 HO7.out HS7.out (by decide) (by decide)
            go_upto_if 39 with (go_at_call 52; refine hN7.mono ?_; rintro e w8 ⟨q8, rfl, q80, q81, hs8, hg8⟩; have HO8 := Lib.hid (HO7.out.trans (onlyIn.of_grown hg8 (by simp))); have HS8 := Lib.hid hs8; have HX8 := Lib.hid (HX7.out.grown hg8 (by omega) (by omega)); have hz8 := Nat.lt_of_lt_of_le hz7 hg8.size; clear hs8 hg8)
            clear hN7
            go_cut [] from 39 to 49 (fun wx => ∃ sv l, Hid (onlyIn [g] w2 wx) ∧ Hid (Src wx g v xs.length) ∧ Hid (XAt wx (B0 + 1) B0 (7680 + k) sv l) ∧ Hid (decL k l) ∧ B0 + 1 < wx.heap.size)
            case first =>
              by_cases h8 : 0 < q8
              · have hx8 := HX8.out.1
                have x8 := hx8.at_ (i := 1) rfl
                have x8a := (hx8.alloc (.cells #[.int .i64 769, .int .i64 776, .int .i64 803, .int .i64 837, .int .i64 945] 3)).at_ (i := 1) rfl
                clear hx8 hdl
                have HND1 := Lib.hid (HNW.out w8.drew 5 HO8.out HS8.out (by omega) (by omega))
                have HOA : Hid (onlyIn [g] w2 (w8.alloc (.cells #[.int .i64 769, .int .i64 776, .int .i64 803, .int .i64 837, .int .i64 945] 3))) := Lib.hid (HO8.out.trans (onlyIn.of_below ((Below.refl _ _).alloc (Nat.le_refl _) _)))
                have HSA : Hid (Src (w8.alloc (.cells #[.int .i64 769, .int .i64 776, .int .i64 803, .int .i64 837, .int .i64 945] 3)) g v xs.length) := Lib.hid (HS8.out.alloc _)
                have HXA : Hid (XAt (w8.alloc (.cells #[.int .i64 769, .int .i64 776, .int .i64 803, .int .i64 837, .int .i64 945] 3)) (B0 + 1) B0 (7680 + k) (.slice (some ⟨B0, 0, none⟩) 1 1) [a]) := Lib.hid ⟨HX8.out.1.alloc _, HX8.out.2.alloc _⟩
                have HND2 := Lib.hid (HNW.out (w8.alloc (.cells #[.int .i64 769, .int .i64 776, .int .i64 803, .int .i64 837, .int .i64 945] 3)).drew 5 HOA.out HSA.out (by omega) (by omega))
                obtain ⟨i0, hi, hz0, hz1, hz2⟩ := info_parts Tryd.infoInt'
                go_wp2
                go_region_law (first
                  | (go_simp; go_at_call 52; (with_reducible refine HND1.out.mono ?_); rintro e w9 ⟨q9, rfl, q90, q91, hs9, hg90⟩; have hg9 := undrew hg90; obtain ⟨j, rfl⟩ := Int.eq_ofNat_of_zero_le q90; obtain ⟨y, hy, hym⟩ := get_of (show j < fiveL.length by show j < 5; omega); have hx9 := HX8.out.grown hg9 (by omega) (by omega); have x9 := hx9.1.at_ (i := 1) rfl; have x9a := (hx9.1.alloc (.cells #[.int .i64 769, .int .i64 776, .int .i64 803, .int .i64 837, .int .i64 945] 3)).at_ (i := 1) rfl; have x9b := ((hx9.1.alloc (.cells #[.int .i64 769, .int .i64 776, .int .i64 803, .int .i64 837, .int .i64 945] 3)).alloc (.cells #[.int .i64 y] 3)).at_ (i := 1) rfl; have y9 : (w9.alloc (.cells #[.int .i64 769, .int .i64 776, .int .i64 803, .int .i64 837, .int .i64 945] 3)).cell? ⟨w9.heap.size, j, none⟩ = some (.int .i64 y) := (Blk.new w9 3 #[.int .i64 769, .int .i64 776, .int .i64 803, .int .i64 837, .int .i64 945]).at_ (five_at hy); have HX9 := Lib.hid (show XAt (w9.alloc (.cells #[.int .i64 769, .int .i64 776, .int .i64 803, .int .i64 837, .int .i64 945] 3)) (B0 + 1) B0 (7680 + k) (.slice (some ⟨B0, 0, none⟩) 1 1) [a] from ⟨hx9.1.alloc _, hx9.2.alloc _⟩); have HO9 := Lib.hid ((HO8.out.trans (onlyIn.of_grown hg9 (by simp))).far (World.grownBy_alloc w9 (.cells #[.int .i64 769, .int .i64 776, .int .i64 803, .int .i64 837, .int .i64 945] 3) none) (by simp)); have HS9 := Lib.hid (hs9.alloc (.cells #[.int .i64 769, .int .i64 776, .int .i64 803, .int .i64 837, .int .i64 945] 3)); have HYM := Lib.hid hym; have hz9 := Nat.lt_of_lt_of_le hz8 hg9.size; clear hx9 hs9 hg9 hg90 hy hym)
                  | (go_simp; go_at_call 52; (with_reducible refine HND2.out.mono ?_); rintro e w9 ⟨q9, rfl, q90, q91, hs9, hg90⟩; have hg9 := undrew hg90; obtain ⟨j, rfl⟩ := Int.eq_ofNat_of_zero_le q90; obtain ⟨y, hy, hym⟩ := get_of (show j < fiveL.length by show j < 5; omega); have hx9 := HXA.out.grown hg9 (by omega) (by omega); have x9 := hx9.1.at_ (i := 1) rfl; have x9b := (hx9.1.alloc (.cells #[.int .i64 y] 3)).at_ (i := 1) rfl; have y9 : w9.cell? ⟨w8.heap.size, j, none⟩ = some (.int .i64 y) := ((Blk.new w8 3 #[.int .i64 769, .int .i64 776, .int .i64 803, .int .i64 837, .int .i64 945]).grown hg9 (by simp; omega)).at_ (five_at hy); have HX9 := Lib.hid hx9; have HO9 := Lib.hid (HOA.out.trans (onlyIn.of_grown hg9 (by simp))); have HS9 := Lib.hid hs9; have HYM := Lib.hid hym; have hz9 := Nat.lt_of_lt_of_le hz8 (Nat.le_trans (by simp) hg9.size); clear hx9 hs9 hg9 hg90 hy hym)
                  | (refine step_app_blk rfl (.tmp 41) (.tmp 47) rfl Tryd.underlying24 hi (.int .i64 0) 1 8 hz0 hz1 hz2 rfl (by decide) (by decide) B0 (.slice (some ⟨B0, 0, none⟩) 1 1) 1 [.int .i64 a] (w9.heap.size + 1) #[.int .i64 y] rfl rfl (show World.ownsRow ((w9.alloc (.cells #[.int .i64 769, .int .i64 776, .int .i64 803, .int .i64 837, .int .i64 945] 3)).alloc (.cells #[.int .i64 y] 3)) B0 3 1 (.slice (some ⟨B0, 0, none⟩) 1 1) 1 [.int .i64 a] from HX9.out.2.alloc _) (show Blk ((w9.alloc (.cells #[.int .i64 769, .int .i64 776, .int .i64 803, .int .i64 837, .int .i64 945] 3)).alloc (.cells #[.int .i64 y] 3)) (w9.heap.size + 1) 3 #[.int .i64 y] from (by have h := Blk.new (w9.alloc (.cells #[.int .i64 769, .int .i64 776, .int .i64 803, .int .i64 837, .int .i64 945] 3)) 3 #[.int .i64 y]; simpa using h)) rfl (by simp [Value.oneCell']) (by decide) (by simp; omega) ?_; intro v10' w10 hown10 hg10 _ hsl; have hb10 := (HX9.out.1.alloc (.cells #[.int .i64 y] 3)).grown hg10 (by intro e; simp [Value.ownBlock] at e); have e10 := hb10.at_ (i := 1) rfl; have f10 := hb10.free 1; have HB10 := Lib.hid hb10; have HOW10 := Lib.hid (show w10.ownsRow B0 3 1 v10' [a, y].length ([a, y].map (Value.int .i64)) from hown10); have HO10 := Lib.hid ((HO9.out.far (World.grownBy_alloc (w9.alloc (.cells #[.int .i64 769, .int .i64 776, .int .i64 803, .int .i64 837, .int .i64 945] 3)) (.cells #[.int .i64 y] 3) none) (by simp)).far hg10 (by simp [Value.ownBlock]; have := HB0.out; omega)); have HS10 := Lib.hid ((HS9.out.alloc (.cells #[.int .i64 y] 3)).grown hg10 (by simp [Value.ownBlock]; omega)); have hz10 := Nat.lt_of_lt_of_le hz9 (Nat.le_trans (by simp; try omega) hg10.size); obtain ⟨A10, m10, c10', rfl⟩ := hsl; clear hb10 hown10 hg10)
                  | (refine step_app_blk rfl (.tmp 41) (.tmp 47) rfl Tryd.underlying24 hi (.int .i64 0) 1 8 hz0 hz1 hz2 rfl (by decide) (by decide) B0 (.slice (some ⟨B0, 0, none⟩) 1 1) 1 [.int .i64 a] (w9.heap.size) #[.int .i64 y] rfl rfl (show World.ownsRow (w9.alloc (.cells #[.int .i64 y] 3)) B0 3 1 (.slice (some ⟨B0, 0, none⟩) 1 1) 1 [.int .i64 a] from HX9.out.2.alloc _) (show Blk (w9.alloc (.cells #[.int .i64 y] 3)) (w9.heap.size) 3 #[.int .i64 y] from Blk.new w9 3 #[.int .i64 y]) rfl (by simp [Value.oneCell']) (by decide) (by simp; omega) ?_; intro v10' w10 hown10 hg10 _ hsl; have hb10 := (HX9.out.1.alloc (.cells #[.int .i64 y] 3)).grown hg10 (by intro e; simp [Value.ownBlock] at e); have e10 := hb10.at_ (i := 1) rfl; have f10 := hb10.free 1; have HB10 := Lib.hid hb10; have HOW10 := Lib.hid (show w10.ownsRow B0 3 1 v10' [a, y].length ([a, y].map (Value.int .i64)) from hown10); have HO10 := Lib.hid ((HO9.out.far (World.grownBy_alloc w9 (.cells #[.int .i64 y] 3) none) (by simp)).far hg10 (by simp [Value.ownBlock]; have := HB0.out; omega)); have HS10 := Lib.hid ((HS9.out.alloc (.cells #[.int .i64 y] 3)).grown hg10 (by simp [Value.ownBlock]; omega)); have hz10 := Nat.lt_of_lt_of_le hz9 (Nat.le_trans (by simp; try omega) hg10.size); obtain ⟨A10, m10, c10', rfl⟩ := hsl; clear hb10 hown10 hg10))
                all_goals go_wp2
                all_goals go_meet
                all_goals case rel =>
                  have hB0 := HB0.out
                  refine ⟨_, [a, y], Lib.hid (HO10.out.far (grown_setCell (grown_refl w10 (some (B0 + 1))) 1 _) ?_), Lib.hid (HS10.out.grown (grown_setCell (grown_refl w10 (some (B0 + 1))) 1 _) ?_), Lib.hid (XAt.put1 HB10.out HOW10.out), Lib.hid ⟨a, [y], rfl, ha, .inr ⟨y, rfl, ?_⟩⟩, ?_⟩
                  · intro x hx; simp at hx; omega
                  · simp; omega
                  · simpa [fiveL] using HYM.out
                  · simpa using hz10
              · have h8' : q8 ≤ 0 := by omega
                clear h8
                go_wp2
                go_meet
                case rel => exact ⟨_, _, HO8, HS8, HX8, Lib.hid ⟨a, [], rfl, ha, .inl rfl⟩, hz8⟩
            case rest =>
              obtain ⟨sv, l, HO9, HS9, HX9, HL, hz9⟩ := hcut
              clear HO7 HS7 HX7 hz7 HO8 HS8 HX8 hz8
              have hm9 := (HM2.out.om.restrict (S' := List.range w.heap.size) fun x hx => List.mem_append_left _ hx).mapps (by intro x hx; simp at hx; omega)
              obtain ⟨A9, c9, rfl, _⟩ := id hm9
              have hDk : D.length ≤ 4 := by omega
              clear hm9
              have hN9 := HNW.out wc 6 HO9.out HS9.out (by decide) (by decide)
              go_upto_block 2 with (go_at_call 52; refine hN9.mono ?_; rintro e w10 ⟨q10, rfl, q100, q101, hs10, hg10⟩; have HO10 := Lib.hid (HO9.out.trans (onlyIn.of_grown hg10 (by simp))); have HS10 := Lib.hid hs10; have HX10 := Lib.hid (HX9.out.grown hg10 (by omega) (by omega)); have hz10 := Nat.lt_of_lt_of_le hz9 hg10.size; have e9 := (HM2.out.only hgb hbw HO10.out hs10).blk.at_ (i := 9) rfl; clear hs10 hg10)
              clear e9
              go_cut [6] from 58 to 70 (fun s6 wx => ∃ t : Bool, s6 = .bool t ∧ Hid (t = false → ∀ d ∈ D, d.2 ≠ l) ∧ Hid (onlyIn [g] w2 wx) ∧ Hid (Src wx g v xs.length) ∧ Hid (XAt wx (B0 + 1) B0 (7680 + k) sv l) ∧ B0 + 1 < wx.heap.size)
              case first =>
                go_wp2_with fail
                go_loopg [6, 58] D.length (fun gj s6 iv wr => ∃ (j : Nat) (t : Bool), s6 = .bool t ∧ iv = .int .i64 j ∧ j + gj = D.length ∧ Hid (t = false → ∀ d ∈ D.take j, d.2 ≠ l) ∧ Hid (onlyIn [g] w2 wr) ∧ Hid (Src wr g v xs.length) ∧ Hid (XAt wr (B0 + 1) B0 (7680 + k) sv l) ∧ B0 + 1 < wr.heap.size)
                case atStart => exact ⟨0, _, rfl, rfl, by omega, Lib.hid (by simp), HO10, HS10, HX10, hz10⟩
                case round =>
                  obtain ⟨j, t, rfl, rfl, hj, HT, HOr, HSr, HXr, hzr⟩ := hrel
                  clear HO10 HS10 HX10 hz10 HO9 HS9 HX9 hz9
                  by_cases hjl : j < D.length
                  · obtain ⟨⟨dc, dl⟩, hd, hdm⟩ := get_el hjl
                    have hmr := ((HM2.out.only hgb hbw HOr.out HSr.out).om.restrict (S' := List.range w.heap.size) fun x hx => List.mem_append_left _ hx).mapps (by intro x hx; simp at hx; omega)
                    rw [veil_size] at hmr
                    obtain ⟨A9', c9', hv9, _, _, _, hcl⟩ := hmr.unveil
                    cases hv9
                    obtain ⟨aj, dsv, rfl, haj, d0, d1, hto⟩ := hcl j _ hd
                    obtain ⟨e0, e1⟩ := map_cells (Below.refl _ _) haj d0 d1
                    have hHD := Lib.hid hd
                    have HTO := Lib.hid hto
                    obtain ⟨A', c', rfl, _⟩ := id hto
                    clear hcl d0 d1 hto hmr hd hdm haj
                    have r0 : (0 : Int) ≤ (j : Int) := by omega
                    have r1 : (j : Int) < (D.length : Int) := by omega
                    have hx1 := HXr.out.1
                    have x1 := (hx1.alloc (.cells #[.int .i64 dc, .slice A' dl.length c'] 54)).at_ (i := 1) rfl
                    have HBA : Hid (Below wr.heap.size wr (wr.alloc (.cells #[.int .i64 dc, .slice A' dl.length c'] 54))) := Lib.hid ((Below.refl _ _).alloc (Nat.le_refl _) _)
                    have HXa := Lib.hid (HXr.out.below HBA.out)
                    have HC := Lib.hid (same_any (.slice A' dl.length c') sv dl l (wr.alloc (.cells #[.int .i64 dc, .slice A' dl.length c'] 54)) (HTO.out.later HBA.out) (Ints.of_own HXa.out.2))
                    clear hx1
                    cases t
                    · go_wp2_with (go_at_call 31; refine HC.out.mono ?_; rintro e w12 ⟨rfl, b12⟩; have HB12 := Lib.hid (below_next HBA.out b12); have hz12 := Nat.lt_of_lt_of_le hzr HB12.out.size; clear b12)
                      go_roundg (D.length - (j + 1))
                      case measure => omega
                      case rel =>
                        refine ⟨j + 1, _, rfl, by go_num, by omega, Lib.hid fun ht => take_ne hHD.out (HT.out (by simp)) (by simpa using ht), Lib.hid (HOr.out.trans (onlyIn.of_below HB12.out)), Lib.hid (HSr.out.below HB12.out), Lib.hid (HXr.out.below HB12.out), hz12⟩
                    · go_wp2
                      go_roundg (D.length - (j + 1))
                      case measure => omega
                      case rel =>
                        exact ⟨j + 1, true, rfl, by go_num, by omega, Lib.hid (by simp), Lib.hid (HOr.out.trans (onlyIn.of_below HBA.out)), Lib.hid (HSr.out.below HBA.out), HXa, Nat.lt_of_lt_of_le hzr HBA.out.size⟩
                  · have hjj : ¬ (j : Int) < (D.length : Int) := by omega
                    go_wp2
                    go_meet
                    case rel => exact ⟨t, rfl, Lib.hid fun ht d hd => HT.out ht d (by rw [List.take_of_length_le (by omega)]; exact hd), HOr, HSr, HXr, hzr⟩
              case rest =>
                obtain ⟨t, rfl, HT, HO11, HS11, HX11, hz11⟩ := hcut
                clear HO10 HS10 HX10 hz10 HO9 HS9 HX9 hz9
                have HM11 := Lib.hid (HM2.out.only hgb hbw HO11.out HS11.out)
                have hap : ∀ q, v10.ownBlock = some q → sv.ownBlock ≠ some q := fun q hq e => by
                  have h1 := (HM2.out.own10 q hq).2
                  have h2 := (HX11.out.2.lt q e).1
                  have h3 := HB0.out
                  omega
                have HAP := Lib.hid hap
                clear hap
                go_upto_if 71 with fail
                go_cut [] from 71 to 82 (fun wx => ∃ v10' X', Hid (DSt w g b xs.length v c0 c1 c2 c3 c4 c5 c6 c7 c8 c11 (.slice A9 D.length c9) v10' D X' wx) ∧ Hid (XAt wx (B0 + 1) B0 (7680 + k) sv l) ∧ Hid (∀ q, v10'.ownBlock = some q → sv.ownBlock ≠ some q) ∧ Hid (X' = if t then X ++ [7680 + (k : Int)] else X))
                case first =>
                  cases t
                  · go_wp2
                    go_meet
                    case rel => exact ⟨v10, X, HM11, HX11, HAP, Lib.hid (by simp)⟩
                  · have hb11 := HM11.out.blk
                    have e10 := hb11.at_ (i := 10) rfl
                    have e10a := (hb11.alloc (.cells #[.int .i64 (7680 + k)] 3)).at_ (i := 10) rfl
                    have hx11 := HX11.out.1
                    have x0 := hx11.at_ (i := 0) rfl
                    have HOX : Hid (onlyIn [] wc (wc.alloc (.cells #[.int .i64 (7680 + k)] 3)).drew) := Lib.hid (onlyIn.of_below ((Below.refl _ _).alloc (Nat.le_refl _) _).drew)
                    have HBA := Lib.hid (hb11.alloc (.cells #[.int .i64 (7680 + k)] 3))
                    have HKX : Hid (Blk (wc.alloc (.cells #[.int .i64 (7680 + k)] 3)).drew wc.heap.size 3 #[.int .i64 (7680 + k)]) := Lib.hid (Blk.new wc 3 #[.int .i64 (7680 + k)])
                    have HWX : Hid (World.ownsRow (wc.alloc (.cells #[.int .i64 (7680 + k)] 3)).drew w.heap.size 3 1 v10 X.length (X.map (Value.int .i64))) := Lib.hid (HM11.out.ox.alloc _)
                    have hszY : w.heap.size ≤ (wc.alloc (.cells #[.int .i64 (7680 + k)] 3)).drew.heap.size := by have h1 := HM11.out.oi.2.2.2.1; simp; omega
                    obtain ⟨i0, hi, hz0, hz1, hz2⟩ := info_parts Tryd.infoInt'
                    clear hb11 hx11 hdl
                    go_wp2
                    go_region_law (first
                      | (refine step_app_blk rfl (.tmp 76) (.tmp 79) rfl Tryd.underlying24 hi (.int .i64 0) 1 8 hz0 hz1 hz2 rfl (by decide) (by decide) w.heap.size v10 X.length (X.map (Value.int .i64)) wc.heap.size #[.int .i64 (7680 + k)] rfl rfl HWX.out HKX.out rfl (by simp [Value.oneCell']) (by omega) hszY ?_; intro v12 w12 hown12 hg12 hr12 hsl; have hb12 := (show Blk (wc.alloc (.cells #[.int .i64 (7680 + k)] 3)).drew b 26 #[c0, c1, c2, c3, c4, c5, c6, c7, c8, .slice A9 D.length c9, v10, c11] from HBA.out).grown hg12 (fun e => by have := (HM11.out.own10 b e.symm).1; omega); have e12 := hb12.at_ (i := 10) rfl; have f12 := hb12.free 10; have HW12 := Lib.hid hown12; have HG12 := Lib.hid hg12; have HR12 := Lib.hid hr12; obtain ⟨A12, m12, c12', rfl⟩ := hsl; clear hb12 hown12 hg12 hr12))
                    all_goals go_wp2
                    all_goals go_meet
                    all_goals case rel =>
                      have hB0 := HB0.out
                      have h10 := HM2.out.own10
                      refine ⟨_, X ++ [7680 + (k : Int)], Lib.hid (HM11.out.exclude hgb hbw HOX.out HG12.out HR12.out (by simpa using HW12.out)), Lib.hid (((HX11.out.below ((Below.refl _ _).alloc (Nat.le_refl _) _).drew).far HG12.out ?_ ?_).far (grown_setCell (grown_refl w12 (some b)) 10 _) ?_ ?_), Lib.hid ?_, Lib.hid (by simp)⟩
                      · intro e; have := (h10 _ e).2; omega
                      · intro q hq e; exact HAP.out q e hq
                      · simp; omega
                      · intro q hq e; have := (HX11.out.2.lt q hq).1; injection e; omega
                      · intro q hq e
                        rcases HR12.out q hq with e1 | e1
                        · exact HAP.out q e1 e
                        · have := (HX11.out.2.lt q e).2; simp at e1; omega
                case rest =>
                  obtain ⟨v10', X', HM12, HX12, HAP12, HXX⟩ := hcut
                  clear HM11 HX11 HO11 HS11 HAP
                  have hb12 := HM12.out.blk
                  have e9 := hb12.at_ (i := 9) rfl
                  have hx12 := HX12.out.1
                  have x0 := hx12.at_ (i := 0) rfl
                  have x1 := hx12.at_ (i := 1) rfl
                  have e9a := (hb12.alloc (.cells #[.int .i64 (7680 + k), sv] 54)).at_ (i := 9) rfl
                  have HBA := Lib.hid (hb12.alloc (.cells #[.int .i64 (7680 + k), sv] 54))
                  have HOX : Hid (onlyIn [] wc (wc.alloc (.cells #[.int .i64 (7680 + k), sv] 54)).drew) := Lib.hid (onlyIn.of_below ((Below.refl _ _).alloc (Nat.le_refl _) _).drew)
                  have HMX := Lib.hid (HM12.out.only hgb hbw (HOX.out.more (by simp)) (show Src (wc.alloc (.cells #[.int .i64 (7680 + k), sv] 54)).drew g v xs.length from HM12.out.src.alloc _))
                  have HIX : Hid (Ints (veil ((List.range w.heap.size ++ v10'.ownBlock.toList) ++ (Value.slice A9 D.length c9).ownBlock.toList) (wc.alloc (.cells #[.int .i64 (7680 + k), sv] 54)).drew) (wc.alloc (.cells #[.int .i64 (7680 + k), sv] 54)).drew.heap.size .i64 sv l) := by
                    refine Lib.hid (Ints.veil_own' (show World.ownsRow (wc.alloc (.cells #[.int .i64 (7680 + k), sv] 54)).drew B0 3 1 sv l.length (l.map (Value.int .i64)) from HX12.out.2.alloc _) fun q hq hx => ?_)
                    simp only [List.mem_append, Option.mem_toList] at hx
                    rcases hx with (hx | hx) | hx
                    · have := (HX12.out.2.lt q hq).1; have := HB0.out; have := HM2.out.oi.2.2.2.1; simp at hx; omega
                    · exact HAP12.out q hx hq
                    · obtain ⟨ps, _, _, ho, _⟩ := HM12.out.om
                      exact own_own ho HX12.out.2 (by decide) q hx hq
                  have HKX : Hid (Blk (wc.alloc (.cells #[.int .i64 (7680 + k), sv] 54)).drew wc.heap.size 54 #[.int .i64 (7680 + k), sv]) := Lib.hid (Blk.new wc 54 #[.int .i64 (7680 + k), sv])
                  have hszY : w.heap.size ≤ (wc.alloc (.cells #[.int .i64 (7680 + k), sv] 54)).drew.heap.size := by have h1 := HM12.out.oi.2.2.2.1; simp; omega
                  obtain ⟨i0, hi, hz0, hz1, hz2⟩ := info_parts Tryd.infoMap
                  clear hb12 hx12 hdl
                  go_wp2
                  go_region_law (first
                    | (refine step_app_map rfl (.tmp 87) (.tmp 89) rfl Tryd.underlying23 hi _ hz0 hz1 hz2 rfl (List.range w.heap.size ++ v10'.ownBlock.toList) w.heap.size (.slice A9 D.length c9) D wc.heap.size (7680 + k) sv l rfl rfl HMX.out.om HKX.out HIX.out (by omega) hszY ?_; intro v13 w13 hM13 hg13 hr13 hs13; have hb13 := (show Blk (wc.alloc (.cells #[.int .i64 (7680 + k), sv] 54)).drew b 26 #[c0, c1, c2, c3, c4, c5, c6, c7, c8, .slice A9 D.length c9, v10', c11] from HBA.out).grown hg13 (fun e => by have := (HM12.out.own9 b e.symm).1; omega); have e13 := hb13.at_ (i := 9) rfl; have f13 := hb13.free 9; have HM13 := Lib.hid hM13; have HG13 := Lib.hid hg13; obtain ⟨A13, m13, c13', rfl⟩ := hs13; clear hb13 hM13 hg13 hr13))
                  all_goals go_wp2
                  all_goals
                    go_roundg (4 - k)
                    case measure => omega
                    case rel =>
                      refine ⟨k + 1, _, v10', D ++ [(7680 + (k : Int), l)], X', by go_num, by omega, by simp; omega, ?_, Lib.hid (HM12.out.append hgb hbw HOX.out HG13.out HM13.out), Lib.hid ?_⟩
                      · rw [HXX.out]; cases t <;> simp <;> omega
                      · rw [HXX.out]; exact HN.out.add t HL.out HT.out
    · have hk5 : k = 5 := by omega
      subst hk5
      go_wp2
      go_end0
      refine ⟨v9, v10, D, X, rfl, HM.out.blk, ?_, ?_, HN.out, HM.out.src, HM.out.oi⟩
      · have h := (HM.out.om.restrict (S' := List.range w.heap.size) fun x hx => List.mem_append_left _ hx).mapps (by intro x hx; simp at hx; omega)
        rw [veil_size] at h
        exact h
      · have h := Ints.veil_own HM.out.ox (S := List.range w.heap.size) (by intro x hx; simp at hx; omega)
        rw [veil_size] at h
        exact h
end Go.Proofs.YtkdhldhbjomiaaaDoor
