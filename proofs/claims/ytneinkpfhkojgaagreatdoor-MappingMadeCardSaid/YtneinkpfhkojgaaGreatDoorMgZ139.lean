/-
  Merged texts: lemmas and walks that the last text of this claim leans on.
-/
import Derived.Test.YtneinkpfhkojgaaGreatDoorMgZ134
import Derived.Test.YtneinkpfhkojgaaGreatDoorMgZ131
import Derived.Test.YtneinkpfhkojgaaGreatDoorMgZ132
import Derived.BigQuiet
import Derived.Test.YtneinkpfhkojgaaGreatDoorMgZ133
import Derived.Test.YtneinkpfhkojgaaGreatDoorMgZ138
import Derived.Deep.LoopGhost
/-
  The walks through table.outside and the reference's clean: a span contains no reserved code point.
-/
namespace Go.Proofs.YtneinkpfhkojgaaGreatDoor
open Go.RowKit ND

set_option maxRecDepth 100000 in
set_option maxHeartbeats 400000 in
theorem outside_any (f t x : Int) (w : World) (hg : Glob w) :
    Calls Tryz.prog 87 #[.agg #[.int .i64 f, .int .i64 t, .int .i64 x]] w fun e w' => e = .returned (.bool (outB f t)) ∧ Below w.heap.size w w' := by
  obtain ⟨v, hv, A, c, rfl, _, _, _, hcell⟩ := hg
  have HC := Lib.hid hcell; clear hcell
  have hlen : blocksL.length = 6 := rfl
  rw [hlen] at hv
  clear hlen
  obtain ⟨R, hR⟩ : ∃ R, R = outB f t := ⟨_, rfl⟩
  rw [← hR]
  have HR : Hid (blocksL.all (fun b => apartB f t b.1 b.2.1) = R) := Lib.hid hR.symm
  clear hR
  have h0 : 0 < w.heap.size := World.block_lt_of_cell? _ _ hv
  have hv1 := fun o : Obj => (World.cell?_alloc_lt w o ⟨0, 0, none⟩ h0).trans hv
  have HV := Lib.hid hv
  clear hv
  go_enter Tryz.func87, Tryz.ntmps87
  go_wp2_with fail
  go_loopw [7] (fun i wr => ∃ k : Nat, k ≤ 6 ∧ i = .int .i64 k ∧ Hid ((blocksL.drop k).all (fun b => apartB f t b.1 b.2.1) = R) ∧ Below w.heap.size w wr ∧ Hid (Blk wr w.heap.size 42 #[.int .i64 f, .int .i64 t, .int .i64 x])) (fun i _ => 6 - (intOf i).toNat)
  case atStart => exact ⟨0, by omega, rfl, HR, (Below.refl _ _).alloc (Nat.le_refl _) _, Lib.hid (Blk.new _ _ _)⟩
  case round =>
    obtain ⟨k, hk, rfl, HS, hbel, HB⟩ := hrel
    clear hv1
    by_cases hlt : k < 6
    · obtain ⟨⟨lo, hi, y⟩, hxk, _⟩ := get_el (xs := blocksL) (k := k) hlt
      obtain ⟨ad, rfl, ha, d0, d1, d2⟩ := HC.out k _ hxk
      simp only at d0 d1 d2
      obtain ⟨e0, e1, e2⟩ := span_cells hbel ha d0 d1 d2
      have hb0 := HB.out.lt
      have g0 := fun o : Obj => (World.cell?_alloc_lt wr o ⟨w.heap.size, 0, none⟩ hb0).trans (HB.out.at_ (i := 0) (u := .int .i64 f) rfl)
      have g1 := fun o : Obj => (World.cell?_alloc_lt wr o ⟨w.heap.size, 1, none⟩ hb0).trans (HB.out.at_ (i := 1) (u := .int .i64 t) rfl)
      have HX := Lib.hid hxk
      have HB' := Lib.hid (HB.out.alloc (.cells #[.int .i64 lo, .int .i64 hi, .int .i64 y] 42))
      clear d0 d1 d2 hxk ha HB
      have k0 : (0 : Int) ≤ (k : Int) := by omega
      have k1 : (k : Int) < (6 : Int) := by omega
      rcases apart_ways f t lo hi with ⟨ho, q0⟩ | ⟨ho, q0, q1⟩ | ⟨ho, q0, q1⟩
      · have HN := Lib.hid (show (blocksL.drop (k + 1)).all (fun b => apartB f t b.1 b.2.1) = R by rw [← HS.out, drop_of_get HX.out, List.all_cons, ho, Bool.true_and])
        clear ho
        go_wp2_with fail
        go_roundw
        case rel => exact ⟨k + 1, by omega, by go_num, HN, hbel.alloc hbel.size _, HB'⟩
        case measure => simp [intOf]; omega
      · have HN := Lib.hid (show (blocksL.drop (k + 1)).all (fun b => apartB f t b.1 b.2.1) = R by rw [← HS.out, drop_of_get HX.out, List.all_cons, ho, Bool.true_and])
        clear ho
        go_wp2_with fail
        go_roundw
        case rel => exact ⟨k + 1, by omega, by go_num, HN, hbel.alloc hbel.size _, HB'⟩
        case measure => simp [intOf]; omega
      · have HN := Lib.hid (show R = false by rw [← HS.out, drop_of_get HX.out, List.all_cons, ho, Bool.false_and])
        clear ho
        go_wp2_with fail
        go_ret
        rw [HN.out]
        exact ⟨rfl, hbel.alloc hbel.size _⟩
    · have HN := Lib.hid (show R = true by rw [← HS.out, List.drop_eq_nil_of_le (by show 6 ≤ k; omega)]; rfl)
      go_wp2_with fail
      go_ret
      rw [HN.out]
      exact ⟨rfl, hbel⟩

set_option maxRecDepth 100000 in
set_option maxHeartbeats 1000000 in
theorem clean_any (f t x : Int) (w : World) :
    Calls Tryz.prog 97 #[.agg #[.int .i64 f, .int .i64 t, .int .i64 x]] w fun e w' => e = .returned (.bool (outB f t)) ∧ Below w.heap.size w w' := by
  obtain ⟨R, hR⟩ : ∃ R, R = outB f t := ⟨_, rfl⟩
  rw [← hR]
  have HR : Hid (refBlocks.all (fun b => apartB f t b.1 b.2) = R) := Lib.hid (by rw [outB_ref]; exact hR.symm)
  clear hR
  have i0 : ∀ w, (Instr.index 99 (.agg #[.int .i64 0, .int .i64 127, .int .i64 55296, .int .i64 57343, .int .i64 44032, .int .i64 55203, .int .i64 4352, .int .i64 4370, .int .i64 4449, .int .i64 4469, .int .i64 4520, .int .i64 4546]) (.int .i64 0)).run Tryz.prog w = .ok (.agg #[.int .i64 0, .int .i64 127]) w := fun _ => by kernel_rfl
  have i1 : ∀ w, (Instr.index 99 (.agg #[.int .i64 0, .int .i64 127, .int .i64 55296, .int .i64 57343, .int .i64 44032, .int .i64 55203, .int .i64 4352, .int .i64 4370, .int .i64 4449, .int .i64 4469, .int .i64 4520, .int .i64 4546]) (.int .i64 1)).run Tryz.prog w = .ok (.agg #[.int .i64 55296, .int .i64 57343]) w := fun _ => by kernel_rfl
  have i2 : ∀ w, (Instr.index 99 (.agg #[.int .i64 0, .int .i64 127, .int .i64 55296, .int .i64 57343, .int .i64 44032, .int .i64 55203, .int .i64 4352, .int .i64 4370, .int .i64 4449, .int .i64 4469, .int .i64 4520, .int .i64 4546]) (.int .i64 2)).run Tryz.prog w = .ok (.agg #[.int .i64 44032, .int .i64 55203]) w := fun _ => by kernel_rfl
  have i3 : ∀ w, (Instr.index 99 (.agg #[.int .i64 0, .int .i64 127, .int .i64 55296, .int .i64 57343, .int .i64 44032, .int .i64 55203, .int .i64 4352, .int .i64 4370, .int .i64 4449, .int .i64 4469, .int .i64 4520, .int .i64 4546]) (.int .i64 3)).run Tryz.prog w = .ok (.agg #[.int .i64 4352, .int .i64 4370]) w := fun _ => by kernel_rfl
  have i4 : ∀ w, (Instr.index 99 (.agg #[.int .i64 0, .int .i64 127, .int .i64 55296, .int .i64 57343, .int .i64 44032, .int .i64 55203, .int .i64 4352, .int .i64 4370, .int .i64 4449, .int .i64 4469, .int .i64 4520, .int .i64 4546]) (.int .i64 4)).run Tryz.prog w = .ok (.agg #[.int .i64 4449, .int .i64 4469]) w := fun _ => by kernel_rfl
  have i5 : ∀ w, (Instr.index 99 (.agg #[.int .i64 0, .int .i64 127, .int .i64 55296, .int .i64 57343, .int .i64 44032, .int .i64 55203, .int .i64 4352, .int .i64 4370, .int .i64 4449, .int .i64 4469, .int .i64 4520, .int .i64 4546]) (.int .i64 5)).run Tryz.prog w = .ok (.agg #[.int .i64 4520, .int .i64 4546]) w := fun _ => by kernel_rfl
  go_enter Tryz.func97, Tryz.ntmps97
  go_wp2_with fail
  go_loopw [12] (fun i wr => ∃ k : Nat, k ≤ 6 ∧ i = .int .i64 k ∧ Hid ((refBlocks.drop k).all (fun b => apartB f t b.1 b.2) = R) ∧ Below w.heap.size w wr ∧ Hid (Blk wr w.heap.size 42 #[.int .i64 f, .int .i64 t, .int .i64 x])) (fun i _ => 6 - (intOf i).toNat)
  case atStart => exact ⟨0, by omega, rfl, HR, (Below.refl _ _).alloc (Nat.le_refl _) _, Lib.hid (Blk.new _ _ _)⟩
  case round =>
    obtain ⟨k, hk, rfl, HS, hbel, HB⟩ := hrel
    by_cases hlt : k < 6
    · obtain ⟨⟨lo, hi⟩, hxk, _⟩ := get_el (xs := refBlocks) (k := k) hlt
      have hb0 := HB.out.lt
      have g0 := fun o : Obj => (World.cell?_alloc_lt wr o ⟨w.heap.size, 0, none⟩ hb0).trans (HB.out.at_ (i := 0) (u := .int .i64 f) rfl)
      have g1 := fun o : Obj => (World.cell?_alloc_lt wr o ⟨w.heap.size, 1, none⟩ hb0).trans (HB.out.at_ (i := 1) (u := .int .i64 t) rfl)
      have hidx : ∀ w, (Instr.index 99 (.agg #[.int .i64 0, .int .i64 127, .int .i64 55296, .int .i64 57343, .int .i64 44032, .int .i64 55203, .int .i64 4352, .int .i64 4370, .int .i64 4449, .int .i64 4469, .int .i64 4520, .int .i64 4546]) (.int .i64 k)).run Tryz.prog w = .ok (.agg #[.int .i64 lo, .int .i64 hi]) w := by
        have h6 : k = 0 ∨ k = 1 ∨ k = 2 ∨ k = 3 ∨ k = 4 ∨ k = 5 := by omega
        rcases h6 with rfl | rfl | rfl | rfl | rfl | rfl <;> cases hxk
        · exact i0
        · exact i1
        · exact i2
        · exact i3
        · exact i4
        · exact i5
      have HX := Lib.hid hxk
      have HB' := Lib.hid (HB.out.alloc (.cells #[.int .i64 lo, .int .i64 hi] 93))
      clear hxk HB
      have k0 : (0 : Int) ≤ (k : Int) := by omega
      have k1 : (k : Int) < (6 : Int) := by omega
      rcases apart_ways f t lo hi with ⟨ho, q0⟩ | ⟨ho, q0, q1⟩ | ⟨ho, q0, q1⟩
      · have HN := Lib.hid (show (refBlocks.drop (k + 1)).all (fun b => apartB f t b.1 b.2) = R by rw [← HS.out, drop_of_get HX.out, List.all_cons, ho, Bool.true_and])
        clear ho
        go_wp2_with fail
        go_roundw
        case rel => exact ⟨k + 1, by omega, by go_num, HN, hbel.alloc hbel.size _, HB'⟩
        case measure => simp [intOf]; omega
      · have HN := Lib.hid (show (refBlocks.drop (k + 1)).all (fun b => apartB f t b.1 b.2) = R by rw [← HS.out, drop_of_get HX.out, List.all_cons, ho, Bool.true_and])
        clear ho
        go_wp2_with fail
        go_roundw
        case rel => exact ⟨k + 1, by omega, by go_num, HN, hbel.alloc hbel.size _, HB'⟩
        case measure => simp [intOf]; omega
      · have HN := Lib.hid (show R = false by rw [← HS.out, drop_of_get HX.out, List.all_cons, ho, Bool.false_and])
        clear ho
        go_wp2_with fail
        go_ret
        rw [HN.out]
        exact ⟨rfl, hbel.alloc hbel.size _⟩
    · have HN := Lib.hid (show R = true by rw [← HS.out, List.drop_eq_nil_of_le (by show 6 ≤ k; omega)]; rfl)
      go_wp2_with fail
      go_ret
      rw [HN.out]
      exact ⟨rfl, hbel⟩
end Go.Proofs.YtneinkpfhkojgaaGreatDoor
/-
  The walks through ranges.Check and the reference's Check and valid.
-/
namespace Go.Proofs.YtneinkpfhkojgaaGreatDoor
open Go.RowKit ND



/-- What Check asks of a span behind a span that ends at last. -/
def okOne (lo hi last : Int) (s : Sp) : Bool := decide (last < s.1 ∧ s.1 ≤ s.2.1 ∧ s.2.1 ≤ 1114111 ∧ lo ≤ s.1 ∧ s.2.1 ≤ hi)
theorem okS_go {lo hi last : Int} {xs : List Sp} {k : Nat} {s : Sp} {R : Bool} (hx : xs[k]? = some s) (h : okS lo hi last (xs.drop k) = R) (h1 : okOne lo hi last s = true) : okS lo hi s.2.1 (xs.drop (k + 1)) = R := by
  rw [drop_of_get hx, okS] at h
  unfold okOne at h1
  rw [h1, Bool.true_and] at h
  exact h
theorem okS_no {lo hi last : Int} {xs : List Sp} {k : Nat} {s : Sp} {R : Bool} (hx : xs[k]? = some s) (h : okS lo hi last (xs.drop k) = R) (h1 : okOne lo hi last s = false) : R = false := by
  rw [drop_of_get hx, okS] at h
  unfold okOne at h1
  rw [h1, Bool.false_and] at h
  exact h.symm
theorem okS_end {lo hi last : Int} {xs : List Sp} {k : Nat} {R : Bool} (hk : xs.length ≤ k) (h : okS lo hi last (xs.drop k) = R) : R = true := by
  rw [List.drop_eq_nil_of_le hk] at h; exact h.symm

/-- The five ways through the tests of one span. -/
theorem okOne_ways {lo hi last f t v : Int} : (okOne lo hi last (f, t, v) = true ∧ decide (f ≤ last) = false ∧ decide (t < f) = false ∧ decide (1114111 < t) = false ∧ decide (f < lo) = false ∧ decide (hi < t) = false) ∨
    (okOne lo hi last (f, t, v) = false ∧ (decide (f ≤ last) = true ∨ decide (f ≤ last) = false ∧ decide (t < f) = true ∨ decide (f ≤ last) = false ∧ decide (t < f) = false ∧ decide (1114111 < t) = true ∨
      decide (f ≤ last) = false ∧ decide (t < f) = false ∧ decide (1114111 < t) = false ∧ decide (f < lo) = true ∨ decide (f ≤ last) = false ∧ decide (t < f) = false ∧ decide (1114111 < t) = false ∧ decide (f < lo) = false ∧ decide (hi < t) = true)) := by
  unfold okOne
  simp only [decide_eq_true_eq, decide_eq_false_iff_not]
  omega

set_option maxRecDepth 100000 in
set_option maxHeartbeats 1000000 in
theorem check_any (v : Value) (xs : List Sp) (lo hi : Int) (w : World) (hv : Spans w w.heap.size v xs) :
    Calls Tryz.prog 86 #[v, .int .i64 lo, .int .i64 hi] w fun e w' => e = .returned (.bool (checkS xs lo hi)) ∧ Below w.heap.size w w' := by
  obtain ⟨A, c, rfl, hc1, hc2, _, hcell⟩ := hv
  have HC := Lib.hid hcell; clear hcell
  have hl : xs.length ≤ 9223372036854775807 := by unfold maxLen at hc2; omega
  clear hc2 hc1
  obtain ⟨R, hR⟩ : ∃ R, R = okS lo hi (-1) xs := ⟨_, rfl⟩
  have hck : checkS xs lo hi = (R && decide (xs.length ≤ 256)) := by rw [hR]; rfl
  rw [hck]
  have HR : Hid (okS lo hi (-1) (xs.drop 0) = R) := Lib.hid hR.symm
  clear hR hck
  go_enter Tryz.func86, Tryz.ntmps86
  go_wp2_with fail
  go_loopw [7, 12] (fun l i wr => ∃ (k : Nat) (last : Int), k ≤ xs.length ∧ i = .int .i64 k ∧ l = .int .i64 last ∧ Hid (okS lo hi last (xs.drop k) = R) ∧ Below w.heap.size w wr) (fun _ i _ => xs.length - (intOf i).toNat)
  case atStart => exact ⟨0, -1, by omega, rfl, rfl, HR, Below.refl _ _⟩
  case round =>
    obtain ⟨k, last, hk, rfl, rfl, HS, hbel⟩ := hrel
    clear HR
    by_cases hlt : k < xs.length
    · obtain ⟨⟨f, t, x⟩, hxk, _⟩ := get_el hlt
      obtain ⟨ad, rfl, ha, d0, d1, d2⟩ := HC.out k _ hxk
      simp only at d0 d1 d2
      obtain ⟨e0, e1, e2⟩ := span_cells hbel ha d0 d1 d2
      have HX := Lib.hid hxk
      clear d0 d1 d2 hxk ha
      have k0 : (0 : Int) ≤ (k : Int) := by omega
      have k1 : (k : Int) < (xs.length : Int) := by omega
      rcases okOne_ways (lo := lo) (hi := hi) (last := last) (f := f) (t := t) (v := x) with ⟨ho, q0, q1, q2, q3, q4⟩ | ⟨ho, hw⟩
      · have HN := Lib.hid (okS_go HX.out HS.out ho)
        clear ho
        go_wp2_with fail
        go_roundw
        case rel => exact ⟨k + 1, t, by omega, by go_num, rfl, HN, hbel.alloc hbel.size _⟩
        case measure => simp [intOf]; omega
      · have HN := Lib.hid (okS_no HX.out HS.out ho)
        clear ho
        rcases hw with q0 | ⟨q0, q1⟩ | ⟨q0, q1, q2⟩ | ⟨q0, q1, q2, q3⟩ | ⟨q0, q1, q2, q3, q4⟩
        all_goals
          go_wp2_with fail
          go_ret
          rw [HN.out]
          exact ⟨rfl, hbel.alloc hbel.size _⟩
    · have HN := Lib.hid (okS_end (by omega) HS.out)
      go_wp2_with fail
      go_ret
      rw [HN.out]
      exact ⟨by simp; omega, hbel⟩

/-- The ways through the reference's tests of one span. -/
theorem refOne_ways {lo hi last f t v : Int} (hl : -1 ≤ last) : (okOne lo hi last (f, t, v) = true ∧ decide (f < 0) = false ∧ decide (t < f) = false ∧ decide (1114111 < t) = false ∧ decide (f < lo) = false ∧ decide (hi < t) = false ∧ decide (f ≤ last) = false) ∨
    (okOne lo hi last (f, t, v) = false ∧ (decide (f < 0) = true ∨ decide (f < 0) = false ∧ decide (t < f) = true ∨ decide (f < 0) = false ∧ decide (t < f) = false ∧ decide (1114111 < t) = true ∨
      decide (f < 0) = false ∧ decide (t < f) = false ∧ decide (1114111 < t) = false ∧ decide (f < lo) = true ∨ decide (f < 0) = false ∧ decide (t < f) = false ∧ decide (1114111 < t) = false ∧ decide (f < lo) = false ∧ decide (hi < t) = true ∨
      decide (f < 0) = false ∧ decide (t < f) = false ∧ decide (1114111 < t) = false ∧ decide (f < lo) = false ∧ decide (hi < t) = false ∧ decide (f ≤ last) = true)) := by
  unfold okOne
  simp only [decide_eq_true_eq, decide_eq_false_iff_not]
  omega

set_option maxRecDepth 100000 in
set_option maxHeartbeats 1000000 in
theorem refCheck_any (v : Value) (xs : List Sp) (lo hi : Int) (w : World) (hv : Spans w w.heap.size v xs) :
    Calls Tryz.prog 96 #[v, .int .i64 lo, .int .i64 hi] w fun e w' => e = .returned (.bool (checkS xs lo hi)) ∧ Below w.heap.size w w' := by
  obtain ⟨A, c, rfl, hc1, hc2, _, hcell⟩ := hv
  have HC := Lib.hid hcell; clear hcell
  have hl : xs.length ≤ 9223372036854775807 := by unfold maxLen at hc2; omega
  clear hc2 hc1
  obtain ⟨R, hR⟩ : ∃ R, R = okS lo hi (-1) xs := ⟨_, rfl⟩
  have hck : checkS xs lo hi = (R && decide (xs.length ≤ 256)) := by rw [hR]; rfl
  rw [hck]
  have HR : Hid (okS lo hi (-1) (xs.drop 0) = R) := Lib.hid hR.symm
  clear hR hck
  by_cases hbig : 256 < xs.length
  · have hf : decide (xs.length ≤ 256) = false := by rw [decide_eq_false_iff_not]; omega
    rw [hf, Bool.and_false]
    clear hf HR HC
    go_enter Tryz.func96, Tryz.ntmps96
    go_wp2_with fail
    go_ret
    exact ⟨rfl, Below.refl _ _⟩
  · have hf : decide (xs.length ≤ 256) = true := by rw [decide_eq_true_iff]; omega
    rw [hf, Bool.and_true]
    clear hf
    go_enter Tryz.func96, Tryz.ntmps96
    go_wp2_with fail
    go_loopw [14] (fun i wr => ∃ (k : Nat) (last : Int), k ≤ xs.length ∧ i = .int .i64 k ∧ -1 ≤ last ∧ Hid (okS lo hi last (xs.drop k) = R) ∧ Hid ((0 < k → ∃ s, xs[k - 1]? = some s ∧ s.2.1 = last) ∧ (k = 0 → last = -1)) ∧ Below w.heap.size w wr) (fun i _ => xs.length - (intOf i).toNat)
    case atStart => exact ⟨0, -1, by omega, rfl, by omega, HR, Lib.hid ⟨fun h => absurd h (by omega), fun _ => rfl⟩, Below.refl _ _⟩
    case round =>
      obtain ⟨k, last, hk, rfl, hlast, HS, HP, hbel⟩ := hrel
      clear HR
      by_cases hlt : k < xs.length
      · obtain ⟨⟨f, t, x⟩, hxk, _⟩ := get_el hlt
        obtain ⟨ad, rfl, ha, d0, d1, d2⟩ := HC.out k _ hxk
        simp only at d0 d1 d2
        obtain ⟨e0, e1, e2⟩ := span_cells hbel ha d0 d1 d2
        have HX := Lib.hid hxk
        clear d0 d1 d2 hxk
        have k0 : (0 : Int) ≤ (k : Int) := by omega
        have k1 : (k : Int) < (xs.length : Int) := by omega
        have hways := refOne_ways (lo := lo) (hi := hi) (last := last) (f := f) (t := t) (v := x) hlast
        by_cases hk0 : 0 < k
        · obtain ⟨⟨f', t', x'⟩, hj, hjl⟩ := HP.out.1 hk0
          simp only at hjl
          subst hjl
          obtain ⟨ad', h', _, d0, d1, d2⟩ := HC.out _ _ hj
          cases h'
          simp only at d0 d1 d2
          obtain ⟨g0, g1, g2⟩ := span_cells hbel ha d0 d1 d2
          clear d0 d1 d2 hj g0 g2
          obtain ⟨j, rfl⟩ : ∃ j, k = j + 1 := ⟨k - 1, by omega⟩
          rw [Nat.add_sub_cancel] at g1
          have g1' := fun o : Obj => (World.cell?_alloc_lt wr o { block := (ad.add (j * 3)).block, off := (ad.add (j * 3)).off + 1, spot := none } (by have := hbel.size; simp only [block_of_add]; omega)).trans g1
          clear g1
          have hw : IntKind.i64.wrap ((j : Int) + 1 - 1) = (j : Int) := by rw [IntWalk.i64_in _ (by omega)]; omega
          have hwj : IntKind.i64.wrap (j : Int) = (j : Int) := IntWalk.i64_in _ (by omega)
          have j0 : (0 : Int) ≤ (j : Int) := by omega
          have j1 : (j : Int) < (xs.length : Int) := by omega
          have j2 : j < xs.length := by omega
          rcases hways with ⟨ho, q0, q1, q2, q3, q4, q5⟩ | ⟨ho, hw'⟩
          · have ht : -1 ≤ t := by simp only [okOne, decide_eq_true_eq] at ho; omega
            have HN := Lib.hid (okS_go HX.out HS.out ho)
            clear ho
            go_wp2_with fail
            go_quiet (fail)
            go_wp2_with fail
            go_roundw
            case rel => exact ⟨(j + 1) + 1, t, by omega, by go_num, ht, HN, Lib.hid ⟨fun _ => ⟨(f, t, x), by simpa using HX.out, rfl⟩, fun h => absurd h (by omega)⟩, below_drewN (hbel.alloc hbel.size _) nq⟩
            case measure => simp [intOf]; omega
          · have HN := Lib.hid (okS_no HX.out HS.out ho)
            clear ho
            rcases hw' with q0 | ⟨q0, q1⟩ | ⟨q0, q1, q2⟩ | ⟨q0, q1, q2, q3⟩ | ⟨q0, q1, q2, q3, q4⟩ | ⟨q0, q1, q2, q3, q4, q5⟩
            all_goals
              go_wp2_with fail
              go_quiet (fail)
              go_wp2_with fail
              go_ret
              rw [HN.out]
              exact ⟨rfl, below_drewN (hbel.alloc hbel.size _) nq⟩
        · have hl1 := HP.out.2 (by omega)
          subst hl1
          have hz : decide ((0 : Int) < (k : Int)) = false := by rw [decide_eq_false_iff_not]; omega
          clear HP
          rcases hways with ⟨ho, q0, q1, q2, q3, q4, q5⟩ | ⟨ho, hw'⟩
          · have ht : -1 ≤ t := by simp only [okOne, decide_eq_true_eq] at ho; omega
            have HN := Lib.hid (okS_go HX.out HS.out ho)
            clear ho
            go_wp2_with fail
            go_quiet (fail)
            go_wp2_with fail
            go_roundw
            case rel => exact ⟨k + 1, t, by omega, by go_num, ht, HN, Lib.hid ⟨fun _ => ⟨(f, t, x), by simpa using HX.out, rfl⟩, fun h => absurd h (by omega)⟩, below_drewN (hbel.alloc hbel.size _) nq⟩
            case measure => simp [intOf]; omega
          · rw [show (decide (f ≤ -1) = true) = (decide (f < 0) = true) from by simp; omega] at hw'
            have HN := Lib.hid (okS_no HX.out HS.out ho)
            clear ho
            rcases hw' with q0 | ⟨q0, q1⟩ | ⟨q0, q1, q2⟩ | ⟨q0, q1, q2, q3⟩ | ⟨q0, q1, q2, q3, q4⟩ | ⟨q0, _, _, _, _, q5⟩
            rotate_left 5
            · rw [q0] at q5; cases q5
            all_goals
              go_wp2_with fail
              go_quiet (fail)
              go_wp2_with fail
              go_ret
              rw [HN.out]
              exact ⟨rfl, below_drewN (hbel.alloc hbel.size _) nq⟩
      · have HN := Lib.hid (okS_end (by omega) HS.out)
        go_wp2_with fail
        go_ret
        rw [HN.out]
        exact ⟨by simp, hbel⟩
end Go.Proofs.YtneinkpfhkojgaaGreatDoor
/-
  The walk through table.shape: rule 2.
-/
namespace Go.Proofs.YtneinkpfhkojgaaGreatDoor
open Go.RowKit ND

def colShape (c : List Sp × Int × Int) : Bool := colOk c.1
def spOut (s : Sp) : Bool := outB s.1 s.2.1
def mpKeys (p : List Mp × Nat) : Bool := keysB (p.2 == 3) (-1) (keysOf p.1)
theorem rule2_parts (T : Tab) : T.rule2 = (T.cols.all colShape && (T.mps.zipIdx.all mpKeys && keysB false (-1) T.excluded)) := by
  unfold Tab.rule2 Tab.rule2m Tab.mps
  simp only [List.zipIdx_cons, List.zipIdx_nil, List.all_cons, List.all_nil, Bool.and_true]
  rfl
theorem zip_at {T : Tab} {k : Nat} {p : List Mp × Nat} (h : T.mps.zipIdx[k]? = some p) : p.2 = k ∧ T.mps[k]? = some p.1 := by
  rw [List.getElem?_zipIdx] at h
  cases hm : T.mps[k]? with
  | none => rw [hm] at h; cases h
  | some m => rw [hm] at h; cases h; exact ⟨by simp, rfl⟩
theorem keys_go {p : Bool} {last c : Int} {xs : List Int} {k : Nat} {R : Bool} (hx : xs[k]? = some c) (h : keysB p last (xs.drop k) = R) (h1 : keyOk p last c = true) : keysB p c (xs.drop (k + 1)) = R := by
  rw [drop_of_get hx, keysB, h1, Bool.true_and] at h; exact h
theorem keys_no {p : Bool} {last c : Int} {xs : List Int} {k : Nat} {R : Bool} (hx : xs[k]? = some c) (h : keysB p last (xs.drop k) = R) (h1 : keyOk p last c = false) : R = false := by
  rw [drop_of_get hx, keysB, h1, Bool.false_and] at h; exact h.symm
theorem keys_end {p : Bool} {last : Int} {xs : List Int} {k : Nat} {R : Bool} (hk : xs.length ≤ k) (h : keysB p last (xs.drop k) = R) : R = true := by
  rw [List.drop_eq_nil_of_le hk] at h; exact h.symm
theorem keys_get {l : List Mp} {k : Nat} {m : Mp} (h : l[k]? = some m) : (keysOf l)[k]? = some m.1 := by unfold keysOf; rw [List.getElem?_map, h]; rfl

/-- The ways through the test of a key. -/
theorem key_ways (last c : Int) (k : Nat) : (keyOk (k == 3) last c = true ∧ pointB last c = true) ∨ (keyOk (k == 3) last c = false ∧ pointB last c = false ∧ ((k : Int) != 3) = true) ∨
    (keyOk (k == 3) last c = false ∧ pointB last c = false ∧ ((k : Int) != 3) = false ∧ decide (c ≤ last) = true) ∨ (keyOk (k == 3) last c = false ∧ pointB last c = false ∧ ((k : Int) != 3) = false ∧ decide (c ≤ last) = false ∧ nameB c = false) ∨
    (keyOk (k == 3) last c = true ∧ pointB last c = false ∧ ((k : Int) != 3) = false ∧ decide (c ≤ last) = false ∧ nameB c = true) := by
  have hn : nameB c = true → c ≤ 1114111 := fun h => by rw [nameB_iff] at h; omega
  unfold keyOk pointB
  by_cases h3 : k = 3
  · subst h3
    have e : (((3 : Nat) : Int) != 3) = false := by decide
    rw [e]
    by_cases h1 : last < c
    · have e1 : decide (c ≤ last) = false := by rw [decide_eq_false_iff_not]; omega
      rw [e1]
      by_cases h2 : c ≤ 1114111
      · rw [decide_eq_true (And.intro h1 h2)]
        cases resB c <;> cases nameB c <;> simp
      · rw [decide_eq_false (fun h => h2 h.2)]
        have : nameB c = false := by
          cases hh : nameB c
          · rfl
          · exact absurd (hn hh) h2
        rw [this]; simp
    · have e1 : decide (c ≤ last) = true := by rw [decide_eq_true_iff]; omega
      rw [e1, decide_eq_false (fun h : last < c ∧ c ≤ 1114111 => h1 h.1)]; simp
  · have e : ((k : Int) != 3) = true := by rw [bne_iff_ne]; omega
    have e2 : (k == 3) = false := by rw [beq_eq_false_iff_ne]; exact h3
    rw [e, e2]
    cases decide (last < c ∧ c ≤ 1114111) <;> cases resB c <;> simp
theorem keyOk_false (last c : Int) : keyOk false last c = pointB last c := by unfold keyOk pointB; simp

set_option maxRecDepth 100000 in
set_option maxHeartbeats 4000000 in
theorem shape_any (t : Tv) (T : Tab) (w : World) (ht : TabR w w.heap.size t T) (hg : Glob w) :
    Calls Tryz.prog 63 #[t.val] w fun e w' => e = .returned (.bool T.rule2) ∧ Below w.heap.size w w' := by
  obtain ⟨A0, A1, A2, A3, A4, A5, A6, A7, A8, A9, A10, A11, k0, k1, k2, k3, k4, k5, k6, k7, k8, k9, k10, k11, rfl⟩ := ht.shape
  have HR := Lib.hid (fun o : Obj => ht.later ((Below.refl _ _).alloc (Nat.le_refl _) o))
  have HG0 := Lib.hid (fun o : Obj => hg.later ((Below.refl _ _).alloc (Nat.le_refl _) o))
  clear ht hg
  obtain ⟨R, hR⟩ : ∃ R, R = T.rule2 := ⟨_, rfl⟩
  rw [← hR]
  obtain ⟨R1, hR1⟩ : ∃ R1, R1 = T.cols.all colShape := ⟨_, rfl⟩
  obtain ⟨R2, hR2⟩ : ∃ R2, R2 = T.mps.zipIdx.all mpKeys := ⟨_, rfl⟩
  obtain ⟨R3, hR3⟩ : ∃ R3, R3 = keysB false (-1) T.excluded := ⟨_, rfl⟩
  have HR1 : Hid ((T.cols.drop 0).all colShape = R1) := Lib.hid hR1.symm
  have HR2 : Hid ((T.mps.zipIdx.drop 0).all mpKeys = R2) := Lib.hid hR2.symm
  have HR3 : Hid (keysB false (-1) (T.excluded.drop 0) = R3) := Lib.hid hR3.symm
  have HRR : Hid (R = (R1 && (R2 && R3))) := Lib.hid (by rw [hR, hR1, hR2, hR3, rule2_parts])
  clear hR hR1 hR2 hR3
  go_enter Tryz.func63, Tryz.ntmps63
  go_wp2_with fail
  refine (columns_any _ T _ (HR.out _)).mono ?_
  rintro e w1 ⟨ad, rfl, hc, b1⟩
  have HC := Lib.hid hc.2
  have hca := hc.1
  have HB := Lib.hid ((Blk.new w 26 _).later b1)
  have HT := Lib.hid ((HR.out _).later b1)
  have HG := Lib.hid ((HG0.out _).later b1)
  have hbel1 := below_next ((Below.refl _ _).alloc (Nat.le_refl _) _) b1
  clear hc b1 HR HG0
  go_wp2_with fail
  go_loopw [18] (fun i wr => ∃ (k : Nat), k ≤ 7 ∧ i = .int .i64 k ∧ Hid ((T.cols.drop k).all colShape = R1) ∧ Below w1.heap.size w1 wr) (fun i _ => 7 - (intOf i).toNat)
  case atStart => exact ⟨0, by omega, rfl, HR1, Below.refl _ _⟩
  case round =>
    obtain ⟨k, hk, rfl, HS, hbel⟩ := hrel
    clear HR1
    by_cases hlt : k < 7
    · obtain ⟨⟨l, lo, hi⟩, hxk, _⟩ := get_el (xs := T.cols) (k := k) hlt
      obtain ⟨v, d0, d1, d2, hv⟩ := HC.out k _ hxk
      simp only at d0 d1 d2 hv
      obtain ⟨A, c, rfl, hc1, hc2, _, hcell⟩ := id hv
      have HCE := Lib.hid hcell
      have hlm : l.length ≤ 9223372036854775807 := by unfold maxLen at hc2; omega
      have HV := Lib.hid (fun o => (hv.later hbel).later ((Below.refl _ _).alloc (Nat.le_refl _) o))
      obtain ⟨e0, e1, e2⟩ := span_cells hbel hca d0 d1 d2
      have HX := Lib.hid hxk
      clear d0 d1 d2 hxk hcell hv hc1 hc2
      have q0 : (0 : Int) ≤ (k : Int) := by omega
      have q1 : (k : Int) < (7 : Int) := by omega
      have HK := Lib.hid (fun W h => check_any (.slice A l.length c) l 0 1114111 W h)
      cases hck : checkS l 0 1114111
      · rw [hck] at HK
        have HN := Lib.hid (each_no HX.out HS.out (by unfold colShape colOk; rw [hck]; rfl))
        clear hck
        go_wp2_with fail
        refine (HK.out _ (HV.out _)).mono ?_
        rintro e w2 ⟨rfl, b2⟩
        go_wp2_with fail
        go_ret
        rw [HRR.out, HN.out]
        exact ⟨by simp, below_next hbel1 (below_next (hbel.alloc hbel.size _) b2)⟩
      · rw [hck] at HK
        obtain ⟨Ro, hRo⟩ : ∃ Ro, Ro = l.all spOut := ⟨_, rfl⟩
        have HO : Hid ((l.drop 0).all spOut = Ro) := Lib.hid hRo.symm
        have HCO : Hid (colShape (l, lo, hi) = Ro) := Lib.hid (by rw [hRo]; unfold colShape colOk; rw [hck]; rfl)
        clear hck hRo
        go_wp2_with fail
        refine (HK.out _ (HV.out _)).mono ?_
        rintro e w2 ⟨rfl, b2⟩
        have d0 := ((Blk.new wr 83 #[.slice A l.length c, .int .i64 lo, .int .i64 hi]).later b2).at_ (i := 0) rfl
        have hbel2 : Below w1.heap.size w1 w2 := below_next (hbel.alloc hbel.size _) b2
        clear HK HV b2 e0 e1 e2 hbel
        go_wp2_with fail
        clear d0
        go_loopw [29] (fun i wr => ∃ (j : Nat), j ≤ l.length ∧ i = .int .i64 j ∧ Hid ((l.drop j).all spOut = Ro) ∧ Below w1.heap.size w1 wr) (fun i _ => l.length - (intOf i).toNat)
        case atStart => exact ⟨0, by omega, rfl, HO, hbel2⟩
        case round =>
          obtain ⟨j, hj, rfl, HSj, hbelj⟩ := hrel
          clear HO hbel2
          by_cases hjl : j < l.length
          · obtain ⟨⟨f, t, x⟩, hxj, _⟩ := get_el hjl
            obtain ⟨aj, rfl, ha, d0, d1, d2⟩ := HCE.out j _ hxj
            simp only at d0 d1 d2
            obtain ⟨e0, e1, e2⟩ := span_cells hbelj ha d0 d1 d2
            have HXj := Lib.hid hxj
            have HGj := Lib.hid (fun o => (HG.out.later hbelj).later ((Below.refl _ _).alloc (Nat.le_refl _) o))
            clear d0 d1 d2 hxj ha
            have r0 : (0 : Int) ≤ (j : Int) := by omega
            have r1 : (j : Int) < (l.length : Int) := by omega
            have HOU := Lib.hid (fun W h => outside_any f t x W h)
            cases ho : outB f t
            · rw [ho] at HOU
              have HN := Lib.hid (each_no HXj.out HSj.out ho)
              clear ho
              go_wp2_with fail
              refine (HOU.out _ (HGj.out _)).mono ?_
              rintro e w3 ⟨rfl, b3⟩
              go_wp2_with fail
              go_ret
              rw [HRR.out, each_no HX.out HS.out (HCO.out.trans HN.out)]
              exact ⟨by simp, below_next hbel1 (below_next (hbelj.alloc hbelj.size _) b3)⟩
            · rw [ho] at HOU
              have HN := Lib.hid (each_go HXj.out HSj.out ho)
              clear ho
              go_wp2_with fail
              refine (HOU.out _ (HGj.out _)).mono ?_
              rintro e w3 ⟨rfl, b3⟩
              go_wp2_with fail
              go_roundw
              case rel => exact ⟨j + 1, by omega, by go_num, HN, below_next (hbelj.alloc hbelj.size _) b3⟩
              case measure => simp [intOf]; omega
          · have HN := Lib.hid (each_go HX.out HS.out (HCO.out.trans (each_end (by omega) HSj.out)))
            go_wp2_with fail
            go_roundw
            case rel => exact ⟨k + 1, by omega, by go_num, HN, hbelj⟩
            case measure => simp [intOf]; omega
    · have HN := Lib.hid (each_end (by show 7 ≤ k; omega) HS.out)
      obtain ⟨x0, x1, x2, x3, x4, x5, x6, x7, x8, x9, x10, x11⟩ := (HB.out.later hbel).tab
      have HT2 := Lib.hid (HT.out.later hbel)
      clear HC hca HS
      go_wp2_with fail
      refine (mappings_any _ T _ HT2.out).mono ?_
      rintro e w2 ⟨am, rfl, hm, b2⟩
      have HM := Lib.hid hm.2
      have hma := hm.1
      have HB2 := Lib.hid ((HB.out.later hbel).later b2)
      have HX10 := Lib.hid (HT2.out.r10.later b2)
      have hbel2 := below_next hbel1 (below_next hbel b2)
      clear hm HT2 hbel hbel1 b2 x0 x1 x2 x3 x4 x5 x6 x7 x8 x9 x10 x11 HB HT HG
      go_wp2_with fail
      go_loopw [41] (fun i wr => ∃ (k : Nat), k ≤ 4 ∧ i = .int .i64 k ∧ Hid ((T.mps.zipIdx.drop k).all mpKeys = R2) ∧ Below w2.heap.size w2 wr) (fun i _ => 4 - (intOf i).toNat)
      case atStart => exact ⟨0, by omega, rfl, HR2, Below.refl _ _⟩
      case round =>
        obtain ⟨k, hk, rfl, HS, hbel⟩ := hrel
        clear HR2
        by_cases hlt : k < 4
        · obtain ⟨⟨l, k'⟩, hxk, _⟩ := get_el (xs := T.mps.zipIdx) (k := k) hlt
          obtain ⟨hk', hxm⟩ := zip_at hxk
          simp only at hk' hxm
          subst hk'
          obtain ⟨v, d0, hv⟩ := HM.out k' _ hxm
          obtain ⟨A, c, rfl, hc1, hc2, _, hcell⟩ := id hv
          have HCE := Lib.hid hcell
          have hlm : l.length ≤ 9223372036854775807 := by unfold maxLen at hc2; omega
          have e0 := (hbel.cell (p := am.add k') (by rw [block_of_add]; exact hma)).trans d0
          have HX := Lib.hid hxk
          obtain ⟨Ro, hRo⟩ : ∃ Ro, Ro = mpKeys (l, k') := ⟨_, rfl⟩
          have HO : Hid (keysB (k' == 3) (-1) ((keysOf l).drop 0) = Ro) := Lib.hid hRo.symm
          have HCO : Hid (mpKeys (l, k') = Ro) := Lib.hid hRo.symm
          clear d0 hxk hxm hcell hv hc1 hc2 hRo
          have q0 : (0 : Int) ≤ (k' : Int) := by omega
          have q1 : (k' : Int) < (4 : Int) := by omega
          go_wp2_with fail
          clear e0
          go_loopw [9, 48] (fun la i wr => ∃ (j : Nat) (last : Int), j ≤ l.length ∧ i = .int .i64 j ∧ la = .int .i64 last ∧ Hid (keysB (k' == 3) last ((keysOf l).drop j) = Ro) ∧ Below w2.heap.size w2 wr) (fun _ i _ => l.length - (intOf i).toNat)
          case atStart => exact ⟨0, -1, by omega, rfl, rfl, HO, hbel⟩
          case round =>
            obtain ⟨j, last, hj, rfl, rfl, HSj, hbelj⟩ := hrel
            clear HO hbel
            by_cases hjl : j < l.length
            · obtain ⟨⟨cc, tg⟩, hxj, _⟩ := get_el hjl
              obtain ⟨aj, sv, rfl, ha, d0, d1, A', c', rfl, _⟩ := HCE.out j _ hxj
              simp only at d0 d1
              obtain ⟨e0, e1⟩ := map_cells hbelj ha d0 d1
              have HXj := Lib.hid (keys_get hxj)
              simp only at HXj
              clear d0 d1 hxj ha
              have r0 : (0 : Int) ≤ (j : Int) := by omega
              have r1 : (j : Int) < (l.length : Int) := by omega
              have HP := Lib.hid (fun W => point_any last cc W)
              have HNA := Lib.hid (fun W => name_any cc W)
              rcases key_ways last cc k' with ⟨ho, p0⟩ | ⟨ho, p0, p1⟩ | ⟨ho, p0, p1, p2⟩ | ⟨ho, p0, p1, p2, p3⟩ | ⟨ho, p0, p1, p2, p3⟩
              · have HN := Lib.hid (keys_go HXj.out HSj.out ho)
                rw [p0] at HP
                clear ho p0 HNA
                go_wp2_with fail
                refine (HP.out _).mono ?_
                rintro e w' ⟨rfl, rfl⟩
                go_wp2_with fail
                go_roundw
                case rel => exact ⟨j + 1, cc, by omega, by go_num, rfl, HN, hbelj.alloc hbelj.size _⟩
                case measure => simp [intOf]; omega
              · have HN := Lib.hid (keys_no HXj.out HSj.out ho)
                rw [p0] at HP
                clear ho p0 HNA
                go_wp2_with fail
                refine (HP.out _).mono ?_
                rintro e w' ⟨rfl, rfl⟩
                go_wp2_with fail
                go_ret
                rw [HRR.out, each_no HX.out HS.out (HCO.out.trans HN.out)]
                exact ⟨by simp, below_next hbel2 (hbelj.alloc hbelj.size _)⟩
              · have HN := Lib.hid (keys_no HXj.out HSj.out ho)
                rw [p0] at HP
                clear ho p0 HNA
                go_wp2_with fail
                refine (HP.out _).mono ?_
                rintro e w' ⟨rfl, rfl⟩
                go_wp2_with fail
                go_ret
                rw [HRR.out, each_no HX.out HS.out (HCO.out.trans HN.out)]
                exact ⟨by simp, below_next hbel2 (hbelj.alloc hbelj.size _)⟩
              · have HN := Lib.hid (keys_no HXj.out HSj.out ho)
                rw [p0] at HP
                rw [p3] at HNA
                clear ho p0 p3
                go_wp2_with fail
                refine (HP.out _).mono ?_
                rintro e w' ⟨rfl, rfl⟩
                go_wp2_with fail
                refine (HNA.out _).mono ?_
                rintro e w' ⟨rfl, rfl⟩
                go_wp2_with fail
                go_ret
                rw [HRR.out, each_no HX.out HS.out (HCO.out.trans HN.out)]
                exact ⟨by simp, below_next hbel2 (hbelj.alloc hbelj.size _)⟩
              · have HN := Lib.hid (keys_go HXj.out HSj.out ho)
                rw [p0] at HP
                rw [p3] at HNA
                clear ho p0 p3
                go_wp2_with fail
                refine (HP.out _).mono ?_
                rintro e w' ⟨rfl, rfl⟩
                go_wp2_with fail
                refine (HNA.out _).mono ?_
                rintro e w' ⟨rfl, rfl⟩
                go_wp2_with fail
                go_roundw
                case rel => exact ⟨j + 1, cc, by omega, by go_num, rfl, HN, hbelj.alloc hbelj.size _⟩
                case measure => simp [intOf]; omega
            · have HN := Lib.hid (each_go HX.out HS.out (HCO.out.trans (keys_end (by unfold keysOf; rw [List.length_map]; omega) HSj.out)))
              go_wp2_with fail
              go_roundw
              case rel => exact ⟨k' + 1, by omega, by go_num, HN, hbelj⟩
              case measure => simp [intOf]; omega
        · have HN2 := Lib.hid (each_end (by show 4 ≤ k; omega) HS.out)
          obtain ⟨A, c, hA, hc1, hc2, _, hcell⟩ := HX10.out
          cases hA
          have HCE := Lib.hid hcell
          have hlm : T.excluded.length ≤ 9223372036854775807 := by unfold maxLen at hc2; omega
          have x10 := (HB2.out.later hbel).at_ (i := 10) rfl
          clear HM hma HS HX10 hcell hc1 hc2 HB2
          go_wp2_with fail
          go_loop [12, 80] (fun la i => ∃ (j : Nat) (last : Int), j ≤ T.excluded.length ∧ i = .int .i64 j ∧ la = .int .i64 last ∧ Hid (keysB false last (T.excluded.drop j) = R3)) (fun _ i => T.excluded.length - (intOf i).toNat)
          case atStart => exact ⟨0, -1, by omega, rfl, rfl, HR3⟩
          case round =>
            obtain ⟨j, last, hj, rfl, rfl, HSj⟩ := hrel
            clear HR3
            by_cases hjl : j < T.excluded.length
            · obtain ⟨cc, hxj, _⟩ := get_el hjl
              obtain ⟨aj, rfl, ha, d0⟩ := HCE.out j _ hxj
              have e0 := (hbel.cell (p := aj.add j) (by rw [block_of_add]; exact ha)).trans d0
              have HXj := Lib.hid hxj
              clear d0 hxj ha
              have r0 : (0 : Int) ≤ (j : Int) := by omega
              have r1 : (j : Int) < (T.excluded.length : Int) := by omega
              have HP := Lib.hid (fun W => point_any last cc W)
              cases ho : pointB last cc
              · have HN3 := Lib.hid (keys_no HXj.out HSj.out ((keyOk_false _ _).trans ho))
                rw [ho] at HP
                clear ho
                go_wp2_with fail
                refine (HP.out _).mono ?_
                rintro e w' ⟨rfl, rfl⟩
                go_wp2_with fail
                go_ret
                rw [HRR.out, HN3.out]
                exact ⟨by simp, below_next hbel2 hbel⟩
              · have HN3 := Lib.hid (keys_go HXj.out HSj.out ((keyOk_false _ _).trans ho))
                rw [ho] at HP
                clear ho
                go_wp2_with fail
                refine (HP.out _).mono ?_
                rintro e w' ⟨rfl, rfl⟩
                go_wp2_with fail
                go_round
                case rel => exact ⟨j + 1, cc, by omega, by go_num, rfl, HN3⟩
                case measure => simp [intOf]; omega
            · have HN3 := Lib.hid (keys_end (by omega) HSj.out)
              go_wp2_with fail
              go_ret
              rw [HRR.out, HN.out, HN2.out, HN3.out]
              exact ⟨by simp, below_next hbel2 hbel⟩
end Go.Proofs.YtneinkpfhkojgaaGreatDoor
/-
  The walks through table.values and the reference's ranged: rule 3.
-/
namespace Go.Proofs.YtneinkpfhkojgaaGreatDoor
open Go.RowKit ND

def spVal (lo hi : Int) (s : Sp) : Bool := decide (lo ≤ s.2.2 ∧ s.2.2 ≤ hi)
theorem valsOk_eq (l : List Sp) (lo hi : Int) : valsOk (l, lo, hi) = l.all (spVal lo hi) := rfl
theorem val_ways (lo hi v : Int) : (decide (lo ≤ v ∧ v ≤ hi) = true ∧ decide (v < lo) = false ∧ decide (hi < v) = false) ∨ (decide (lo ≤ v ∧ v ≤ hi) = false ∧ decide (v < lo) = true) ∨
    (decide (lo ≤ v ∧ v ≤ hi) = false ∧ decide (v < lo) = false ∧ decide (hi < v) = true) := by
  simp only [decide_eq_true_eq, decide_eq_false_iff_not]; omega

set_option maxRecDepth 100000 in
set_option maxHeartbeats 2000000 in
theorem values_any (t : Tv) (T : Tab) (w : World) (ht : TabR w w.heap.size t T) :
    Calls Tryz.prog 64 #[t.val] w fun e w' => e = .returned (.bool T.rule3) ∧ Below w.heap.size w w' := by
  obtain ⟨A0, A1, A2, A3, A4, A5, A6, A7, A8, A9, A10, A11, k0, k1, k2, k3, k4, k5, k6, k7, k8, k9, k10, k11, rfl⟩ := ht.shape
  have HR := Lib.hid (fun o : Obj => ht.later ((Below.refl _ _).alloc (Nat.le_refl _) o))
  clear ht
  obtain ⟨R, hR⟩ : ∃ R, R = T.rule3 := ⟨_, rfl⟩
  rw [← hR]
  have HR1 : Hid ((T.cols.drop 0).all valsOk = R) := Lib.hid hR.symm
  clear hR
  go_enter Tryz.func64, Tryz.ntmps64
  go_wp2_with fail
  refine (columns_any _ T _ (HR.out _)).mono ?_
  rintro e w1 ⟨ad, rfl, hc, b1⟩
  have HC := Lib.hid hc.2
  have hca := hc.1
  have hbel1 := below_next ((Below.refl _ _).alloc (Nat.le_refl _) _) b1
  clear hc b1 HR
  go_wp2_with fail
  go_loopw [10] (fun i wr => ∃ (k : Nat), k ≤ 7 ∧ i = .int .i64 k ∧ Hid ((T.cols.drop k).all valsOk = R) ∧ Below w1.heap.size w1 wr) (fun i _ => 7 - (intOf i).toNat)
  case atStart => exact ⟨0, by omega, rfl, HR1, Below.refl _ _⟩
  case round =>
    obtain ⟨k, hk, rfl, HS, hbel⟩ := hrel
    clear HR1
    by_cases hlt : k < 7
    · obtain ⟨⟨l, lo, hi⟩, hxk, _⟩ := get_el (xs := T.cols) (k := k) hlt
      obtain ⟨v, d0, d1, d2, hv⟩ := HC.out k _ hxk
      simp only at d0 d1 d2 hv
      obtain ⟨A, c, rfl, hc1, hc2, _, hcell⟩ := id hv
      have HCE := Lib.hid hcell
      have hlm : l.length ≤ 9223372036854775807 := by unfold maxLen at hc2; omega
      obtain ⟨e0, e1, e2⟩ := span_cells hbel hca d0 d1 d2
      have HX := Lib.hid hxk
      clear d0 d1 d2 hxk hcell hv hc1 hc2
      have q0 : (0 : Int) ≤ (k : Int) := by omega
      have q1 : (k : Int) < (7 : Int) := by omega
      obtain ⟨Ro, hRo⟩ : ∃ Ro, Ro = l.all (spVal lo hi) := ⟨_, rfl⟩
      have HO : Hid ((l.drop 0).all (spVal lo hi) = Ro) := Lib.hid hRo.symm
      have HCO : Hid (valsOk (l, lo, hi) = Ro) := Lib.hid hRo.symm
      clear hRo
      go_wp2_with fail
      have hbw := hbel.alloc hbel.size (.cells #[.slice A l.length c, .int .i64 lo, .int .i64 hi] 83)
      have HBC := Lib.hid (Blk.new wr 83 #[.slice A l.length c, .int .i64 lo, .int .i64 hi])
      generalize wr.alloc (.cells #[.slice A l.length c, .int .i64 lo, .int .i64 hi] 83) = wo at *
      clear e0 e1 e2 hbel
      go_loopw [17] (fun i wj => ∃ (j : Nat), j ≤ l.length ∧ i = .int .i64 j ∧ Hid ((l.drop j).all (spVal lo hi) = Ro) ∧ Below wo.heap.size wo wj) (fun i _ => l.length - (intOf i).toNat)
      case atStart => exact ⟨0, by omega, rfl, HO, Below.refl _ _⟩
      case round =>
        obtain ⟨j, hj, rfl, HSj, hbelj⟩ := hrel
        clear HO
        by_cases hjl : j < l.length
        · obtain ⟨⟨f, t, x⟩, hxj, _⟩ := get_el hjl
          obtain ⟨aj, rfl, ha, d0, d1, d2⟩ := HCE.out j _ hxj
          simp only at d0 d1 d2
          obtain ⟨e0, e1, e2⟩ := span_cells (below_next hbw hbelj) ha d0 d1 d2
          have HXj := Lib.hid hxj
          have hbc := (HBC.out.later hbelj).alloc (.cells #[.int .i64 f, .int .i64 t, .int .i64 x] 42)
          have c1 := hbc.at_ (i := 1) (u := .int .i64 lo) rfl
          have c2 := hbc.at_ (i := 2) (u := .int .i64 hi) rfl
          clear d0 d1 d2 hxj ha hbc
          have r0 : (0 : Int) ≤ (j : Int) := by omega
          have r1 : (j : Int) < (l.length : Int) := by omega
          rcases val_ways lo hi x with ⟨ho, p0, p1⟩ | ⟨ho, p0⟩ | ⟨ho, p0, p1⟩
          · have HN := Lib.hid (each_go HXj.out HSj.out ho)
            clear ho
            go_wp2_with fail
            go_roundw
            case rel => exact ⟨j + 1, by omega, by go_num, HN, hbelj.alloc hbelj.size _⟩
            case measure => simp [intOf]; omega
          · have HN := Lib.hid (each_no HXj.out HSj.out ho)
            clear ho
            go_wp2_with fail
            go_ret
            rw [each_no HX.out HS.out (HCO.out.trans HN.out)]
            exact ⟨rfl, below_next hbel1 (below_next hbw (hbelj.alloc hbelj.size _))⟩
          · have HN := Lib.hid (each_no HXj.out HSj.out ho)
            clear ho
            go_wp2_with fail
            go_ret
            rw [each_no HX.out HS.out (HCO.out.trans HN.out)]
            exact ⟨rfl, below_next hbel1 (below_next hbw (hbelj.alloc hbelj.size _))⟩
        · have HN := Lib.hid (each_go HX.out HS.out (HCO.out.trans (each_end (by omega) HSj.out)))
          go_wp2_with fail
          go_roundw
          case rel => exact ⟨k + 1, by omega, by go_num, HN, below_next hbw hbelj⟩
          case measure => simp [intOf]; omega
    · have HN := Lib.hid (each_end (by show 7 ≤ k; omega) HS.out)
      go_wp2_with fail
      go_ret
      rw [HN.out]
      exact ⟨rfl, below_next hbel1 hbel⟩

theorem cols_most {T : Tab} {k : Nat} {l : List Sp} {lo hi : Int} (h : T.cols[k]? = some (l, lo, hi)) : mostL[k]? = some hi ∧ (lo = 1 ∧ (k = 1 ∨ k = 6) ∨ lo = 0 ∧ k ≠ 1 ∧ k ≠ 6) := by
  have hk7 : k < 7 := (List.getElem?_eq_some_iff.1 h).1
  have h7 : k = 0 ∨ k = 1 ∨ k = 2 ∨ k = 3 ∨ k = 4 ∨ k = 5 ∨ k = 6 := by omega
  rcases h7 with rfl | rfl | rfl | rfl | rfl | rfl | rfl <;> cases h
  · exact ⟨rfl, .inr ⟨rfl, by decide, by decide⟩⟩
  · exact ⟨rfl, .inl ⟨rfl, .inl rfl⟩⟩
  · exact ⟨rfl, .inr ⟨rfl, by decide, by decide⟩⟩
  · exact ⟨rfl, .inr ⟨rfl, by decide, by decide⟩⟩
  · exact ⟨rfl, .inr ⟨rfl, by decide, by decide⟩⟩
  · exact ⟨rfl, .inr ⟨rfl, by decide, by decide⟩⟩
  · exact ⟨rfl, .inl ⟨rfl, .inr rfl⟩⟩
theorem rng_ways {lo hi x : Int} {k : Nat} (h : lo = 1 ∧ (k = 1 ∨ k = 6) ∨ lo = 0 ∧ k ≠ 1 ∧ k ≠ 6) :
    (decide (lo ≤ x ∧ x ≤ hi) = false ∧ decide (x < 0) = true) ∨ (decide (lo ≤ x ∧ x ≤ hi) = false ∧ decide (x < 0) = false ∧ decide (hi < x) = true) ∨
    (decide (lo ≤ x ∧ x ≤ hi) = true ∧ decide (x < 0) = false ∧ decide (hi < x) = false ∧ (x == 0) = false) ∨
    (decide (lo ≤ x ∧ x ≤ hi) = false ∧ decide (x < 0) = false ∧ decide (hi < x) = false ∧ (x == 0) = true ∧ ((k : Int) == 1) = true) ∨
    (decide (lo ≤ x ∧ x ≤ hi) = false ∧ decide (x < 0) = false ∧ decide (hi < x) = false ∧ (x == 0) = true ∧ ((k : Int) == 1) = false ∧ ((k : Int) == 6) = true) ∨
    (decide (lo ≤ x ∧ x ≤ hi) = true ∧ decide (x < 0) = false ∧ decide (hi < x) = false ∧ (x == 0) = true ∧ ((k : Int) == 1) = false ∧ ((k : Int) == 6) = false) := by
  simp only [decide_eq_true_eq, decide_eq_false_iff_not, beq_iff_eq, beq_eq_false_iff_ne, ne_eq]
  omega

set_option maxRecDepth 100000 in
set_option maxHeartbeats 4000000 in
theorem ranged_any (t : Tv) (T : Tab) (w : World) (ht : TabR w w.heap.size t T) :
    Calls Tryz.prog 79 #[t.val] w fun e w' => e = .returned (.bool T.rule3) ∧ Below w.heap.size w w' := by
  obtain ⟨A0, A1, A2, A3, A4, A5, A6, A7, A8, A9, A10, A11, k0, k1, k2, k3, k4, k5, k6, k7, k8, k9, k10, k11, rfl⟩ := ht.shape
  have HR := Lib.hid (fun o : Obj => ht.later ((Below.refl _ _).alloc (Nat.le_refl _) o))
  clear ht
  obtain ⟨R, hR⟩ : ∃ R, R = T.rule3 := ⟨_, rfl⟩
  rw [← hR]
  have HR1 : Hid ((T.cols.drop 0).all valsOk = R) := Lib.hid hR.symm
  clear hR
  go_enter Tryz.func79, Tryz.ntmps79
  go_wp2_with fail
  refine (refSpans_any _ T _ (HR.out _)).mono ?_
  rintro e w1 ⟨ad, am, rfl, hc, hm, b1⟩
  have HC := Lib.hid hc.2
  have hca := hc.1
  have HM := Lib.hid hm.2
  have hma := hm.1
  have hbel1 := below_next ((Below.refl _ _).alloc (Nat.le_refl _) _) b1
  clear hc hm b1 HR
  go_wp2_with fail
  go_loopw [16] (fun i wr => ∃ (k : Nat), k ≤ 7 ∧ i = .int .i64 k ∧ Hid ((T.cols.drop k).all valsOk = R) ∧ Below w1.heap.size w1 wr) (fun i _ => 7 - (intOf i).toNat)
  case atStart => exact ⟨0, by omega, rfl, HR1, Below.refl _ _⟩
  case round =>
    obtain ⟨k, hk, rfl, HS, hbel⟩ := hrel
    clear HR1
    by_cases hlt : k < 7
    · obtain ⟨⟨l, lo, hi⟩, hxk, _⟩ := get_el (xs := T.cols) (k := k) hlt
      obtain ⟨v, d0, hv⟩ := HC.out k _ hxk
      simp only at d0 hv
      obtain ⟨A, c, rfl, hc1, hc2, _, hcell⟩ := id hv
      have HCE := Lib.hid hcell
      have hlm : l.length ≤ 9223372036854775807 := by unfold maxLen at hc2; omega
      obtain ⟨hmo, hlo⟩ := cols_most hxk
      have m0 := HM.out k hi hmo
      have HLO := Lib.hid hlo
      have e0 := (hbel.cell (p := ad.add k) (by rw [block_of_add]; exact hca)).trans d0
      have HX := Lib.hid hxk
      have HM0 := Lib.hid m0
      clear d0 hxk hcell hv hc1 hc2 hmo hlo m0
      have q0 : (0 : Int) ≤ (k : Int) := by omega
      have q1 : (k : Int) < (7 : Int) := by omega
      obtain ⟨Ro, hRo⟩ : ∃ Ro, Ro = l.all (spVal lo hi) := ⟨_, rfl⟩
      have HO : Hid ((l.drop 0).all (spVal lo hi) = Ro) := Lib.hid hRo.symm
      have HCO : Hid (valsOk (l, lo, hi) = Ro) := Lib.hid hRo.symm
      clear hRo
      go_wp2_with fail
      clear e0
      go_loopw [23] (fun i wj => ∃ (j : Nat), j ≤ l.length ∧ i = .int .i64 j ∧ Hid ((l.drop j).all (spVal lo hi) = Ro) ∧ Below w1.heap.size w1 wj) (fun i _ => l.length - (intOf i).toNat)
      case atStart => exact ⟨0, by omega, rfl, HO, hbel⟩
      case round =>
        obtain ⟨j, hj, rfl, HSj, hbelj⟩ := hrel
        clear HO hbel
        by_cases hjl : j < l.length
        · obtain ⟨⟨f, t, x⟩, hxj, _⟩ := get_el hjl
          obtain ⟨aj, rfl, ha, d0, d1, d2⟩ := HCE.out j _ hxj
          simp only at d0 d1 d2
          obtain ⟨e0, e1, e2⟩ := span_cells hbelj ha d0 d1 d2
          have HXj := Lib.hid hxj
          have f0 := (hbelj.cell (p := am.add k) (by rw [block_of_add]; exact hma)).trans HM0.out
          have g0 := fun o : Obj => (World.cell?_alloc_lt _ o (am.add k) (World.block_lt_of_cell? _ _ f0)).trans f0
          clear d0 d1 d2 hxj ha f0
          have r0 : (0 : Int) ≤ (j : Int) := by omega
          have r1 : (j : Int) < (l.length : Int) := by omega
          rcases rng_ways (x := x) (hi := hi) HLO.out with ⟨ho, p0⟩ | ⟨ho, p0, p1⟩ | ⟨ho, p0, p1, p2⟩ | ⟨ho, p0, p1, p2, p3⟩ | ⟨ho, p0, p1, p2, p3, p4⟩ | ⟨ho, p0, p1, p2, p3, p4⟩
          · have HN := Lib.hid (each_no HXj.out HSj.out ho)
            clear ho
            go_wp2_with fail
            go_quiet (fail)
            go_wp2_with fail
            go_ret
            rw [each_no HX.out HS.out (HCO.out.trans HN.out)]
            exact ⟨rfl, below_next hbel1 (below_drewN (hbelj.alloc hbelj.size _) nq)⟩
          · have HN := Lib.hid (each_no HXj.out HSj.out ho)
            clear ho
            go_wp2_with fail
            go_quiet (fail)
            go_wp2_with fail
            go_ret
            rw [each_no HX.out HS.out (HCO.out.trans HN.out)]
            exact ⟨rfl, below_next hbel1 (below_drewN (hbelj.alloc hbelj.size _) nq)⟩
          · have HN := Lib.hid (each_go HXj.out HSj.out ho)
            clear ho
            go_wp2_with fail
            go_quiet (fail)
            go_wp2_with fail
            go_roundw
            case rel => exact ⟨j + 1, by omega, by go_num, HN, below_drewN (hbelj.alloc hbelj.size _) nq⟩
            case measure => simp [intOf]; omega
          · have HN := Lib.hid (each_no HXj.out HSj.out ho)
            clear ho
            go_wp2_with fail
            go_quiet (fail)
            go_wp2_with fail
            go_ret
            rw [each_no HX.out HS.out (HCO.out.trans HN.out)]
            exact ⟨rfl, below_next hbel1 (below_drewN (hbelj.alloc hbelj.size _) nq)⟩
          · have HN := Lib.hid (each_no HXj.out HSj.out ho)
            clear ho
            go_wp2_with fail
            go_quiet (fail)
            go_wp2_with fail
            go_ret
            rw [each_no HX.out HS.out (HCO.out.trans HN.out)]
            exact ⟨rfl, below_next hbel1 (below_drewN (hbelj.alloc hbelj.size _) nq)⟩
          · have HN := Lib.hid (each_go HXj.out HSj.out ho)
            clear ho
            go_wp2_with fail
            go_quiet (fail)
            go_wp2_with fail
            go_roundw
            case rel => exact ⟨j + 1, by omega, by go_num, HN, below_drewN (hbelj.alloc hbelj.size _) nq⟩
            case measure => simp [intOf]; omega
        · have HN := Lib.hid (each_go HX.out HS.out (HCO.out.trans (each_end (by omega) HSj.out)))
          go_wp2_with fail
          go_roundw
          case rel => exact ⟨k + 1, by omega, by go_num, HN, hbelj⟩
          case measure => simp [intOf]; omega
    · have HN := Lib.hid (each_end (by show 7 ≤ k; omega) HS.out)
      go_wp2_with fail
      go_ret
      rw [HN.out]
      exact ⟨rfl, below_next hbel1 hbel⟩
end Go.Proofs.YtneinkpfhkojgaaGreatDoor
/-
  The walk through the reference's Scalar.
-/
namespace Go.Proofs.YtneinkpfhkojgaaGreatDoor
open Go.RowKit ND

set_option maxHeartbeats 400000 in
theorem refScalar_any (c : Int) (w : World) : Calls Tryz.prog 61 #[.int .i64 c] w fun e w' => e = .returned (.bool (scalarB c)) ∧ w = w' := by
  go_enter Tryz.func61, Tryz.ntmps61
  go_wp2
  all_goals go_ret
  all_goals refine ⟨ret_bool (bool_eq ?_), rfl⟩
  all_goals rw [scalarB_iff]
  all_goals simp
  all_goals omega
end Go.Proofs.YtneinkpfhkojgaaGreatDoor
/-
  The walks through table.scripts, table.targets and the reference's sized: rule 4.
-/
namespace Go.Proofs.YtneinkpfhkojgaaGreatDoor
open Go.RowKit ND

/-- What is asked of a script number behind another one. -/
def scrOk (last s : Int) : Bool := decide (3 ≤ s ∧ s ≤ 60 ∧ last < s)
theorem scr_go {last c : Int} {xs : List Int} {k : Nat} {R : Bool} (hx : xs[k]? = some c) (h : scrG last (xs.drop k) = R) (h1 : scrOk last c = true) : scrG c (xs.drop (k + 1)) = R := by
  rw [drop_of_get hx, scrG] at h; unfold scrOk at h1; rw [h1, Bool.true_and] at h; exact h
theorem scr_no {last c : Int} {xs : List Int} {k : Nat} {R : Bool} (hx : xs[k]? = some c) (h : scrG last (xs.drop k) = R) (h1 : scrOk last c = false) : R = false := by
  rw [drop_of_get hx, scrG] at h; unfold scrOk at h1; rw [h1, Bool.false_and] at h; exact h.symm
theorem scr_end {last : Int} {xs : List Int} {k : Nat} {R : Bool} (hk : xs.length ≤ k) (h : scrG last (xs.drop k) = R) : R = true := by
  rw [List.drop_eq_nil_of_le hk] at h; exact h.symm
/-- The ways through the test of a script number; j: its index. -/
theorem scr_ways (last s : Int) (j : Nat) (h : j = 0 → last = 2) : (scrOk last s = false ∧ decide (s < 3) = true) ∨ (scrOk last s = false ∧ decide (s < 3) = false ∧ decide (60 < s) = true) ∨
    (scrOk last s = true ∧ decide (s < 3) = false ∧ decide (60 < s) = false ∧ j = 0) ∨ (scrOk last s = false ∧ decide (s < 3) = false ∧ decide (60 < s) = false ∧ 0 < j ∧ decide (s ≤ last) = true) ∨
    (scrOk last s = true ∧ decide (s < 3) = false ∧ decide (60 < s) = false ∧ 0 < j ∧ decide (s ≤ last) = false) := by
  unfold scrOk
  simp only [decide_eq_true_eq, decide_eq_false_iff_not]
  rcases Nat.eq_zero_or_pos j with hj | hj
  · have := h hj; omega
  · omega

set_option maxRecDepth 100000 in
set_option maxHeartbeats 1000000 in
theorem scripts_check (v : Value) (xs : List Int) (w : World) (hv : Ints w w.heap.size .i64 v xs) :
    Calls Tryz.prog 90 #[v] w fun e w' => e = .returned (.bool (scrG 2 xs)) ∧ w = w' := by
  obtain ⟨A, c, rfl, hc1, hc2, _, hcell⟩ := hv
  have HC := Lib.hid hcell
  have hlm : xs.length ≤ 9223372036854775807 := by unfold maxLen at hc2; omega
  clear hcell hc1 hc2
  obtain ⟨R, hR⟩ : ∃ R, R = scrG 2 xs := ⟨_, rfl⟩
  rw [← hR]
  have HR : Hid (scrG 2 (xs.drop 0) = R) := Lib.hid hR.symm
  clear hR
  go_enter Tryz.func90, Tryz.ntmps90
  go_wp2_with fail
  go_loop [7] (fun i => ∃ (j : Nat) (last : Int), j ≤ xs.length ∧ i = .int .i64 j ∧ Hid ((j = 0 → last = 2) ∧ (∀ i, j = i + 1 → xs[i]? = some last)) ∧ Hid (scrG last (xs.drop j) = R)) (fun i => xs.length - (intOf i).toNat)
  case atStart => exact ⟨0, 2, by omega, rfl, Lib.hid ⟨fun _ => rfl, fun i h => by omega⟩, HR⟩
  case round =>
    obtain ⟨j, last, hj, rfl, HL, HS⟩ := hrel
    clear HR
    by_cases hjl : j < xs.length
    · obtain ⟨s, hxj, _⟩ := get_el hjl
      obtain ⟨aj, rfl, ha, d0⟩ := HC.out j _ hxj
      have HX := Lib.hid hxj
      have HL2 : Hid ((j + 1 = 0 → s = 2) ∧ (∀ i, j + 1 = i + 1 → xs[i]? = some s)) := Lib.hid ⟨fun h => by omega, fun i h => by rw [show i = j by omega]; exact hxj⟩
      have r0 : (0 : Int) ≤ (j : Int) := by omega
      have r1 : (j : Int) < (xs.length : Int) := by omega
      clear hxj ha
      rcases scr_ways last s j HL.out.1 with ⟨ho, p0⟩ | ⟨ho, p0, p1⟩ | ⟨ho, p0, p1, p2⟩ | ⟨ho, p0, p1, p2, p3⟩ | ⟨ho, p0, p1, p2, p3⟩
      · have HN := Lib.hid (scr_no HX.out HS.out ho)
        clear ho HL
        go_wp2_with fail
        go_ret
        rw [HN.out]
        exact ⟨rfl, rfl⟩
      · have HN := Lib.hid (scr_no HX.out HS.out ho)
        clear ho HL
        go_wp2_with fail
        go_ret
        rw [HN.out]
        exact ⟨rfl, rfl⟩
      · have HN := Lib.hid (scr_go HX.out HS.out ho)
        have g0 : decide (0 < j) = false := by rw [decide_eq_false_iff_not]; omega
        clear ho HL p2
        go_wp2_with fail
        go_round
        case rel => exact ⟨j + 1, s, by omega, by go_num, HL2, HN⟩
        case measure => simp [intOf]; omega
      · have HN := Lib.hid (scr_no HX.out HS.out ho)
        obtain ⟨j', hj'⟩ : ∃ j', j = j' + 1 := ⟨j - 1, by omega⟩
        have hxp := HL.out.2 j' hj'
        obtain ⟨ap, hap, _, e0⟩ := HC.out j' _ hxp
        cases hap
        have hw : IntKind.i64.wrap ((j : Int) - 1) = j' := by rw [IntWalk.i64_in _ (by omega)]; omega
        have hw2 : (j : Int) - 1 = j' := by omega
        have s0 : (0 : Int) ≤ (j' : Int) := by omega
        have s1 : (j' : Int) < (xs.length : Int) := by omega
        have HJ := Lib.hid hj'
        clear ho HL hxp hj'
        go_wp2_with fail
        go_ret
        rw [HN.out]
        exact ⟨rfl, rfl⟩
      · have HN := Lib.hid (scr_go HX.out HS.out ho)
        obtain ⟨j', hj'⟩ : ∃ j', j = j' + 1 := ⟨j - 1, by omega⟩
        have hxp := HL.out.2 j' hj'
        obtain ⟨ap, hap, _, e0⟩ := HC.out j' _ hxp
        cases hap
        have hw : IntKind.i64.wrap ((j : Int) - 1) = j' := by rw [IntWalk.i64_in _ (by omega)]; omega
        have hw2 : (j : Int) - 1 = j' := by omega
        have s0 : (0 : Int) ≤ (j' : Int) := by omega
        have s1 : (j' : Int) < (xs.length : Int) := by omega
        have HJ := Lib.hid hj'
        clear ho HL hxp hj'
        go_wp2_with fail
        go_round
        case rel => exact ⟨j + 1, s, by omega, by go_num, HL2, HN⟩
        case measure => simp [intOf]; omega
    · have HN := Lib.hid (scr_end (by omega) HS.out)
      go_wp2_with fail
      go_ret
      rw [HN.out]
      exact ⟨rfl, rfl⟩

/-- Rule 4, list by list. -/
def mpTo (p : List Mp × Nat) : Bool := p.1.all (toB (p.2 == 0))
theorem rule4_zip (T : Tab) : T.rule4 = T.mps.zipIdx.all mpTo := by
  unfold Tab.rule4 Tab.mps
  simp only [List.zipIdx_cons, List.zipIdx_nil, List.all_cons, List.all_nil, Bool.and_true]
  rfl
theorem zip_at' {T : Tab} {k : Nat} {p : List Mp × Nat} (h : T.mps.zipIdx[k]? = some p) : p.2 = k ∧ T.mps[k]? = some p.1 := by
  rw [List.getElem?_zipIdx] at h
  cases hm : T.mps[k]? with
  | none => rw [hm] at h; cases h
  | some m => rw [hm] at h; cases h; exact ⟨by simp, rfl⟩
theorem to_ways (k : Nat) (c : Int) (tg : List Int) : (toB (k == 0) (c, tg) = false ∧ decide ((tg.length : Int) < 1) = true) ∨ (toB (k == 0) (c, tg) = false ∧ decide ((tg.length : Int) < 1) = false ∧ decide (18 < (tg.length : Int)) = true) ∨
    (toB (k == 0) (c, tg) = scrG 2 tg ∧ decide ((tg.length : Int) < 1) = false ∧ decide (18 < (tg.length : Int)) = false ∧ ((k : Int) == 0) = true) ∨
    (toB (k == 0) (c, tg) = tg.all scalarB ∧ decide ((tg.length : Int) < 1) = false ∧ decide (18 < (tg.length : Int)) = false ∧ ((k : Int) == 0) = false) := by
  unfold toB
  simp only
  by_cases h1 : tg.length < 1
  · exact .inl ⟨by rw [decide_eq_false (by omega)]; rfl, decide_eq_true (by omega)⟩
  · by_cases h2 : 18 < tg.length
    · exact .inr (.inl ⟨by rw [decide_eq_false (by omega)]; rfl, decide_eq_false (by omega), decide_eq_true (by omega)⟩)
    · rw [decide_eq_true (show 1 ≤ tg.length ∧ tg.length ≤ 18 by omega), Bool.true_and]
      by_cases hk : k = 0
      · subst hk
        exact .inr (.inr (.inl ⟨rfl, decide_eq_false (by omega), decide_eq_false (by omega), rfl⟩))
      · have e2 : (k == 0) = false := by rw [beq_eq_false_iff_ne]; exact hk
        have e : ((k : Int) == 0) = false := by rw [beq_eq_false_iff_ne]; omega
        rw [e, e2]
        exact .inr (.inr (.inr ⟨rfl, decide_eq_false (by omega), decide_eq_false (by omega), rfl⟩))
theorem len_ways (c : Int) : (scalarB c = true ∧ ((lenC c : Int) == 0) = false) ∨ (scalarB c = false ∧ ((lenC c : Int) == 0) = true) := by
  cases h : scalarB c
  · exact .inr ⟨rfl, by rw [beq_iff_eq]; have := lenC_zero.2 h; omega⟩
  · exact .inl ⟨rfl, by rw [beq_eq_false_iff_ne]; intro e; have := lenC_zero.1 (show lenC c = 0 by omega); rw [h] at this; cases this⟩

set_option maxRecDepth 100000 in
set_option maxHeartbeats 4000000 in
theorem targets_any (t : Tv) (T : Tab) (w : World) (ht : TabR w w.heap.size t T) :
    Calls Tryz.prog 65 #[t.val] w fun e w' => e = .returned (.bool T.rule4) ∧ Below w.heap.size w w' := by
  obtain ⟨A0, A1, A2, A3, A4, A5, A6, A7, A8, A9, A10, A11, k0, k1, k2, k3, k4, k5, k6, k7, k8, k9, k10, k11, rfl⟩ := ht.shape
  have HR := Lib.hid (fun o : Obj => ht.later ((Below.refl _ _).alloc (Nat.le_refl _) o))
  clear ht
  obtain ⟨R, hR⟩ : ∃ R, R = T.rule4 := ⟨_, rfl⟩
  rw [← hR]
  have HR2 : Hid ((T.mps.zipIdx.drop 0).all mpTo = R) := Lib.hid (by rw [hR, rule4_zip]; rfl)
  clear hR
  go_enter Tryz.func65, Tryz.ntmps65
  go_wp2_with fail
  refine (mappings_any _ T _ (HR.out _)).mono ?_
  rintro e w2 ⟨am, rfl, hm, b2⟩
  have HM := Lib.hid hm.2
  have hma := hm.1
  have hbel2 := below_next ((Below.refl _ _).alloc (Nat.le_refl _) _) b2
  clear hm b2 HR
  go_wp2_with fail
  go_loopw [12] (fun i wr => ∃ (k : Nat), k ≤ 4 ∧ i = .int .i64 k ∧ Hid ((T.mps.zipIdx.drop k).all mpTo = R) ∧ Below w2.heap.size w2 wr) (fun i _ => 4 - (intOf i).toNat)
  case atStart => exact ⟨0, by omega, rfl, HR2, Below.refl _ _⟩
  case round =>
    obtain ⟨k, hk, rfl, HS, hbel⟩ := hrel
    clear HR2
    by_cases hlt : k < 4
    · obtain ⟨⟨l, k'⟩, hxk, _⟩ := get_el (xs := T.mps.zipIdx) (k := k) hlt
      obtain ⟨hk', hxm⟩ := zip_at' hxk
      simp only at hk' hxm
      subst hk'
      obtain ⟨v, d0, hv⟩ := HM.out k' _ hxm
      obtain ⟨A, c, rfl, hc1, hc2, _, hcell⟩ := id hv
      have HCE := Lib.hid hcell
      have hlm : l.length ≤ 9223372036854775807 := by unfold maxLen at hc2; omega
      have e0 := (hbel.cell (p := am.add k') (by rw [block_of_add]; exact hma)).trans d0
      have HX := Lib.hid hxk
      obtain ⟨Ro, hRo⟩ : ∃ Ro, Ro = l.all (toB (k' == 0)) := ⟨_, rfl⟩
      have HO : Hid ((l.drop 0).all (toB (k' == 0)) = Ro) := Lib.hid hRo.symm
      have HCO : Hid (mpTo (l, k') = Ro) := Lib.hid hRo.symm
      clear d0 hxk hxm hcell hv hc1 hc2 hRo
      have q0 : (0 : Int) ≤ (k' : Int) := by omega
      have q1 : (k' : Int) < (4 : Int) := by omega
      go_wp2_with fail
      clear e0
      go_loopw [19] (fun i wr => ∃ (j : Nat), j ≤ l.length ∧ i = .int .i64 j ∧ Hid ((l.drop j).all (toB (k' == 0)) = Ro) ∧ Below w2.heap.size w2 wr) (fun i _ => l.length - (intOf i).toNat)
      case atStart => exact ⟨0, by omega, rfl, HO, hbel⟩
      case round =>
        obtain ⟨j, hj, rfl, HSj, hbelj⟩ := hrel
        clear HO hbel
        by_cases hjl : j < l.length
        · obtain ⟨⟨cc, tg⟩, hxj, _⟩ := get_el hjl
          obtain ⟨aj, sv, rfl, ha, d0, d1, hto⟩ := HCE.out j _ hxj
          simp only at d0 d1 hto
          obtain ⟨A', c', rfl, hd1, hd2, _, hcell⟩ := id hto
          have HTO := Lib.hid (fun o => (hto.below hbelj |>.more hbelj.size).later ((Below.refl _ _).alloc (Nat.le_refl _) o))
          have HTC := Lib.hid hcell
          obtain ⟨e0, e1⟩ := map_cells hbelj ha d0 d1
          have HXj := Lib.hid hxj
          have hlt2 : tg.length ≤ 9223372036854775807 := by unfold maxLen at hd2; omega
          clear d0 d1 hxj ha hto hcell hd1 hd2
          have r0 : (0 : Int) ≤ (j : Int) := by omega
          have r1 : (j : Int) < (l.length : Int) := by omega
          rcases to_ways k' cc tg with ⟨ho, p0⟩ | ⟨ho, p0, p1⟩ | ⟨ho, p0, p1, p2⟩ | ⟨ho, p0, p1, p2⟩
          · have HN := Lib.hid (each_no HXj.out HSj.out ho)
            clear ho HTO
            go_wp2_with fail
            go_ret
            rw [each_no HX.out HS.out (HCO.out.trans HN.out)]
            exact ⟨rfl, below_next hbel2 (hbelj.alloc hbelj.size _)⟩
          · have HN := Lib.hid (each_no HXj.out HSj.out ho)
            clear ho HTO
            go_wp2_with fail
            go_ret
            rw [each_no HX.out HS.out (HCO.out.trans HN.out)]
            exact ⟨rfl, below_next hbel2 (hbelj.alloc hbelj.size _)⟩
          · have HSC := Lib.hid (fun W h => scripts_check (.slice A' tg.length c') tg W h)
            cases hsc : scrG 2 tg
            · rw [hsc] at HSC
              have HN := Lib.hid (each_no HXj.out HSj.out (ho.trans hsc))
              clear ho hsc
              go_wp2_with fail
              refine (HSC.out _ (HTO.out _)).mono ?_
              rintro e w' ⟨rfl, rfl⟩
              go_wp2_with fail
              go_ret
              rw [each_no HX.out HS.out (HCO.out.trans HN.out)]
              exact ⟨rfl, below_next hbel2 (hbelj.alloc hbelj.size _)⟩
            · rw [hsc] at HSC
              have HN := Lib.hid (each_go HXj.out HSj.out (ho.trans hsc))
              clear ho hsc
              go_wp2_with fail
              refine (HSC.out _ (HTO.out _)).mono ?_
              rintro e w' ⟨rfl, rfl⟩
              go_wp2_with fail
              go_roundw
              case rel => exact ⟨j + 1, by omega, by go_num, HN, hbelj.alloc hbelj.size _⟩
              case measure => simp [intOf]; omega
          · obtain ⟨Rs, hRs⟩ : ∃ Rs, Rs = tg.all scalarB := ⟨_, rfl⟩
            have HO : Hid ((tg.drop 0).all scalarB = Rs) := Lib.hid hRs.symm
            have HTS : Hid (toB (k' == 0) (cc, tg) = Rs) := Lib.hid (ho.trans hRs.symm)
            have hbelw := hbelj.alloc hbelj.size (.cells #[.int .i64 cc, .slice A' tg.length c'] 49)
            clear ho hRs HTO
            go_wp2_with fail
            generalize World.alloc _ (.cells #[.int .i64 cc, .slice A' tg.length c'] 49) = wo at *
            clear e0 e1 hbelj
            go_loop [42] (fun i => ∃ (m : Nat), m ≤ tg.length ∧ i = .int .i64 m ∧ Hid ((tg.drop m).all scalarB = Rs)) (fun i => tg.length - (intOf i).toNat)
            case atStart => exact ⟨0, by omega, rfl, HO⟩
            case round =>
              obtain ⟨m, hm, rfl, HSm⟩ := hrel
              clear HO
              by_cases hml : m < tg.length
              · obtain ⟨x, hxm, _⟩ := get_el hml
                obtain ⟨ax, rfl, hax, d0⟩ := HTC.out m _ hxm
                have e0 := (hbelw.cell (p := ax.add m) (by rw [block_of_add]; exact hax)).trans d0
                have HXm := Lib.hid hxm
                have s0 : (0 : Int) ≤ (m : Int) := by omega
                have s1 : (m : Int) < (tg.length : Int) := by omega
                have HLE := Lib.hid (fun W => length_any x W)
                clear d0 hxm hax
                rcases len_ways x with ⟨hx, pz⟩ | ⟨hx, pz⟩
                · have HN := Lib.hid (each_go HXm.out HSm.out hx)
                  clear hx
                  go_wp2_with fail
                  refine (HLE.out _).mono ?_
                  rintro e w' ⟨rfl, rfl⟩
                  go_wp2_with fail
                  go_round
                  case rel => exact ⟨m + 1, by omega, by go_num, HN⟩
                  case measure => simp [intOf]; omega
                · have HN := Lib.hid (each_no HXm.out HSm.out hx)
                  clear hx
                  go_wp2_with fail
                  refine (HLE.out _).mono ?_
                  rintro e w' ⟨rfl, rfl⟩
                  go_wp2_with fail
                  go_ret
                  rw [each_no HX.out HS.out (HCO.out.trans (each_no HXj.out HSj.out (HTS.out.trans HN.out)))]
                  exact ⟨rfl, below_next hbel2 hbelw⟩
              · have HN := Lib.hid (each_go HXj.out HSj.out (HTS.out.trans (each_end (by omega) HSm.out)))
                go_wp2_with fail
                go_roundw
                case rel => exact ⟨j + 1, by omega, by go_num, HN, hbelw⟩
                case measure => simp [intOf]; omega
        · have HN := Lib.hid (each_go HX.out HS.out (HCO.out.trans (each_end (by omega) HSj.out)))
          go_wp2_with fail
          go_roundw
          case rel => exact ⟨k' + 1, by omega, by go_num, HN, hbelj⟩
          case measure => simp [intOf]; omega
    · have HN := Lib.hid (each_end (by show 4 ≤ k; omega) HS.out)
      go_wp2_with fail
      go_ret
      rw [HN.out]
      exact ⟨rfl, below_next hbel2 hbel⟩
end Go.Proofs.YtneinkpfhkojgaaGreatDoor
/-
  The walks through table.plain, table.prototyped and table.Check.
-/
namespace Go.Proofs.YtneinkpfhkojgaaGreatDoor
open Go.RowKit ND

set_option maxRecDepth 100000 in
set_option maxHeartbeats 1000000 in
theorem plain_any (t : Tv) (T : Tab) (hsh : Shape T) (hne : ∀ m ∈ T.decomps, m.2 ≠ [] ∧ m.2.length ≤ 1000) (c : Int) (w : World) (ht : TabR w w.heap.size t T) :
    Calls Tryz.prog 93 #[t.val, .int .i64 c] w fun e w' => e = .returned (.bool (T.plainB c)) ∧ Below w.heap.size w w' := by
  have HT := Lib.hid (fun W (h : Below w.heap.size w W) => ht.later h)
  have HI := Lib.hid (fun W h => ignorable_any t T c 0 1114111 W h hsh.c6.1 hsh.c6.2.1)
  obtain ⟨tc, htc⟩ : ∃ tc, tc = t.cells := ⟨_, rfl⟩
  obtain ⟨A0, A1, A2, A3, A4, A5, A6, A7, A8, A9, A10, A11, k0, k1, k2, k3, k4, k5, k6, k7, k8, k9, k10, k11, rfl⟩ := ht.shape
  have HF := Lib.hid (fun W (h : Mapps W W.heap.size (.slice A9 T.decomps.length k9) T.decomps) => find_any _ T.decomps c W h (keysB_sort hsh.kd) (fun m hm => (hne m hm).1) hsh.ld)
  have HTC := Lib.hid htc
  have heq := fun (w : World) (a : Option Addr) (n c : Nat) => Lib.run_eql_slice_nil (P := Tryz.prog) w 22 3 a n c 0 0 Tryz.underlying22
  have HB0 := Lib.hid (show Blk (w.alloc (.cells tc 26)) w.heap.size 26 tc from Blk.new _ _ _)
  rw [htc] at HB0
  clear ht htc hne hsh
  obtain ⟨R, hR⟩ : ∃ R, R = T.plainB c := ⟨_, rfl⟩
  rw [← hR]
  have HR : Hid (R = (decide (findL T.decomps c = []) && !T.ignB c)) := Lib.hid hR
  clear hR
  go_enter Tryz.func93, Tryz.ntmps93
  go_wp2_with fail
  refine (HF.out _ (HT.out _ ((Below.refl _ _).alloc (Nat.le_refl _) _)).r9).mono ?_
  rintro e w1 ⟨u, rfl, hu, hun, b1⟩
  have HB1 := Lib.hid (HB0.out.later b1)
  have hbel1 := below_next ((Below.refl w.heap.size w).alloc (Nat.le_refl _) _) b1
  rcases nilB_ways hu hun with ⟨hn, rfl⟩ | ⟨hn, ad, cu, rfl⟩
  · have HR2 : Hid (R = !T.ignB c) := Lib.hid (by rw [HR.out, decide_eq_true hn, Bool.true_and])
    obtain ⟨x0, x1, x2, x3, x4, x5, x6, x7, x8, x9, x10, x11⟩ := HB1.out.tab
    have HIW := Lib.hid (HI.out w1 (HT.out _ hbel1))
    clear hu hun hn HB0 HR b1
    go_wp2_with fail
    refine HIW.out.mono ?_
    rintro e w2 ⟨rfl, b2⟩
    clear x0 x1 x2 x3 x4 x5 x6 x7 x8 x9 x10 x11
    go_wp2_with fail
    go_ret
    rw [HR2.out]
    exact ⟨rfl, below_next hbel1 b2⟩
  · have HR2 : Hid (R = false) := Lib.hid (by rw [HR.out, decide_eq_false hn, Bool.false_and])
    clear hu hun hn HB0 HR b1
    go_wp2_with fail
    go_ret
    rw [HR2.out]
    exact ⟨rfl, hbel1⟩

theorem pel_ways (T : Tab) (c : Int) : (T.protoEl c = false ∧ T.plainB c = false) ∨ (T.protoEl c = false ∧ T.plainB c = true ∧ sylB c = true) ∨ (T.plainB c = true ∧ sylB c = false ∧ T.protoEl c = decide (findL T.prototypes c = [])) := by
  unfold Tab.protoEl
  cases T.plainB c <;> cases sylB c <;> simp

set_option maxRecDepth 100000 in
set_option maxHeartbeats 4000000 in
theorem prototyped_any (t : Tv) (T : Tab) (hsh : Shape T) (hsz : Sized T) (w : World) (ht : TabR w w.heap.size t T) :
    Calls Tryz.prog 70 #[t.val] w fun e w' => e = .returned (.bool T.rule9) ∧ Below w.heap.size w w' := by
  obtain ⟨tc, htc⟩ : ∃ tc, tc = t.cells := ⟨_, rfl⟩
  have HPL := Lib.hid (fun c W h => plain_any t T hsh hsz.nd c W h)
  have HT := Lib.hid (fun W (h : Below w.heap.size w W) => ht.later h)
  have hmp := ht.r11
  obtain ⟨A0, A1, A2, A3, A4, A5, A6, A7, A8, A9, A10, A11, k0, k1, k2, k3, k4, k5, k6, k7, k8, k9, k10, k11, rfl⟩ := ht.shape
  have HTC := Lib.hid htc
  have HFP := Lib.hid (fun c W (h : Mapps W W.heap.size (.slice A11 T.prototypes.length k11) T.prototypes) => find_any _ T.prototypes c W h (keysB_sort hsh.kp) (fun m hm => (hsz.np m hm).1) hsh.lp)
  obtain ⟨B, cq, hB, _, _, _, hcell2⟩ := hmp
  cases hB
  have HM := Lib.hid hcell2
  have hlp := hsh.lp
  have hnq := fun (w : World) (a : Option Addr) (n c : Nat) => run_neq_slice_nil_any (P := Tryz.prog) w 22 3 a n c 0 0 Tryz.underlying22
  clear ht htc hcell2 hsh hsz
  obtain ⟨R, hR⟩ : ∃ R, R = T.rule9 := ⟨_, rfl⟩
  rw [← hR]
  have HR0 : Hid ((T.prototypes.drop 0).all T.protoOk = R) := Lib.hid hR.symm
  clear hR
  go_enter Tryz.func70, Tryz.ntmps70
  go_wp2_with fail
  go_loopw [10] (fun i wr => ∃ (j : Nat), j ≤ T.prototypes.length ∧ i = .int .i64 j ∧ Hid ((T.prototypes.drop j).all T.protoOk = R) ∧ Below w.heap.size w wr ∧ Hid (Blk wr w.heap.size 26 tc)) (fun i _ => T.prototypes.length - (intOf i).toNat)
  case atStart => exact ⟨0, by omega, rfl, HR0, (Below.refl _ _).alloc (Nat.le_refl _) _, Lib.hid (by rw [HTC.out]; exact Blk.new _ _ _)⟩
  case round =>
    obtain ⟨j, hj, rfl, HS, hbel, HB⟩ := hrel
    clear HR0
    by_cases hjl : j < T.prototypes.length
    · obtain ⟨⟨cc, tg⟩, hxj, _⟩ := get_el hjl
      obtain ⟨aj, sv, rfl, ha, d0, d1, hto⟩ := HM.out j _ hxj
      simp only at d0 d1 hto
      obtain ⟨A', c', rfl, he1, he2, _, hcl⟩ := id hto
      have HTO := Lib.hid hcl
      have hlt : tg.length ≤ 9223372036854775807 := by unfold maxLen at he2; omega
      obtain ⟨e0, e1⟩ := map_cells hbel ha d0 d1
      have HX := Lib.hid hxj
      have hbelw := hbel.alloc hbel.size (.cells #[.int .i64 cc, .slice A' tg.length c'] 49)
      have HB' := Lib.hid (HB.out.alloc (.cells #[.int .i64 cc, .slice A' tg.length c'] 49))
      obtain ⟨x0, x1, x2, x3, x4, x5, x6, x7, x8, x9, x10, x11⟩ := (show Blk _ _ _ #[_, _, _, _, _, _, _, _, _, _, _, _] from by have h := HB'.out; rw [HTC.out] at h; exact h).tab
      have HP1 := Lib.hid (HPL.out cc _ (HT.out _ hbelw))
      clear d0 d1 hxj ha hto hcl he1 he2 HB
      have r0 : (0 : Int) ≤ (j : Int) := by omega
      have r1 : (j : Int) < (T.prototypes.length : Int) := by omega
      cases hpl : T.plainB cc
      · have HN := Lib.hid (each_no HX.out HS.out (by unfold Tab.protoOk; simp only; rw [hpl]; rfl))
        rw [hpl] at HP1
        clear hpl
        go_wp2_with fail
        refine HP1.out.mono ?_
        rintro e w2 ⟨rfl, b2⟩
        clear x0 x1 x2 x3 x4 x5 x6 x7 x8 x9 x10 x11 e0 e1
        go_wp2_with fail
        go_ret
        rw [HN.out]
        exact ⟨rfl, below_next hbelw b2⟩
      · obtain ⟨Rt, hRt⟩ : ∃ Rt, Rt = tg.all T.protoEl := ⟨_, rfl⟩
        have HO : Hid ((tg.drop 0).all T.protoEl = Rt) := Lib.hid hRt.symm
        have HOK : Hid (T.protoOk (cc, tg) = Rt) := Lib.hid (by rw [hRt]; unfold Tab.protoOk; simp only; rw [hpl, Bool.true_and])
        rw [hpl] at HP1
        clear hpl hRt
        go_wp2_with fail
        refine HP1.out.mono ?_
        rintro e w2 ⟨rfl, b2⟩
        have hbel2 := below_next hbelw b2
        have HB2 := Lib.hid (HB'.out.later b2)
        have m1 := ((Blk.new wr 49 #[.int .i64 cc, .slice A' tg.length c']).later b2).at_ (i := 1) (u := .slice A' tg.length c') rfl
        clear x0 x1 x2 x3 x4 x5 x6 x7 x8 x9 x10 x11 e0 e1 hbel hbelw HB' b2
        go_wp2_with fail
        clear m1
        go_loopw [22] (fun i wr => ∃ (q : Nat), q ≤ tg.length ∧ i = .int .i64 q ∧ Hid ((tg.drop q).all T.protoEl = Rt) ∧ Below w.heap.size w wr ∧ Hid (Blk wr w.heap.size 26 tc)) (fun i _ => tg.length - (intOf i).toNat)
        case atStart => exact ⟨0, by omega, rfl, HO, hbel2, HB2⟩
        case round =>
          obtain ⟨q, hq, rfl, HSq, hbelq, HBq⟩ := hrel
          clear HO HB2 hbel2
          by_cases hql : q < tg.length
          · obtain ⟨y, hyq, _⟩ := get_el hql
            obtain ⟨ay, rfl, hay, d0⟩ := HTO.out q _ hyq
            have e0 := (hbelq.cell (p := ay.add q) (by rw [block_of_add]; exact hay)).trans d0
            have HXq := Lib.hid hyq
            obtain ⟨x0, x1, x2, x3, x4, x5, x6, x7, x8, x9, x10, x11⟩ := (show Blk _ _ _ #[_, _, _, _, _, _, _, _, _, _, _, _] from by have h := HBq.out; rw [HTC.out] at h; exact h).tab
            have HP2 := Lib.hid (HPL.out y _ (HT.out _ hbelq))
            have HSY := Lib.hid (fun W => syl_any y W)
            clear d0 hyq hay
            have s0 : (0 : Int) ≤ (q : Int) := by omega
            have s1 : (q : Int) < (tg.length : Int) := by omega
            rcases pel_ways T y with ⟨ho, u0⟩ | ⟨ho, u0, u1⟩ | ⟨u0, u1, ho⟩
            · have HN := Lib.hid (each_no HXq.out HSq.out ho)
              rw [u0] at HP2
              clear ho u0
              go_wp2_with fail
              refine HP2.out.mono ?_
              rintro e w3 ⟨rfl, b3⟩
              clear x0 x1 x2 x3 x4 x5 x6 x7 x8 x9 x10 x11 e0
              go_wp2_with fail
              go_ret
              rw [each_no HX.out HS.out (HOK.out.trans HN.out)]
              exact ⟨rfl, below_next hbelq b3⟩
            · have HN := Lib.hid (each_no HXq.out HSq.out ho)
              rw [u0] at HP2
              rw [u1] at HSY
              clear ho u0 u1
              go_wp2_with fail
              refine HP2.out.mono ?_
              rintro e w3 ⟨rfl, b3⟩
              clear x0 x1 x2 x3 x4 x5 x6 x7 x8 x9 x10 x11 e0
              go_wp2_with fail
              refine (HSY.out _).mono ?_
              rintro e w4 ⟨rfl, rfl⟩
              go_wp2_with fail
              go_ret
              rw [each_no HX.out HS.out (HOK.out.trans HN.out)]
              exact ⟨rfl, below_next hbelq b3⟩
            · have HOE := Lib.hid ho
              rw [u0] at HP2
              rw [u1] at HSY
              clear ho u0 u1
              go_wp2_with fail
              refine HP2.out.mono ?_
              rintro e w3 ⟨rfl, b3⟩
              have hbel3 := below_next hbelq b3
              have HB3 := Lib.hid (HBq.out.later b3)
              have y11 := (show Blk _ _ _ #[_, _, _, _, _, _, _, _, _, _, _, _] from by have h := HB3.out; rw [HTC.out] at h; exact h).at_ (i := 11) rfl
              have HFQ := Lib.hid (HFP.out y _ (HT.out _ hbel3).r11)
              clear x0 x1 x2 x3 x4 x5 x6 x7 x8 x9 x10 x11 e0 b3 HBq
              go_wp2_with fail
              refine (HSY.out _).mono ?_
              rintro e w4 ⟨rfl, rfl⟩
              go_wp2_with fail
              refine HFQ.out.mono ?_
              rintro e w4 ⟨u, rfl, hu, hun, b4⟩
              rcases nilB_ways hu hun with ⟨hn, rfl⟩ | ⟨hn, adu, cu, rfl⟩
              · have HN := Lib.hid (each_go HXq.out HSq.out (HOE.out.trans (decide_eq_true hn)))
                have HB4 := Lib.hid (HB3.out.later b4)
                clear hu hun hn y11 HB3
                go_wp2_with fail
                go_roundw
                case rel => exact ⟨q + 1, by omega, by go_num, HN, below_next hbel3 b4, HB4⟩
                case measure => simp [intOf]; omega
              · have HN := Lib.hid (each_no HXq.out HSq.out (HOE.out.trans (decide_eq_false hn)))
                clear hu hun hn y11 HB3
                go_wp2_with fail
                go_ret
                rw [each_no HX.out HS.out (HOK.out.trans HN.out)]
                exact ⟨rfl, below_next hbel3 b4⟩
          · have HN := Lib.hid (each_go HX.out HS.out (HOK.out.trans (each_end (by omega) HSq.out)))
            go_wp2_with fail
            go_roundw
            case rel => exact ⟨j + 1, by omega, by go_num, HN, hbelq, HBq⟩
            case measure => simp [intOf]; omega
    · have HN := Lib.hid (each_end (by omega) HS.out)
      go_wp2_with fail
      go_ret
      rw [HN.out]
      exact ⟨rfl, hbel⟩
end Go.Proofs.YtneinkpfhkojgaaGreatDoor
/-
  The walk through table.Check.
-/
namespace Go.Proofs.YtneinkpfhkojgaaGreatDoor
open Go.RowKit ND

def rulesL (T : Tab) : List Bool := [T.rule1, T.rule2, T.rule3, T.rule4, T.rule5, T.rule6, T.rule7, T.rule8, T.rule9]
theorem check_first {T : Tab} {k : Nat} (h : rulesL T = (List.replicate k true ++ false :: (rulesL T).drop (k + 1))) : T.check = (k : Int) + 1 := by
  have hk : k < 9 := by
    have := congrArg List.length h
    simp [rulesL] at this
    omega
  unfold Tab.check
  have h9 : k = 0 ∨ k = 1 ∨ k = 2 ∨ k = 3 ∨ k = 4 ∨ k = 5 ∨ k = 6 ∨ k = 7 ∨ k = 8 := by omega
  rcases h9 with rfl | rfl | rfl | rfl | rfl | rfl | rfl | rfl | rfl <;> simp [rulesL, List.replicate] at h <;> simp [h]
theorem check_all {T : Tab} (h : rulesL T = List.replicate 9 true) : T.check = 0 := by
  simp [rulesL, List.replicate] at h
  unfold Tab.check
  simp [h]
/-- The first k rules hold. -/
def HoldTo (T : Tab) (k : Nat) : Prop := (rulesL T).take k = List.replicate k true
theorem HoldTo.parts {T : Tab} {k : Nat} (h : HoldTo T k) (hk : k ≤ 9) : (1 ≤ k → T.rule1 = true) ∧ (2 ≤ k → T.rule2 = true) ∧ (3 ≤ k → T.rule3 = true) ∧ (4 ≤ k → T.rule4 = true) ∧ (5 ≤ k → T.rule5 = true) ∧ (6 ≤ k → T.rule6 = true) ∧ (7 ≤ k → T.rule7 = true) ∧ (8 ≤ k → T.rule8 = true) ∧ (9 ≤ k → T.rule9 = true) := by
  have key : ∀ i, i < k → (rulesL T)[i]? = some true := by
    intro i hi
    have h1 : ((rulesL T).take k)[i]? = some true := by rw [h]; simp [hi]
    rw [List.getElem?_take, if_pos hi] at h1
    exact h1
  exact ⟨fun h => Option.some.inj (key 0 (by omega)), fun h => Option.some.inj (key 1 (by omega)), fun h => Option.some.inj (key 2 (by omega)), fun h => Option.some.inj (key 3 (by omega)), fun h => Option.some.inj (key 4 (by omega)), fun h => Option.some.inj (key 5 (by omega)), fun h => Option.some.inj (key 6 (by omega)), fun h => Option.some.inj (key 7 (by omega)), fun h => Option.some.inj (key 8 (by omega))⟩
theorem HoldTo.zero (T : Tab) : HoldTo T 0 := rfl
theorem HoldTo.next {T : Tab} {k : Nat} (h : HoldTo T k) (hr : (rulesL T)[k]? = some true) : HoldTo T (k + 1) := by
  unfold HoldTo at h ⊢
  rw [take_snoc' hr, h, List.replicate_succ']
theorem HoldTo.fail {T : Tab} {k : Nat} (h : HoldTo T k) (hr : (rulesL T)[k]? = some false) : T.check = (k : Int) + 1 := by
  refine check_first ?_
  rw [← h, ← drop_of_get hr, List.take_append_drop]
theorem HoldTo.all {T : Tab} (h : HoldTo T 9) : T.check = 0 := check_all (by rw [← h]; rfl)

set_option maxRecDepth 100000 in
set_option maxHeartbeats 4000000 in
theorem check_table (t : Tv) (T : Tab) (w : World) (ht : TabR w w.heap.size t T) (hg : Glob w) :
    Calls Tryz.prog 50 #[t.val] w fun e w' => e = .returned (.int .i64 T.check) ∧ Below w.heap.size w w' := by
  obtain ⟨tc, htc⟩ : ∃ tc, tc = t.cells := ⟨_, rfl⟩
  have HT := Lib.hid (fun W (h : Below w.heap.size w W) => ht.later h)
  have HG := Lib.hid (fun W (h : Below w.heap.size w W) => hg.later h)
  have H0 := Lib.hid (fun W h => rows_any t T W h)
  have H1 := Lib.hid (fun W h h2 => shape_any t T W h h2)
  have H2 := Lib.hid (fun W h => values_any t T W h)
  have H3 := Lib.hid (fun W h => targets_any t T W h)
  have H4 := Lib.hid (fun (hs : Shape T) W h => mapped_any t T W h hs.c5)
  have H5 := Lib.hid (fun (hs : Shape T) (hz : Sized T) W h => decomposed_any t T W h (keysB_sort hs.kd) hz.nd hs.ld)
  have H6 := Lib.hid (fun (hs : Shape T) (hz : Sized T) W h => excluded_rule t T W h (keysB_sort hs.kd) hz.nd hs.ld hs.lenX)
  have H7 := Lib.hid (fun (hs : Shape T) (hz : Sized T) (he : Ends T) W h => unique_any t T hs hz.nd he W h)
  have H8 := Lib.hid (fun (hs : Shape T) (hz : Sized T) W h => prototyped_any t T hs hz W h)
  obtain ⟨A0, A1, A2, A3, A4, A5, A6, A7, A8, A9, A10, A11, k0, k1, k2, k3, k4, k5, k6, k7, k8, k9, k10, k11, rfl⟩ := ht.shape
  have HTC := Lib.hid htc
  clear ht htc hg
  obtain ⟨R, hR⟩ : ∃ R, R = T.check := ⟨_, rfl⟩
  rw [← hR]
  have HR := Lib.hid hR
  clear hR
  obtain ⟨fc, hfc⟩ : ∃ fc : Array Value, fc = #[.func (.func 62) #[] #[], .func (.func 63) #[] #[], .func (.func 64) #[] #[], .func (.func 65) #[] #[], .func (.func 66) #[] #[], .func (.func 67) #[] #[], .func (.func 68) #[] #[], .func (.func 69) #[] #[], .func (.func 70) #[] #[]] := ⟨_, rfl⟩
  have HFC := Lib.hid hfc
  clear hfc
  go_enter Tryz.func50, Tryz.ntmps50
  go_wp2_with fail
  go_loopw [7] (fun i wr => ∃ (k : Nat), k ≤ 9 ∧ i = .int .i64 k ∧ Hid (HoldTo T k) ∧ Below w.heap.size w wr ∧ Hid (Blk wr w.heap.size 26 tc) ∧ Hid (Blk wr (w.heap.size + 1) 77 fc)) (fun i _ => 9 - (intOf i).toNat)
  case atStart =>
    refine ⟨0, by omega, rfl, Lib.hid (HoldTo.zero T), ((Below.refl _ _).alloc (Nat.le_refl _) _).alloc (by simp) _, Lib.hid (by rw [HTC.out]; exact (Blk.new _ _ _).alloc _), Lib.hid ?_⟩
    have h := Blk.new (w.alloc (.cells tc 26)) 77 fc
    rw [show (w.alloc (.cells tc 26)).heap.size = w.heap.size + 1 by simp, HTC.out, HFC.out] at h
    rw [HFC.out]
    exact h
  case round =>
    obtain ⟨k, hk, rfl, HS, hbel, HB, HF⟩ := hrel
    by_cases hlt : k < 9
    · obtain ⟨x0, x1, x2, x3, x4, x5, x6, x7, x8, x9, x10, x11⟩ := (show Blk _ _ _ #[_, _, _, _, _, _, _, _, _, _, _, _] from by have h := HB.out; rw [HTC.out] at h; exact h).tab
      have hHT := HT.out _ hbel
      have HHT := Lib.hid hHT
      have HHG := Lib.hid (HG.out _ hbel)
      have hpp := HS.out.parts hk
      have HPP := Lib.hid hpp
      have HFB := Lib.hid (show Blk wr (w.heap.size + 1) 77 #[.func (.func 62) #[] #[], .func (.func 63) #[] #[], .func (.func 64) #[] #[], .func (.func 65) #[] #[], .func (.func 66) #[] #[], .func (.func 67) #[] #[], .func (.func 68) #[] #[], .func (.func 69) #[] #[], .func (.func 70) #[] #[]] from by rw [← HFC.out]; exact HF.out)
      clear hHT hpp
      have h9 : k = 0 ∨ k = 1 ∨ k = 2 ∨ k = 3 ∨ k = 4 ∨ k = 5 ∨ k = 6 ∨ k = 7 ∨ k = 8 := by omega
      rcases h9 with rfl | rfl | rfl | rfl | rfl | rfl | rfl | rfl | rfl
      · have HCA := Lib.hid (H0.out _ HHT.out)
        have f0 := HFB.out.at_ (i := 0) rfl
        cases hr : T.rule1
        · rw [hr] at HCA
          have HN := Lib.hid (HR.out.trans (HS.out.fail (by show some T.rule1 = some false; rw [hr])))
          clear hr
          go_wp2_with fail
          refine HCA.out.mono ?_
          rintro e w2 ⟨rfl, b2⟩
          clear x0 x1 x2 x3 x4 x5 x6 x7 x8 x9 x10 x11 f0
          go_wp2_with fail
          go_ret
          rw [HN.out]
          exact ⟨rfl, below_next hbel b2⟩
        · rw [hr] at HCA
          have HN := Lib.hid (HS.out.next (by show some T.rule1 = some true; rw [hr]))
          clear hr
          go_wp2_with fail
          refine HCA.out.mono ?_
          rintro e w2 ⟨rfl, b2⟩
          have HB2 := Lib.hid (HB.out.later b2)
          have HF2 := Lib.hid (HF.out.later b2)
          clear x0 x1 x2 x3 x4 x5 x6 x7 x8 x9 x10 x11 f0
          go_wp2_with fail
          go_roundw
          case rel => exact ⟨1, by omega, by rfl, HN, below_next hbel b2, HB2, HF2⟩
          case measure => simp [intOf]
      · have HCA := Lib.hid (H1.out _ HHT.out HHG.out)
        have f0 := HFB.out.at_ (i := 1) rfl
        cases hr : T.rule2
        · rw [hr] at HCA
          have HN := Lib.hid (HR.out.trans (HS.out.fail (by show some T.rule2 = some false; rw [hr])))
          clear hr
          go_wp2_with fail
          refine HCA.out.mono ?_
          rintro e w2 ⟨rfl, b2⟩
          clear x0 x1 x2 x3 x4 x5 x6 x7 x8 x9 x10 x11 f0
          go_wp2_with fail
          go_ret
          rw [HN.out]
          exact ⟨rfl, below_next hbel b2⟩
        · rw [hr] at HCA
          have HN := Lib.hid (HS.out.next (by show some T.rule2 = some true; rw [hr]))
          clear hr
          go_wp2_with fail
          refine HCA.out.mono ?_
          rintro e w2 ⟨rfl, b2⟩
          have HB2 := Lib.hid (HB.out.later b2)
          have HF2 := Lib.hid (HF.out.later b2)
          clear x0 x1 x2 x3 x4 x5 x6 x7 x8 x9 x10 x11 f0
          go_wp2_with fail
          go_roundw
          case rel => exact ⟨2, by omega, by rfl, HN, below_next hbel b2, HB2, HF2⟩
          case measure => simp [intOf]
      · have HCA := Lib.hid (H2.out _ HHT.out)
        have f0 := HFB.out.at_ (i := 2) rfl
        cases hr : T.rule3
        · rw [hr] at HCA
          have HN := Lib.hid (HR.out.trans (HS.out.fail (by show some T.rule3 = some false; rw [hr])))
          clear hr
          go_wp2_with fail
          refine HCA.out.mono ?_
          rintro e w2 ⟨rfl, b2⟩
          clear x0 x1 x2 x3 x4 x5 x6 x7 x8 x9 x10 x11 f0
          go_wp2_with fail
          go_ret
          rw [HN.out]
          exact ⟨rfl, below_next hbel b2⟩
        · rw [hr] at HCA
          have HN := Lib.hid (HS.out.next (by show some T.rule3 = some true; rw [hr]))
          clear hr
          go_wp2_with fail
          refine HCA.out.mono ?_
          rintro e w2 ⟨rfl, b2⟩
          have HB2 := Lib.hid (HB.out.later b2)
          have HF2 := Lib.hid (HF.out.later b2)
          clear x0 x1 x2 x3 x4 x5 x6 x7 x8 x9 x10 x11 f0
          go_wp2_with fail
          go_roundw
          case rel => exact ⟨3, by omega, by rfl, HN, below_next hbel b2, HB2, HF2⟩
          case measure => simp [intOf]
      · have HCA := Lib.hid (H3.out _ HHT.out)
        have f0 := HFB.out.at_ (i := 3) rfl
        cases hr : T.rule4
        · rw [hr] at HCA
          have HN := Lib.hid (HR.out.trans (HS.out.fail (by show some T.rule4 = some false; rw [hr])))
          clear hr
          go_wp2_with fail
          refine HCA.out.mono ?_
          rintro e w2 ⟨rfl, b2⟩
          clear x0 x1 x2 x3 x4 x5 x6 x7 x8 x9 x10 x11 f0
          go_wp2_with fail
          go_ret
          rw [HN.out]
          exact ⟨rfl, below_next hbel b2⟩
        · rw [hr] at HCA
          have HN := Lib.hid (HS.out.next (by show some T.rule4 = some true; rw [hr]))
          clear hr
          go_wp2_with fail
          refine HCA.out.mono ?_
          rintro e w2 ⟨rfl, b2⟩
          have HB2 := Lib.hid (HB.out.later b2)
          have HF2 := Lib.hid (HF.out.later b2)
          clear x0 x1 x2 x3 x4 x5 x6 x7 x8 x9 x10 x11 f0
          go_wp2_with fail
          go_roundw
          case rel => exact ⟨4, by omega, by rfl, HN, below_next hbel b2, HB2, HF2⟩
          case measure => simp [intOf]
      · have HCA := Lib.hid (H4.out (Shape.of (HPP.out.1 (by omega)) (HPP.out.2.1 (by omega))) _ HHT.out)
        have f0 := HFB.out.at_ (i := 4) rfl
        cases hr : T.rule5
        · rw [hr] at HCA
          have HN := Lib.hid (HR.out.trans (HS.out.fail (by show some T.rule5 = some false; rw [hr])))
          clear hr
          go_wp2_with fail
          refine HCA.out.mono ?_
          rintro e w2 ⟨rfl, b2⟩
          clear x0 x1 x2 x3 x4 x5 x6 x7 x8 x9 x10 x11 f0
          go_wp2_with fail
          go_ret
          rw [HN.out]
          exact ⟨rfl, below_next hbel b2⟩
        · rw [hr] at HCA
          have HN := Lib.hid (HS.out.next (by show some T.rule5 = some true; rw [hr]))
          clear hr
          go_wp2_with fail
          refine HCA.out.mono ?_
          rintro e w2 ⟨rfl, b2⟩
          have HB2 := Lib.hid (HB.out.later b2)
          have HF2 := Lib.hid (HF.out.later b2)
          clear x0 x1 x2 x3 x4 x5 x6 x7 x8 x9 x10 x11 f0
          go_wp2_with fail
          go_roundw
          case rel => exact ⟨5, by omega, by rfl, HN, below_next hbel b2, HB2, HF2⟩
          case measure => simp [intOf]
      · have HCA := Lib.hid (H5.out (Shape.of (HPP.out.1 (by omega)) (HPP.out.2.1 (by omega))) (Sized.of (HPP.out.2.2.2.1 (by omega))) _ HHT.out)
        have f0 := HFB.out.at_ (i := 5) rfl
        cases hr : T.rule6
        · rw [hr] at HCA
          have HN := Lib.hid (HR.out.trans (HS.out.fail (by show some T.rule6 = some false; rw [hr])))
          clear hr
          go_wp2_with fail
          refine HCA.out.mono ?_
          rintro e w2 ⟨rfl, b2⟩
          clear x0 x1 x2 x3 x4 x5 x6 x7 x8 x9 x10 x11 f0
          go_wp2_with fail
          go_ret
          rw [HN.out]
          exact ⟨rfl, below_next hbel b2⟩
        · rw [hr] at HCA
          have HN := Lib.hid (HS.out.next (by show some T.rule6 = some true; rw [hr]))
          clear hr
          go_wp2_with fail
          refine HCA.out.mono ?_
          rintro e w2 ⟨rfl, b2⟩
          have HB2 := Lib.hid (HB.out.later b2)
          have HF2 := Lib.hid (HF.out.later b2)
          clear x0 x1 x2 x3 x4 x5 x6 x7 x8 x9 x10 x11 f0
          go_wp2_with fail
          go_roundw
          case rel => exact ⟨6, by omega, by rfl, HN, below_next hbel b2, HB2, HF2⟩
          case measure => simp [intOf]
      · have HCA := Lib.hid (H6.out (Shape.of (HPP.out.1 (by omega)) (HPP.out.2.1 (by omega))) (Sized.of (HPP.out.2.2.2.1 (by omega))) _ HHT.out)
        have f0 := HFB.out.at_ (i := 6) rfl
        cases hr : T.rule7
        · rw [hr] at HCA
          have HN := Lib.hid (HR.out.trans (HS.out.fail (by show some T.rule7 = some false; rw [hr])))
          clear hr
          go_wp2_with fail
          refine HCA.out.mono ?_
          rintro e w2 ⟨rfl, b2⟩
          clear x0 x1 x2 x3 x4 x5 x6 x7 x8 x9 x10 x11 f0
          go_wp2_with fail
          go_ret
          rw [HN.out]
          exact ⟨rfl, below_next hbel b2⟩
        · rw [hr] at HCA
          have HN := Lib.hid (HS.out.next (by show some T.rule7 = some true; rw [hr]))
          clear hr
          go_wp2_with fail
          refine HCA.out.mono ?_
          rintro e w2 ⟨rfl, b2⟩
          have HB2 := Lib.hid (HB.out.later b2)
          have HF2 := Lib.hid (HF.out.later b2)
          clear x0 x1 x2 x3 x4 x5 x6 x7 x8 x9 x10 x11 f0
          go_wp2_with fail
          go_roundw
          case rel => exact ⟨7, by omega, by rfl, HN, below_next hbel b2, HB2, HF2⟩
          case measure => simp [intOf]
      · have HCA := Lib.hid (H7.out (Shape.of (HPP.out.1 (by omega)) (HPP.out.2.1 (by omega))) (Sized.of (HPP.out.2.2.2.1 (by omega))) (Ends.of (Shape.of (HPP.out.1 (by omega)) (HPP.out.2.1 (by omega))).ld (HPP.out.2.2.2.2.2.1 (by omega))) _ HHT.out)
        have f0 := HFB.out.at_ (i := 7) rfl
        cases hr : T.rule8
        · rw [hr] at HCA
          have HN := Lib.hid (HR.out.trans (HS.out.fail (by show some T.rule8 = some false; rw [hr])))
          clear hr
          go_wp2_with fail
          refine HCA.out.mono ?_
          rintro e w2 ⟨rfl, b2⟩
          clear x0 x1 x2 x3 x4 x5 x6 x7 x8 x9 x10 x11 f0
          go_wp2_with fail
          go_ret
          rw [HN.out]
          exact ⟨rfl, below_next hbel b2⟩
        · rw [hr] at HCA
          have HN := Lib.hid (HS.out.next (by show some T.rule8 = some true; rw [hr]))
          clear hr
          go_wp2_with fail
          refine HCA.out.mono ?_
          rintro e w2 ⟨rfl, b2⟩
          have HB2 := Lib.hid (HB.out.later b2)
          have HF2 := Lib.hid (HF.out.later b2)
          clear x0 x1 x2 x3 x4 x5 x6 x7 x8 x9 x10 x11 f0
          go_wp2_with fail
          go_roundw
          case rel => exact ⟨8, by omega, by rfl, HN, below_next hbel b2, HB2, HF2⟩
          case measure => simp [intOf]
      · have HCA := Lib.hid (H8.out (Shape.of (HPP.out.1 (by omega)) (HPP.out.2.1 (by omega))) (Sized.of (HPP.out.2.2.2.1 (by omega))) _ HHT.out)
        have f0 := HFB.out.at_ (i := 8) rfl
        cases hr : T.rule9
        · rw [hr] at HCA
          have HN := Lib.hid (HR.out.trans (HS.out.fail (by show some T.rule9 = some false; rw [hr])))
          clear hr
          go_wp2_with fail
          refine HCA.out.mono ?_
          rintro e w2 ⟨rfl, b2⟩
          clear x0 x1 x2 x3 x4 x5 x6 x7 x8 x9 x10 x11 f0
          go_wp2_with fail
          go_ret
          rw [HN.out]
          exact ⟨rfl, below_next hbel b2⟩
        · rw [hr] at HCA
          have HN := Lib.hid (HS.out.next (by show some T.rule9 = some true; rw [hr]))
          clear hr
          go_wp2_with fail
          refine HCA.out.mono ?_
          rintro e w2 ⟨rfl, b2⟩
          have HB2 := Lib.hid (HB.out.later b2)
          have HF2 := Lib.hid (HF.out.later b2)
          clear x0 x1 x2 x3 x4 x5 x6 x7 x8 x9 x10 x11 f0
          go_wp2_with fail
          go_roundw
          case rel => exact ⟨9, by omega, by rfl, HN, below_next hbel b2, HB2, HF2⟩
          case measure => simp [intOf]
    · obtain rfl : k = 9 := by omega
      have HN := Lib.hid (HR.out.trans HS.out.all)
      go_wp2_with fail
      go_ret
      rw [HN.out]
      exact ⟨rfl, hbel⟩
end Go.Proofs.YtneinkpfhkojgaaGreatDoor
/-
  The walks through order.check and the reference's acceptable: which error a sequence has.
-/
namespace Go.Proofs.YtneinkpfhkojgaaGreatDoor
open Go.RowKit ND

/-- The error of a sequence. -/
def accE (T : Tab) (l : List Int) : Int := if T.check ≠ 0 then 2 else if 4096 < l.length then 7 else if l.all scalarB = true then 0 else 3
theorem accE_check {T : Tab} {l : List Int} (h : T.check ≠ 0) : accE T l = 2 := by unfold accE; rw [if_pos h]
theorem accE_full {T : Tab} {l : List Int} (h : T.check = 0) (h2 : 4096 < l.length) : accE T l = 7 := by unfold accE; rw [if_neg (by omega), if_pos h2]
theorem accE_ok {T : Tab} {l : List Int} (h : T.check = 0) (h2 : l.length ≤ 4096) (h3 : l.all scalarB = true) : accE T l = 0 := by unfold accE; rw [if_neg (by omega), if_neg (by omega), if_pos h3]
theorem accE_bad {T : Tab} {l : List Int} (h : T.check = 0) (h2 : l.length ≤ 4096) (h3 : l.all scalarB = false) : accE T l = 3 := by unfold accE; rw [if_neg (by omega), if_neg (by omega), if_neg (by rw [h3]; simp)]
theorem accE_zero {T : Tab} {l : List Int} (h : accE T l = 0) : T.check = 0 ∧ l.length ≤ 4096 ∧ l.all scalarB = true := by
  unfold accE at h
  split at h
  · cases h
  · split at h
    · cases h
    · split at h
      · rename_i h1 h2 h3; exact ⟨by omega, by omega, h3⟩
      · cases h

theorem bad_any (c : Int) (w : World) : Calls Tryz.prog 52 #[.int .i64 c] w fun e w' => e = .returned (.bool (!scalarB c)) ∧ w = w' := by
  cases h : scalarB c
  · have hc := Lib.hid (fun w => length_any c w)
    rw [lenC_zero.2 h] at hc
    go_enter Tryz.func52, Tryz.ntmps52
    go_wp2_with (go_at_call 53; refine (hc.out _).mono ?_; rintro e w4 ⟨rfl, rfl⟩)
    go_ret
    exact ⟨rfl, rfl⟩
  · have hc := Lib.hid (fun w => length_any c w)
    have hp : lenC c ≠ 0 := fun e => by rw [lenC_zero.1 e] at h; cases h
    have hb : ((lenC c : Int) == 0) = false := by rw [beq_eq_false_iff_ne]; omega
    clear hp
    go_enter Tryz.func52, Tryz.ntmps52
    go_wp2_with (go_at_call 53; refine (hc.out _).mono ?_; rintro e w4 ⟨rfl, rfl⟩)
    go_ret
    exact ⟨rfl, rfl⟩

/-- The first code point that is no scalar value. -/
def RetIdx (w : World) (xs : List Int) (e : Ending) (w' : World) : Prop := ∃ r : Int, e = .returned (.int .i64 r) ∧ (0 ≤ r ∧ xs.all scalarB = false ∨ r < 0 ∧ xs.all scalarB = true) ∧ Below w.heap.size w w'
theorem all_step {xs : List Int} {k : Nat} {x : Int} (h : (xs.take k).all scalarB = true) (hx : xs[k]? = some x) (hs : scalarB x = true) : (xs.take (k + 1)).all scalarB = true := by
  obtain ⟨a, a'⟩ := List.getElem?_eq_some_iff.1 hx
  rw [List.take_succ_eq_append_getElem a, List.all_append, h, a']
  simp [hs]
theorem all_bad {xs : List Int} {k : Nat} {x : Int} (hx : xs[k]? = some x) (hs : scalarB x = false) : xs.all scalarB = false := by
  cases h : xs.all scalarB with
  | false => rfl
  | true => rw [List.all_eq_true] at h; rw [h x (List.mem_of_getElem? hx)] at hs; cases hs

set_option maxRecDepth 100000 in
set_option maxHeartbeats 1000000 in
theorem index_any (v : Value) (xs : List Int) (w : World) (hv : Ints w w.heap.size .i64 v xs) :
    Calls Tryz.prog 71 #[v, .func (.func 52) #[] #[]] w (RetIdx w xs) := by
  obtain ⟨A, c, rfl, hc1, hc2, _, hcell⟩ := hv
  have HC := Lib.hid hcell; clear hcell
  have hl : xs.length ≤ 9223372036854775807 := by unfold maxLen at hc2; omega
  clear hc2 hc1
  go_enter Tryz.func71, Tryz.ntmps71
  go_wp2_with fail
  go_loopw [8] (fun i wr => ∃ k : Nat, k ≤ xs.length ∧ i = .int .i64 k ∧ Hid ((xs.take k).all scalarB = true) ∧ Below w.heap.size w wr) (fun i _ => xs.length - (intOf i).toNat)
  case atStart => exact ⟨0, by omega, rfl, Lib.hid (by simp), Below.refl _ _⟩
  case round =>
    obtain ⟨k, hk, rfl, HS, hbel⟩ := hrel
    by_cases hlt : k < xs.length
    · obtain ⟨x, hxk, _⟩ := get_of hlt
      obtain ⟨ad, rfl, ha, hce⟩ := HC.out k x hxk
      have e1 := (hbel.cell (p := ad.add k) (by rw [block_of_add]; exact ha)).trans hce
      have HX := Lib.hid hxk
      have k0 : (0 : Int) ≤ (k : Int) := by omega
      have k1 : (k : Int) < (xs.length : Int) := by omega
      have hb := Lib.hid (fun w => bad_any x w)
      clear hce hxk ha
      cases hs : scalarB x
      · have HE := Lib.hid (all_bad HX.out hs)
        rw [hs] at hb
        clear hs
        go_wp2_with (go_at_call 52; refine (hb.out _).mono ?_; rintro e w4 ⟨rfl, rfl⟩)
        go_ret
        exact ⟨k, rfl, .inl ⟨k0, HE.out⟩, hbel⟩
      · have HE := Lib.hid (all_step HS.out HX.out hs)
        rw [hs] at hb
        clear hs
        go_wp2_with (go_at_call 52; refine (hb.out _).mono ?_; rintro e w4 ⟨rfl, rfl⟩)
        go_roundw
        case rel => exact ⟨k + 1, by omega, by go_num, HE, hbel⟩
        case measure => simp [intOf]; omega
    · have HE := Lib.hid (show xs.all scalarB = true by have := HS.out; rwa [List.take_of_length_le (by omega)] at this)
      go_wp2_with fail
      go_ret
      exact ⟨-1, rfl, .inr ⟨by omega, HE.out⟩, hbel⟩

set_option maxRecDepth 100000 in
theorem contains_any (v : Value) (xs : List Int) (w : World) (hv : Ints w w.heap.size .i64 v xs) :
    Calls Tryz.prog 51 #[v, .func (.func 52) #[] #[]] w fun e w' => e = .returned (.bool (!xs.all scalarB)) ∧ Below w.heap.size w w' := by
  obtain ⟨A, c, rfl, _⟩ := id hv
  have HI := Lib.hid (index_any _ xs w hv)
  clear hv
  obtain ⟨R, hR⟩ : ∃ R, R = xs.all scalarB := ⟨_, rfl⟩
  rw [← hR]
  have HR := Lib.hid hR
  clear hR
  go_enter Tryz.func51, Tryz.ntmps51
  go_wp2_with (go_at_call 71; refine HI.out.mono ?_; rintro e w1 ⟨r, rfl, hr, b1⟩)
  go_ret
  refine ⟨?_, b1⟩
  rcases hr with ⟨h1, h2⟩ | ⟨h1, h2⟩
  · rw [HR.out, h2, decide_eq_true h1]; rfl
  · rw [HR.out, h2, decide_eq_false (by omega)]; rfl

set_option maxRecDepth 100000 in
set_option maxHeartbeats 1000000 in
theorem ocheck_any (t : Tv) (T : Tab) (v : Value) (xs : List Int) (w : World) (ht : TabR w w.heap.size t T) (hg : Glob w) (hv : Ints w w.heap.size .i64 v xs) :
    Calls Tryz.prog 40 #[t.val, v] w fun e w' => e = .returned (.int .i64 (accE T xs)) ∧ Below w.heap.size w w' := by
  obtain ⟨A, c, rfl, _⟩ := id hv
  have HB0 : Hid (Below w.heap.size w (w.alloc (.cells t.cells 26))) := Lib.hid ((Below.refl _ _).alloc (Nat.le_refl _) _)
  have HT := Lib.hid (check_table t T _ (ht.later HB0.out) (hg.later HB0.out))
  have HV := Lib.hid (fun W (h : Below (w.alloc (.cells t.cells 26)).heap.size (w.alloc (.cells t.cells 26)) W) => contains_any _ xs W ((hv.later HB0.out).later h))
  clear hv ht hg
  obtain ⟨R, hR⟩ : ∃ R, R = accE T xs := ⟨_, rfl⟩
  rw [← hR]
  have HR := Lib.hid hR
  clear hR
  by_cases h1 : T.check = 0
  · have hc1 : (T.check != 0) = false := by rw [h1]; rfl
    by_cases h2 : xs.length ≤ 4096
    · cases h3 : xs.all scalarB
      · have HE := Lib.hid (accE_bad h1 h2 h3)
        rw [h3] at HV
        have h4 : ¬ (4096 : Int) < (xs.length : Int) := by omega
        clear h1 h3 h2
        go_enter Tryz.func40, Tryz.ntmps40
        go_wp2_with (first | (go_at_call 50; refine HT.out.mono ?_; rintro e w1 ⟨rfl, b1⟩) | (go_at_call 51; refine (HV.out _ b1).mono ?_; rintro e w2 ⟨rfl, b2⟩))
        go_ret
        rw [HR.out, HE.out]
        exact ⟨rfl, below_next (below_next HB0.out b1) b2⟩
      · have HE := Lib.hid (accE_ok h1 h2 h3)
        rw [h3] at HV
        have h4 : ¬ (4096 : Int) < (xs.length : Int) := by omega
        clear h1 h3 h2
        go_enter Tryz.func40, Tryz.ntmps40
        go_wp2_with (first | (go_at_call 50; refine HT.out.mono ?_; rintro e w1 ⟨rfl, b1⟩) | (go_at_call 51; refine (HV.out _ b1).mono ?_; rintro e w2 ⟨rfl, b2⟩))
        go_ret
        rw [HR.out, HE.out]
        exact ⟨rfl, below_next (below_next HB0.out b1) b2⟩
    · have HE := Lib.hid (accE_full (l := xs) h1 (by omega))
      have h4 : (4096 : Int) < (xs.length : Int) := by omega
      clear h1 h2
      go_enter Tryz.func40, Tryz.ntmps40
      go_wp2_with (first | (go_at_call 50; refine HT.out.mono ?_; rintro e w1 ⟨rfl, b1⟩))
      go_ret
      rw [HR.out, HE.out]
      exact ⟨rfl, below_next HB0.out b1⟩
  · have HE := Lib.hid (accE_check (l := xs) h1)
    have hc1 : (T.check != 0) = true := by simpa using h1
    clear h1
    go_enter Tryz.func40, Tryz.ntmps40
    go_wp2_with (first | (go_at_call 50; refine HT.out.mono ?_; rintro e w1 ⟨rfl, b1⟩))
    go_ret
    rw [HR.out, HE.out]
    exact ⟨rfl, below_next HB0.out b1⟩
end Go.Proofs.YtneinkpfhkojgaaGreatDoor
