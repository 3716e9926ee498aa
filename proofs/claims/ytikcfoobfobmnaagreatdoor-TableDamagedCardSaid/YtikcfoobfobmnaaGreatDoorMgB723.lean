/-
  Merged texts: lemmas and walks that the last text of this claim leans on.
-/
import Derived.Test.YtikcfoobfobmnaaGreatDoorMgB77
import Derived.Test.YtikcfoobfobmnaaGreatDoorMgB73
import Derived.Test.YtikcfoobfobmnaaGreatDoorMgB722
import Derived.Test.YtikcfoobfobmnaaGreatDoorMgB71
import Derived.Test.YtikcfoobfobmnaaGreatDoorMgB72
import Derived.BigQuiet
import Derived.Test.YtikcfoobfobmnaaGreatDoorMgB76
/-
  The walks through table.outside and the reference's clean: a span contains no reserved code point.
-/
namespace Go.Proofs.YtikcfoobfobmnaaGreatDoor
open Go.RowKit ND

set_option maxRecDepth 100000 in
set_option maxHeartbeats 400000 in
theorem outside_any (f t x : Int) (w : World) (hg : Glob w) :
    Calls Tryz.prog 91 #[.agg #[.int .i64 f, .int .i64 t, .int .i64 x]] w fun e w' => e = .returned (.bool (outB f t)) ∧ Below w.heap.size w w' := by
  obtain ⟨v, hv, A, c, rfl, _, _, _, hcell⟩ := hg
  have HC := Lib.hid hcell; clear hcell
  have hlen : blocksL.length = 6 := rfl
  rw [hlen] at hv
  clear hlen
  obtain ⟨R, hR⟩ : ∃ R, R = outB f t := ⟨_, rfl⟩
  rw [← hR]
  have HR : Hid (blocksL.all (fun b => apartB f t b.1 b.2.1) = R) := Lib.hid hR.symm
  clear hR
  have h0 : 0 < w.heap.size := World.block_lt_of_cell? _ _ hv
  have hv1 := fun o : Obj => (World.cell?_alloc_lt w o ⟨0, 0, none⟩ h0).trans hv
  have HV := Lib.hid hv
  clear hv
  go_enter Tryz.func91, Tryz.ntmps91
  go_wp2_with fail
  go_loopw [7] (fun i wr => ∃ k : Nat, k ≤ 6 ∧ i = .int .i64 k ∧ Hid ((blocksL.drop k).all (fun b => apartB f t b.1 b.2.1) = R) ∧ Below w.heap.size w wr ∧ Hid (Blk wr w.heap.size 61 #[.int .i64 f, .int .i64 t, .int .i64 x])) (fun i _ => 6 - (intOf i).toNat)
  case atStart => exact ⟨0, by omega, rfl, HR, (Below.refl _ _).alloc (Nat.le_refl _) _, Lib.hid (Blk.new _ _ _)⟩
  case round =>
    obtain ⟨k, hk, rfl, HS, hbel, HB⟩ := hrel
    clear hv1
    by_cases hlt : k < 6
    · obtain ⟨⟨lo, hi, y⟩, hxk, _⟩ := get_el (xs := blocksL) (k := k) hlt
      obtain ⟨ad, rfl, ha, d0, d1, d2⟩ := HC.out k _ hxk
      simp only at d0 d1 d2
      obtain ⟨e0, e1, e2⟩ := span_cells hbel ha d0 d1 d2
      have hb0 := HB.out.lt
      have g0 := fun o : Obj => (World.cell?_alloc_lt wr o ⟨w.heap.size, 0, none⟩ hb0).trans (HB.out.at_ (i := 0) (u := .int .i64 f) rfl)
      have g1 := fun o : Obj => (World.cell?_alloc_lt wr o ⟨w.heap.size, 1, none⟩ hb0).trans (HB.out.at_ (i := 1) (u := .int .i64 t) rfl)
      have HX := Lib.hid hxk
      have HB' := Lib.hid (HB.out.alloc (.cells #[.int .i64 lo, .int .i64 hi, .int .i64 y] 61))
      clear d0 d1 d2 hxk ha HB
      have k0 : (0 : Int) ≤ (k : Int) := by omega
      have k1 : (k : Int) < (6 : Int) := by omega
      rcases apart_ways f t lo hi with ⟨ho, q0⟩ | ⟨ho, q0, q1⟩ | ⟨ho, q0, q1⟩
      · have HN := Lib.hid (show (blocksL.drop (k + 1)).all (fun b => apartB f t b.1 b.2.1) = R by rw [← HS.out, drop_of_get HX.out, List.all_cons, ho, Bool.true_and])
        clear ho
        go_wp2_with fail
        go_roundw
        case rel => exact ⟨k + 1, by omega, by go_num, HN, hbel.alloc hbel.size _, HB'⟩
        case measure => simp [intOf]; omega
      · have HN := Lib.hid (show (blocksL.drop (k + 1)).all (fun b => apartB f t b.1 b.2.1) = R by rw [← HS.out, drop_of_get HX.out, List.all_cons, ho, Bool.true_and])
        clear ho
        go_wp2_with fail
        go_roundw
        case rel => exact ⟨k + 1, by omega, by go_num, HN, hbel.alloc hbel.size _, HB'⟩
        case measure => simp [intOf]; omega
      · have HN := Lib.hid (show R = false by rw [← HS.out, drop_of_get HX.out, List.all_cons, ho, Bool.false_and])
        clear ho
        go_wp2_with fail
        go_ret
        rw [HN.out]
        exact ⟨rfl, hbel.alloc hbel.size _⟩
    · have HN := Lib.hid (show R = true by rw [← HS.out, List.drop_eq_nil_of_le (by show 6 ≤ k; omega)]; rfl)
      go_wp2_with fail
      go_ret
      rw [HN.out]
      exact ⟨rfl, hbel⟩

set_option maxRecDepth 100000 in
set_option maxHeartbeats 1000000 in
theorem clean_any (f t x : Int) (w : World) :
    Calls Tryz.prog 78 #[.agg #[.int .i64 f, .int .i64 t, .int .i64 x]] w fun e w' => e = .returned (.bool (outB f t)) ∧ Below w.heap.size w w' := by
  obtain ⟨R, hR⟩ : ∃ R, R = outB f t := ⟨_, rfl⟩
  rw [← hR]
  have HR : Hid (refBlocks.all (fun b => apartB f t b.1 b.2) = R) := Lib.hid (by rw [outB_ref]; exact hR.symm)
  clear hR
  have i0 : ∀ w, (Instr.index 126 (.agg #[.int .i64 0, .int .i64 127, .int .i64 55296, .int .i64 57343, .int .i64 44032, .int .i64 55203, .int .i64 4352, .int .i64 4370, .int .i64 4449, .int .i64 4469, .int .i64 4520, .int .i64 4546]) (.int .i64 0)).run Tryz.prog w = .ok (.agg #[.int .i64 0, .int .i64 127]) w := fun _ => by kernel_rfl
  have i1 : ∀ w, (Instr.index 126 (.agg #[.int .i64 0, .int .i64 127, .int .i64 55296, .int .i64 57343, .int .i64 44032, .int .i64 55203, .int .i64 4352, .int .i64 4370, .int .i64 4449, .int .i64 4469, .int .i64 4520, .int .i64 4546]) (.int .i64 1)).run Tryz.prog w = .ok (.agg #[.int .i64 55296, .int .i64 57343]) w := fun _ => by kernel_rfl
  have i2 : ∀ w, (Instr.index 126 (.agg #[.int .i64 0, .int .i64 127, .int .i64 55296, .int .i64 57343, .int .i64 44032, .int .i64 55203, .int .i64 4352, .int .i64 4370, .int .i64 4449, .int .i64 4469, .int .i64 4520, .int .i64 4546]) (.int .i64 2)).run Tryz.prog w = .ok (.agg #[.int .i64 44032, .int .i64 55203]) w := fun _ => by kernel_rfl
  have i3 : ∀ w, (Instr.index 126 (.agg #[.int .i64 0, .int .i64 127, .int .i64 55296, .int .i64 57343, .int .i64 44032, .int .i64 55203, .int .i64 4352, .int .i64 4370, .int .i64 4449, .int .i64 4469, .int .i64 4520, .int .i64 4546]) (.int .i64 3)).run Tryz.prog w = .ok (.agg #[.int .i64 4352, .int .i64 4370]) w := fun _ => by kernel_rfl
  have i4 : ∀ w, (Instr.index 126 (.agg #[.int .i64 0, .int .i64 127, .int .i64 55296, .int .i64 57343, .int .i64 44032, .int .i64 55203, .int .i64 4352, .int .i64 4370, .int .i64 4449, .int .i64 4469, .int .i64 4520, .int .i64 4546]) (.int .i64 4)).run Tryz.prog w = .ok (.agg #[.int .i64 4449, .int .i64 4469]) w := fun _ => by kernel_rfl
  have i5 : ∀ w, (Instr.index 126 (.agg #[.int .i64 0, .int .i64 127, .int .i64 55296, .int .i64 57343, .int .i64 44032, .int .i64 55203, .int .i64 4352, .int .i64 4370, .int .i64 4449, .int .i64 4469, .int .i64 4520, .int .i64 4546]) (.int .i64 5)).run Tryz.prog w = .ok (.agg #[.int .i64 4520, .int .i64 4546]) w := fun _ => by kernel_rfl
  go_enter Tryz.func78, Tryz.ntmps78
  go_wp2_with fail
  go_loopw [12] (fun i wr => ∃ k : Nat, k ≤ 6 ∧ i = .int .i64 k ∧ Hid ((refBlocks.drop k).all (fun b => apartB f t b.1 b.2) = R) ∧ Below w.heap.size w wr ∧ Hid (Blk wr w.heap.size 61 #[.int .i64 f, .int .i64 t, .int .i64 x])) (fun i _ => 6 - (intOf i).toNat)
  case atStart => exact ⟨0, by omega, rfl, HR, (Below.refl _ _).alloc (Nat.le_refl _) _, Lib.hid (Blk.new _ _ _)⟩
  case round =>
    obtain ⟨k, hk, rfl, HS, hbel, HB⟩ := hrel
    by_cases hlt : k < 6
    · obtain ⟨⟨lo, hi⟩, hxk, _⟩ := get_el (xs := refBlocks) (k := k) hlt
      have hb0 := HB.out.lt
      have g0 := fun o : Obj => (World.cell?_alloc_lt wr o ⟨w.heap.size, 0, none⟩ hb0).trans (HB.out.at_ (i := 0) (u := .int .i64 f) rfl)
      have g1 := fun o : Obj => (World.cell?_alloc_lt wr o ⟨w.heap.size, 1, none⟩ hb0).trans (HB.out.at_ (i := 1) (u := .int .i64 t) rfl)
      have hidx : ∀ w, (Instr.index 126 (.agg #[.int .i64 0, .int .i64 127, .int .i64 55296, .int .i64 57343, .int .i64 44032, .int .i64 55203, .int .i64 4352, .int .i64 4370, .int .i64 4449, .int .i64 4469, .int .i64 4520, .int .i64 4546]) (.int .i64 k)).run Tryz.prog w = .ok (.agg #[.int .i64 lo, .int .i64 hi]) w := by
        have h6 : k = 0 ∨ k = 1 ∨ k = 2 ∨ k = 3 ∨ k = 4 ∨ k = 5 := by omega
        rcases h6 with rfl | rfl | rfl | rfl | rfl | rfl <;> cases hxk
        · exact i0
        · exact i1
        · exact i2
        · exact i3
        · exact i4
        · exact i5
      have HX := Lib.hid hxk
      have HB' := Lib.hid (HB.out.alloc (.cells #[.int .i64 lo, .int .i64 hi] 118))
      clear hxk HB
      have k0 : (0 : Int) ≤ (k : Int) := by omega
      have k1 : (k : Int) < (6 : Int) := by omega
      rcases apart_ways f t lo hi with ⟨ho, q0⟩ | ⟨ho, q0, q1⟩ | ⟨ho, q0, q1⟩
      · have HN := Lib.hid (show (refBlocks.drop (k + 1)).all (fun b => apartB f t b.1 b.2) = R by rw [← HS.out, drop_of_get HX.out, List.all_cons, ho, Bool.true_and])
        clear ho
        go_wp2_with fail
        go_roundw
        case rel => exact ⟨k + 1, by omega, by go_num, HN, hbel.alloc hbel.size _, HB'⟩
        case measure => simp [intOf]; omega
      · have HN := Lib.hid (show (refBlocks.drop (k + 1)).all (fun b => apartB f t b.1 b.2) = R by rw [← HS.out, drop_of_get HX.out, List.all_cons, ho, Bool.true_and])
        clear ho
        go_wp2_with fail
        go_roundw
        case rel => exact ⟨k + 1, by omega, by go_num, HN, hbel.alloc hbel.size _, HB'⟩
        case measure => simp [intOf]; omega
      · have HN := Lib.hid (show R = false by rw [← HS.out, drop_of_get HX.out, List.all_cons, ho, Bool.false_and])
        clear ho
        go_wp2_with fail
        go_ret
        rw [HN.out]
        exact ⟨rfl, hbel.alloc hbel.size _⟩
    · have HN := Lib.hid (show R = true by rw [← HS.out, List.drop_eq_nil_of_le (by show 6 ≤ k; omega)]; rfl)
      go_wp2_with fail
      go_ret
      rw [HN.out]
      exact ⟨rfl, hbel⟩
end Go.Proofs.YtikcfoobfobmnaaGreatDoor
/-
  The walks through ranges.Check and the reference's Check and valid.
-/
namespace Go.Proofs.YtikcfoobfobmnaaGreatDoor
open Go.RowKit ND



/-- What Check asks of a span behind a span that ends at last. -/
def okOne (lo hi last : Int) (s : Sp) : Bool := decide (last < s.1 ∧ s.1 ≤ s.2.1 ∧ s.2.1 ≤ 1114111 ∧ lo ≤ s.1 ∧ s.2.1 ≤ hi)
theorem okS_go {lo hi last : Int} {xs : List Sp} {k : Nat} {s : Sp} {R : Bool} (hx : xs[k]? = some s) (h : okS lo hi last (xs.drop k) = R) (h1 : okOne lo hi last s = true) : okS lo hi s.2.1 (xs.drop (k + 1)) = R := by
  rw [drop_of_get hx, okS] at h
  unfold okOne at h1
  rw [h1, Bool.true_and] at h
  exact h
theorem okS_no {lo hi last : Int} {xs : List Sp} {k : Nat} {s : Sp} {R : Bool} (hx : xs[k]? = some s) (h : okS lo hi last (xs.drop k) = R) (h1 : okOne lo hi last s = false) : R = false := by
  rw [drop_of_get hx, okS] at h
  unfold okOne at h1
  rw [h1, Bool.false_and] at h
  exact h.symm
theorem okS_end {lo hi last : Int} {xs : List Sp} {k : Nat} {R : Bool} (hk : xs.length ≤ k) (h : okS lo hi last (xs.drop k) = R) : R = true := by
  rw [List.drop_eq_nil_of_le hk] at h; exact h.symm

/-- The five ways through the tests of one span. -/
theorem okOne_ways {lo hi last f t v : Int} : (okOne lo hi last (f, t, v) = true ∧ decide (f ≤ last) = false ∧ decide (t < f) = false ∧ decide (1114111 < t) = false ∧ decide (f < lo) = false ∧ decide (hi < t) = false) ∨
    (okOne lo hi last (f, t, v) = false ∧ (decide (f ≤ last) = true ∨ decide (f ≤ last) = false ∧ decide (t < f) = true ∨ decide (f ≤ last) = false ∧ decide (t < f) = false ∧ decide (1114111 < t) = true ∨
      decide (f ≤ last) = false ∧ decide (t < f) = false ∧ decide (1114111 < t) = false ∧ decide (f < lo) = true ∨ decide (f ≤ last) = false ∧ decide (t < f) = false ∧ decide (1114111 < t) = false ∧ decide (f < lo) = false ∧ decide (hi < t) = true)) := by
  unfold okOne
  simp only [decide_eq_true_eq, decide_eq_false_iff_not]
  omega

set_option maxRecDepth 100000 in
set_option maxHeartbeats 1000000 in
theorem check_any (v : Value) (xs : List Sp) (lo hi : Int) (w : World) (hv : Spans w w.heap.size v xs) :
    Calls Tryz.prog 90 #[v, .int .i64 lo, .int .i64 hi] w fun e w' => e = .returned (.bool (checkS xs lo hi)) ∧ Below w.heap.size w w' := by
  obtain ⟨A, c, rfl, hc1, hc2, _, hcell⟩ := hv
  have HC := Lib.hid hcell; clear hcell
  have hl : xs.length ≤ 9223372036854775807 := by unfold maxLen at hc2; omega
  clear hc2 hc1
  obtain ⟨R, hR⟩ : ∃ R, R = okS lo hi (-1) xs := ⟨_, rfl⟩
  have hck : checkS xs lo hi = (R && decide (xs.length ≤ 256)) := by rw [hR]; rfl
  rw [hck]
  have HR : Hid (okS lo hi (-1) (xs.drop 0) = R) := Lib.hid hR.symm
  clear hR hck
  go_enter Tryz.func90, Tryz.ntmps90
  go_wp2_with fail
  go_loopw [7, 12] (fun l i wr => ∃ (k : Nat) (last : Int), k ≤ xs.length ∧ i = .int .i64 k ∧ l = .int .i64 last ∧ Hid (okS lo hi last (xs.drop k) = R) ∧ Below w.heap.size w wr) (fun _ i _ => xs.length - (intOf i).toNat)
  case atStart => exact ⟨0, -1, by omega, rfl, rfl, HR, Below.refl _ _⟩
  case round =>
    obtain ⟨k, last, hk, rfl, rfl, HS, hbel⟩ := hrel
    clear HR
    by_cases hlt : k < xs.length
    · obtain ⟨⟨f, t, x⟩, hxk, _⟩ := get_el hlt
      obtain ⟨ad, rfl, ha, d0, d1, d2⟩ := HC.out k _ hxk
      simp only at d0 d1 d2
      obtain ⟨e0, e1, e2⟩ := span_cells hbel ha d0 d1 d2
      have HX := Lib.hid hxk
      clear d0 d1 d2 hxk ha
      have k0 : (0 : Int) ≤ (k : Int) := by omega
      have k1 : (k : Int) < (xs.length : Int) := by omega
      rcases okOne_ways (lo := lo) (hi := hi) (last := last) (f := f) (t := t) (v := x) with ⟨ho, q0, q1, q2, q3, q4⟩ | ⟨ho, hw⟩
      · have HN := Lib.hid (okS_go HX.out HS.out ho)
        clear ho
        go_wp2_with fail
        go_roundw
        case rel => exact ⟨k + 1, t, by omega, by go_num, rfl, HN, hbel.alloc hbel.size _⟩
        case measure => simp [intOf]; omega
      · have HN := Lib.hid (okS_no HX.out HS.out ho)
        clear ho
        rcases hw with q0 | ⟨q0, q1⟩ | ⟨q0, q1, q2⟩ | ⟨q0, q1, q2, q3⟩ | ⟨q0, q1, q2, q3, q4⟩
        all_goals
          go_wp2_with fail
          go_ret
          rw [HN.out]
          exact ⟨rfl, hbel.alloc hbel.size _⟩
    · have HN := Lib.hid (okS_end (by omega) HS.out)
      go_wp2_with fail
      go_ret
      rw [HN.out]
      exact ⟨by simp; omega, hbel⟩

/-- The ways through the reference's tests of one span. -/
theorem refOne_ways {lo hi last f t v : Int} (hl : -1 ≤ last) : (okOne lo hi last (f, t, v) = true ∧ decide (f < 0) = false ∧ decide (t < f) = false ∧ decide (1114111 < t) = false ∧ decide (f < lo) = false ∧ decide (hi < t) = false ∧ decide (f ≤ last) = false) ∨
    (okOne lo hi last (f, t, v) = false ∧ (decide (f < 0) = true ∨ decide (f < 0) = false ∧ decide (t < f) = true ∨ decide (f < 0) = false ∧ decide (t < f) = false ∧ decide (1114111 < t) = true ∨
      decide (f < 0) = false ∧ decide (t < f) = false ∧ decide (1114111 < t) = false ∧ decide (f < lo) = true ∨ decide (f < 0) = false ∧ decide (t < f) = false ∧ decide (1114111 < t) = false ∧ decide (f < lo) = false ∧ decide (hi < t) = true ∨
      decide (f < 0) = false ∧ decide (t < f) = false ∧ decide (1114111 < t) = false ∧ decide (f < lo) = false ∧ decide (hi < t) = false ∧ decide (f ≤ last) = true)) := by
  unfold okOne
  simp only [decide_eq_true_eq, decide_eq_false_iff_not]
  omega

set_option maxRecDepth 100000 in
set_option maxHeartbeats 1000000 in
theorem refCheck_any (v : Value) (xs : List Sp) (lo hi : Int) (w : World) (hv : Spans w w.heap.size v xs) :
    Calls Tryz.prog 77 #[v, .int .i64 lo, .int .i64 hi] w fun e w' => e = .returned (.bool (checkS xs lo hi)) ∧ Below w.heap.size w w' := by
  obtain ⟨A, c, rfl, hc1, hc2, _, hcell⟩ := hv
  have HC := Lib.hid hcell; clear hcell
  have hl : xs.length ≤ 9223372036854775807 := by unfold maxLen at hc2; omega
  clear hc2 hc1
  obtain ⟨R, hR⟩ : ∃ R, R = okS lo hi (-1) xs := ⟨_, rfl⟩
  have hck : checkS xs lo hi = (R && decide (xs.length ≤ 256)) := by rw [hR]; rfl
  rw [hck]
  have HR : Hid (okS lo hi (-1) (xs.drop 0) = R) := Lib.hid hR.symm
  clear hR hck
  by_cases hbig : 256 < xs.length
  · have hf : decide (xs.length ≤ 256) = false := by rw [decide_eq_false_iff_not]; omega
    rw [hf, Bool.and_false]
    clear hf HR HC
    go_enter Tryz.func77, Tryz.ntmps77
    go_wp2_with fail
    go_ret
    exact ⟨rfl, Below.refl _ _⟩
  · have hf : decide (xs.length ≤ 256) = true := by rw [decide_eq_true_iff]; omega
    rw [hf, Bool.and_true]
    clear hf
    go_enter Tryz.func77, Tryz.ntmps77
    go_wp2_with fail
    go_loopw [14] (fun i wr => ∃ (k : Nat) (last : Int), k ≤ xs.length ∧ i = .int .i64 k ∧ -1 ≤ last ∧ Hid (okS lo hi last (xs.drop k) = R) ∧ Hid ((0 < k → ∃ s, xs[k - 1]? = some s ∧ s.2.1 = last) ∧ (k = 0 → last = -1)) ∧ Below w.heap.size w wr) (fun i _ => xs.length - (intOf i).toNat)
    case atStart => exact ⟨0, -1, by omega, rfl, by omega, HR, Lib.hid ⟨fun h => absurd h (by omega), fun _ => rfl⟩, Below.refl _ _⟩
    case round =>
      obtain ⟨k, last, hk, rfl, hlast, HS, HP, hbel⟩ := hrel
      clear HR
      by_cases hlt : k < xs.length
      · obtain ⟨⟨f, t, x⟩, hxk, _⟩ := get_el hlt
        obtain ⟨ad, rfl, ha, d0, d1, d2⟩ := HC.out k _ hxk
        simp only at d0 d1 d2
        obtain ⟨e0, e1, e2⟩ := span_cells hbel ha d0 d1 d2
        have HX := Lib.hid hxk
        clear d0 d1 d2 hxk
        have k0 : (0 : Int) ≤ (k : Int) := by omega
        have k1 : (k : Int) < (xs.length : Int) := by omega
        have hways := refOne_ways (lo := lo) (hi := hi) (last := last) (f := f) (t := t) (v := x) hlast
        by_cases hk0 : 0 < k
        · obtain ⟨⟨f', t', x'⟩, hj, hjl⟩ := HP.out.1 hk0
          simp only at hjl
          subst hjl
          obtain ⟨ad', h', _, d0, d1, d2⟩ := HC.out _ _ hj
          cases h'
          simp only at d0 d1 d2
          obtain ⟨g0, g1, g2⟩ := span_cells hbel ha d0 d1 d2
          clear d0 d1 d2 hj g0 g2
          obtain ⟨j, rfl⟩ : ∃ j, k = j + 1 := ⟨k - 1, by omega⟩
          rw [Nat.add_sub_cancel] at g1
          have g1' := fun o : Obj => (World.cell?_alloc_lt wr o { block := (ad.add (j * 3)).block, off := (ad.add (j * 3)).off + 1, spot := none } (by have := hbel.size; simp only [block_of_add]; omega)).trans g1
          clear g1
          have hw : IntKind.i64.wrap ((j : Int) + 1 - 1) = (j : Int) := by rw [IntWalk.i64_in _ (by omega)]; omega
          have hwj : IntKind.i64.wrap (j : Int) = (j : Int) := IntWalk.i64_in _ (by omega)
          have j0 : (0 : Int) ≤ (j : Int) := by omega
          have j1 : (j : Int) < (xs.length : Int) := by omega
          have j2 : j < xs.length := by omega
          rcases hways with ⟨ho, q0, q1, q2, q3, q4, q5⟩ | ⟨ho, hw'⟩
          · have ht : -1 ≤ t := by simp only [okOne, decide_eq_true_eq] at ho; omega
            have HN := Lib.hid (okS_go HX.out HS.out ho)
            clear ho
            go_wp2_with fail
            go_quiet (fail)
            go_wp2_with fail
            go_roundw
            case rel => exact ⟨(j + 1) + 1, t, by omega, by go_num, ht, HN, Lib.hid ⟨fun _ => ⟨(f, t, x), by simpa using HX.out, rfl⟩, fun h => absurd h (by omega)⟩, below_drewN (hbel.alloc hbel.size _) nq⟩
            case measure => simp [intOf]; omega
          · have HN := Lib.hid (okS_no HX.out HS.out ho)
            clear ho
            rcases hw' with q0 | ⟨q0, q1⟩ | ⟨q0, q1, q2⟩ | ⟨q0, q1, q2, q3⟩ | ⟨q0, q1, q2, q3, q4⟩ | ⟨q0, q1, q2, q3, q4, q5⟩
            all_goals
              go_wp2_with fail
              go_quiet (fail)
              go_wp2_with fail
              go_ret
              rw [HN.out]
              exact ⟨rfl, below_drewN (hbel.alloc hbel.size _) nq⟩
        · have hl1 := HP.out.2 (by omega)
          subst hl1
          have hz : decide ((0 : Int) < (k : Int)) = false := by rw [decide_eq_false_iff_not]; omega
          clear HP
          rcases hways with ⟨ho, q0, q1, q2, q3, q4, q5⟩ | ⟨ho, hw'⟩
          · have ht : -1 ≤ t := by simp only [okOne, decide_eq_true_eq] at ho; omega
            have HN := Lib.hid (okS_go HX.out HS.out ho)
            clear ho
            go_wp2_with fail
            go_quiet (fail)
            go_wp2_with fail
            go_roundw
            case rel => exact ⟨k + 1, t, by omega, by go_num, ht, HN, Lib.hid ⟨fun _ => ⟨(f, t, x), by simpa using HX.out, rfl⟩, fun h => absurd h (by omega)⟩, below_drewN (hbel.alloc hbel.size _) nq⟩
            case measure => simp [intOf]; omega
          · rw [show (decide (f ≤ -1) = true) = (decide (f < 0) = true) from by simp; omega] at hw'
            have HN := Lib.hid (okS_no HX.out HS.out ho)
            clear ho
            rcases hw' with q0 | ⟨q0, q1⟩ | ⟨q0, q1, q2⟩ | ⟨q0, q1, q2, q3⟩ | ⟨q0, q1, q2, q3, q4⟩ | ⟨q0, _, _, _, _, q5⟩
            rotate_left 5
            · rw [q0] at q5; cases q5
            all_goals
              go_wp2_with fail
              go_quiet (fail)
              go_wp2_with fail
              go_ret
              rw [HN.out]
              exact ⟨rfl, below_drewN (hbel.alloc hbel.size _) nq⟩
      · have HN := Lib.hid (okS_end (by omega) HS.out)
        go_wp2_with fail
        go_ret
        rw [HN.out]
        exact ⟨by simp, hbel⟩
end Go.Proofs.YtikcfoobfobmnaaGreatDoor
/-
  The walk through table.shape: rule 2.
-/
namespace Go.Proofs.YtikcfoobfobmnaaGreatDoor
open Go.RowKit ND

def colShape (c : List Sp × Int × Int) : Bool := colOk c.1
def spOut (s : Sp) : Bool := outB s.1 s.2.1
def mpKeys (p : List Mp × Nat) : Bool := keysB (p.2 == 3) (-1) (keysOf p.1)
theorem rule2_parts (T : Tab) : T.rule2 = (T.cols.all colShape && (T.mps.zipIdx.all mpKeys && keysB false (-1) T.excluded)) := by
  unfold Tab.rule2 Tab.rule2m Tab.mps
  simp only [List.zipIdx_cons, List.zipIdx_nil, List.all_cons, List.all_nil, Bool.and_true]
  rfl
theorem zip_at {T : Tab} {k : Nat} {p : List Mp × Nat} (h : T.mps.zipIdx[k]? = some p) : p.2 = k ∧ T.mps[k]? = some p.1 := by
  rw [List.getElem?_zipIdx] at h
  cases hm : T.mps[k]? with
  | none => rw [hm] at h; cases h
  | some m => rw [hm] at h; cases h; exact ⟨by simp, rfl⟩
theorem keys_go {p : Bool} {last c : Int} {xs : List Int} {k : Nat} {R : Bool} (hx : xs[k]? = some c) (h : keysB p last (xs.drop k) = R) (h1 : keyOk p last c = true) : keysB p c (xs.drop (k + 1)) = R := by
  rw [drop_of_get hx, keysB, h1, Bool.true_and] at h; exact h
theorem keys_no {p : Bool} {last c : Int} {xs : List Int} {k : Nat} {R : Bool} (hx : xs[k]? = some c) (h : keysB p last (xs.drop k) = R) (h1 : keyOk p last c = false) : R = false := by
  rw [drop_of_get hx, keysB, h1, Bool.false_and] at h; exact h.symm
theorem keys_end {p : Bool} {last : Int} {xs : List Int} {k : Nat} {R : Bool} (hk : xs.length ≤ k) (h : keysB p last (xs.drop k) = R) : R = true := by
  rw [List.drop_eq_nil_of_le hk] at h; exact h.symm
theorem keys_get {l : List Mp} {k : Nat} {m : Mp} (h : l[k]? = some m) : (keysOf l)[k]? = some m.1 := by unfold keysOf; rw [List.getElem?_map, h]; rfl

/-- The ways through the test of a key. -/
theorem key_ways (last c : Int) (k : Nat) : (keyOk (k == 3) last c = true ∧ pointB last c = true) ∨ (keyOk (k == 3) last c = false ∧ pointB last c = false ∧ ((k : Int) != 3) = true) ∨
    (keyOk (k == 3) last c = false ∧ pointB last c = false ∧ ((k : Int) != 3) = false ∧ decide (c ≤ last) = true) ∨ (keyOk (k == 3) last c = false ∧ pointB last c = false ∧ ((k : Int) != 3) = false ∧ decide (c ≤ last) = false ∧ nameB c = false) ∨
    (keyOk (k == 3) last c = true ∧ pointB last c = false ∧ ((k : Int) != 3) = false ∧ decide (c ≤ last) = false ∧ nameB c = true) := by
  have hn : nameB c = true → c ≤ 1114111 := fun h => by rw [nameB_iff] at h; omega
  unfold keyOk pointB
  by_cases h3 : k = 3
  · subst h3
    have e : (((3 : Nat) : Int) != 3) = false := by decide
    rw [e]
    by_cases h1 : last < c
    · have e1 : decide (c ≤ last) = false := by rw [decide_eq_false_iff_not]; omega
      rw [e1]
      by_cases h2 : c ≤ 1114111
      · rw [decide_eq_true (And.intro h1 h2)]
        cases resB c <;> cases nameB c <;> simp
      · rw [decide_eq_false (fun h => h2 h.2)]
        have : nameB c = false := by
          cases hh : nameB c
          · rfl
          · exact absurd (hn hh) h2
        rw [this]; simp
    · have e1 : decide (c ≤ last) = true := by rw [decide_eq_true_iff]; omega
      rw [e1, decide_eq_false (fun h : last < c ∧ c ≤ 1114111 => h1 h.1)]; simp
  · have e : ((k : Int) != 3) = true := by rw [bne_iff_ne]; omega
    have e2 : (k == 3) = false := by rw [beq_eq_false_iff_ne]; exact h3
    rw [e, e2]
    cases decide (last < c ∧ c ≤ 1114111) <;> cases resB c <;> simp
theorem keyOk_false (last c : Int) : keyOk false last c = pointB last c := by unfold keyOk pointB; simp

set_option maxRecDepth 100000 in
set_option maxHeartbeats 4000000 in
theorem shape_any (t : Tv) (T : Tab) (w : World) (ht : TabR w w.heap.size t T) (hg : Glob w) :
    Calls Tryz.prog 56 #[t.val] w fun e w' => e = .returned (.bool T.rule2) ∧ Below w.heap.size w w' := by
  obtain ⟨A0, A1, A2, A3, A4, A5, A6, A7, A8, A9, A10, A11, k0, k1, k2, k3, k4, k5, k6, k7, k8, k9, k10, k11, rfl⟩ := ht.shape
  have HR := Lib.hid (fun o : Obj => ht.later ((Below.refl _ _).alloc (Nat.le_refl _) o))
  have HG0 := Lib.hid (fun o : Obj => hg.later ((Below.refl _ _).alloc (Nat.le_refl _) o))
  clear ht hg
  obtain ⟨R, hR⟩ : ∃ R, R = T.rule2 := ⟨_, rfl⟩
  rw [← hR]
  obtain ⟨R1, hR1⟩ : ∃ R1, R1 = T.cols.all colShape := ⟨_, rfl⟩
  obtain ⟨R2, hR2⟩ : ∃ R2, R2 = T.mps.zipIdx.all mpKeys := ⟨_, rfl⟩
  obtain ⟨R3, hR3⟩ : ∃ R3, R3 = keysB false (-1) T.excluded := ⟨_, rfl⟩
  have HR1 : Hid ((T.cols.drop 0).all colShape = R1) := Lib.hid hR1.symm
  have HR2 : Hid ((T.mps.zipIdx.drop 0).all mpKeys = R2) := Lib.hid hR2.symm
  have HR3 : Hid (keysB false (-1) (T.excluded.drop 0) = R3) := Lib.hid hR3.symm
  have HRR : Hid (R = (R1 && (R2 && R3))) := Lib.hid (by rw [hR, hR1, hR2, hR3, rule2_parts])
  clear hR hR1 hR2 hR3
  go_enter Tryz.func56, Tryz.ntmps56
  go_wp2_with fail
  refine (columns_any _ T _ (HR.out _)).mono ?_
  rintro e w1 ⟨ad, rfl, hc, b1⟩
  have HC := Lib.hid hc.2
  have hca := hc.1
  have HB := Lib.hid ((Blk.new w 29 _).later b1)
  have HT := Lib.hid ((HR.out _).later b1)
  have HG := Lib.hid ((HG0.out _).later b1)
  have hbel1 := below_next ((Below.refl _ _).alloc (Nat.le_refl _) _) b1
  clear hc b1 HR HG0
  go_wp2_with fail
  go_loopw [18] (fun i wr => ∃ (k : Nat), k ≤ 7 ∧ i = .int .i64 k ∧ Hid ((T.cols.drop k).all colShape = R1) ∧ Below w1.heap.size w1 wr) (fun i _ => 7 - (intOf i).toNat)
  case atStart => exact ⟨0, by omega, rfl, HR1, Below.refl _ _⟩
  case round =>
    obtain ⟨k, hk, rfl, HS, hbel⟩ := hrel
    clear HR1
    by_cases hlt : k < 7
    · obtain ⟨⟨l, lo, hi⟩, hxk, _⟩ := get_el (xs := T.cols) (k := k) hlt
      obtain ⟨v, d0, d1, d2, hv⟩ := HC.out k _ hxk
      simp only at d0 d1 d2 hv
      obtain ⟨A, c, rfl, hc1, hc2, _, hcell⟩ := id hv
      have HCE := Lib.hid hcell
      have hlm : l.length ≤ 9223372036854775807 := by unfold maxLen at hc2; omega
      have HV := Lib.hid (fun o => (hv.later hbel).later ((Below.refl _ _).alloc (Nat.le_refl _) o))
      obtain ⟨e0, e1, e2⟩ := span_cells hbel hca d0 d1 d2
      have HX := Lib.hid hxk
      clear d0 d1 d2 hxk hcell hv hc1 hc2
      have q0 : (0 : Int) ≤ (k : Int) := by omega
      have q1 : (k : Int) < (7 : Int) := by omega
      have HK := Lib.hid (fun W h => check_any (.slice A l.length c) l 0 1114111 W h)
      cases hck : checkS l 0 1114111
      · rw [hck] at HK
        have HN := Lib.hid (each_no HX.out HS.out (by unfold colShape colOk; rw [hck]; rfl))
        clear hck
        go_wp2_with fail
        refine (HK.out _ (HV.out _)).mono ?_
        rintro e w2 ⟨rfl, b2⟩
        go_wp2_with fail
        go_ret
        rw [HRR.out, HN.out]
        exact ⟨by simp, below_next hbel1 (below_next (hbel.alloc hbel.size _) b2)⟩
      · rw [hck] at HK
        obtain ⟨Ro, hRo⟩ : ∃ Ro, Ro = l.all spOut := ⟨_, rfl⟩
        have HO : Hid ((l.drop 0).all spOut = Ro) := Lib.hid hRo.symm
        have HCO : Hid (colShape (l, lo, hi) = Ro) := Lib.hid (by rw [hRo]; unfold colShape colOk; rw [hck]; rfl)
        clear hck hRo
        go_wp2_with fail
        refine (HK.out _ (HV.out _)).mono ?_
        rintro e w2 ⟨rfl, b2⟩
        have d0 := ((Blk.new wr 112 #[.slice A l.length c, .int .i64 lo, .int .i64 hi]).later b2).at_ (i := 0) rfl
        have hbel2 : Below w1.heap.size w1 w2 := below_next (hbel.alloc hbel.size _) b2
        clear HK HV b2 e0 e1 e2 hbel
        go_wp2_with fail
        clear d0
        go_loopw [29] (fun i wr => ∃ (j : Nat), j ≤ l.length ∧ i = .int .i64 j ∧ Hid ((l.drop j).all spOut = Ro) ∧ Below w1.heap.size w1 wr) (fun i _ => l.length - (intOf i).toNat)
        case atStart => exact ⟨0, by omega, rfl, HO, hbel2⟩
        case round =>
          obtain ⟨j, hj, rfl, HSj, hbelj⟩ := hrel
          clear HO hbel2
          by_cases hjl : j < l.length
          · obtain ⟨⟨f, t, x⟩, hxj, _⟩ := get_el hjl
            obtain ⟨aj, rfl, ha, d0, d1, d2⟩ := HCE.out j _ hxj
            simp only at d0 d1 d2
            obtain ⟨e0, e1, e2⟩ := span_cells hbelj ha d0 d1 d2
            have HXj := Lib.hid hxj
            have HGj := Lib.hid (fun o => (HG.out.later hbelj).later ((Below.refl _ _).alloc (Nat.le_refl _) o))
            clear d0 d1 d2 hxj ha
            have r0 : (0 : Int) ≤ (j : Int) := by omega
            have r1 : (j : Int) < (l.length : Int) := by omega
            have HOU := Lib.hid (fun W h => outside_any f t x W h)
            cases ho : outB f t
            · rw [ho] at HOU
              have HN := Lib.hid (each_no HXj.out HSj.out ho)
              clear ho
              go_wp2_with fail
              refine (HOU.out _ (HGj.out _)).mono ?_
              rintro e w3 ⟨rfl, b3⟩
              go_wp2_with fail
              go_ret
              rw [HRR.out, each_no HX.out HS.out (HCO.out.trans HN.out)]
              exact ⟨by simp, below_next hbel1 (below_next (hbelj.alloc hbelj.size _) b3)⟩
            · rw [ho] at HOU
              have HN := Lib.hid (each_go HXj.out HSj.out ho)
              clear ho
              go_wp2_with fail
              refine (HOU.out _ (HGj.out _)).mono ?_
              rintro e w3 ⟨rfl, b3⟩
              go_wp2_with fail
              go_roundw
              case rel => exact ⟨j + 1, by omega, by go_num, HN, below_next (hbelj.alloc hbelj.size _) b3⟩
              case measure => simp [intOf]; omega
          · have HN := Lib.hid (each_go HX.out HS.out (HCO.out.trans (each_end (by omega) HSj.out)))
            go_wp2_with fail
            go_roundw
            case rel => exact ⟨k + 1, by omega, by go_num, HN, hbelj⟩
            case measure => simp [intOf]; omega
    · have HN := Lib.hid (each_end (by show 7 ≤ k; omega) HS.out)
      obtain ⟨x0, x1, x2, x3, x4, x5, x6, x7, x8, x9, x10, x11⟩ := (HB.out.later hbel).tab
      have HT2 := Lib.hid (HT.out.later hbel)
      clear HC hca HS
      go_wp2_with fail
      refine (mappings_any _ T _ HT2.out).mono ?_
      rintro e w2 ⟨am, rfl, hm, b2⟩
      have HM := Lib.hid hm.2
      have hma := hm.1
      have HB2 := Lib.hid ((HB.out.later hbel).later b2)
      have HX10 := Lib.hid (HT2.out.r10.later b2)
      have hbel2 := below_next hbel1 (below_next hbel b2)
      clear hm HT2 hbel hbel1 b2 x0 x1 x2 x3 x4 x5 x6 x7 x8 x9 x10 x11 HB HT HG
      go_wp2_with fail
      go_loopw [41] (fun i wr => ∃ (k : Nat), k ≤ 4 ∧ i = .int .i64 k ∧ Hid ((T.mps.zipIdx.drop k).all mpKeys = R2) ∧ Below w2.heap.size w2 wr) (fun i _ => 4 - (intOf i).toNat)
      case atStart => exact ⟨0, by omega, rfl, HR2, Below.refl _ _⟩
      case round =>
        obtain ⟨k, hk, rfl, HS, hbel⟩ := hrel
        clear HR2
        by_cases hlt : k < 4
        · obtain ⟨⟨l, k'⟩, hxk, _⟩ := get_el (xs := T.mps.zipIdx) (k := k) hlt
          obtain ⟨hk', hxm⟩ := zip_at hxk
          simp only at hk' hxm
          subst hk'
          obtain ⟨v, d0, hv⟩ := HM.out k' _ hxm
          obtain ⟨A, c, rfl, hc1, hc2, _, hcell⟩ := id hv
          have HCE := Lib.hid hcell
          have hlm : l.length ≤ 9223372036854775807 := by unfold maxLen at hc2; omega
          have e0 := (hbel.cell (p := am.add k') (by rw [block_of_add]; exact hma)).trans d0
          have HX := Lib.hid hxk
          obtain ⟨Ro, hRo⟩ : ∃ Ro, Ro = mpKeys (l, k') := ⟨_, rfl⟩
          have HO : Hid (keysB (k' == 3) (-1) ((keysOf l).drop 0) = Ro) := Lib.hid hRo.symm
          have HCO : Hid (mpKeys (l, k') = Ro) := Lib.hid hRo.symm
          clear d0 hxk hxm hcell hv hc1 hc2 hRo
          have q0 : (0 : Int) ≤ (k' : Int) := by omega
          have q1 : (k' : Int) < (4 : Int) := by omega
          go_wp2_with fail
          clear e0
          go_loopw [9, 48] (fun la i wr => ∃ (j : Nat) (last : Int), j ≤ l.length ∧ i = .int .i64 j ∧ la = .int .i64 last ∧ Hid (keysB (k' == 3) last ((keysOf l).drop j) = Ro) ∧ Below w2.heap.size w2 wr) (fun _ i _ => l.length - (intOf i).toNat)
          case atStart => exact ⟨0, -1, by omega, rfl, rfl, HO, hbel⟩
          case round =>
            obtain ⟨j, last, hj, rfl, rfl, HSj, hbelj⟩ := hrel
            clear HO hbel
            by_cases hjl : j < l.length
            · obtain ⟨⟨cc, tg⟩, hxj, _⟩ := get_el hjl
              obtain ⟨aj, sv, rfl, ha, d0, d1, A', c', rfl, _⟩ := HCE.out j _ hxj
              simp only at d0 d1
              obtain ⟨e0, e1⟩ := map_cells hbelj ha d0 d1
              have HXj := Lib.hid (keys_get hxj)
              simp only at HXj
              clear d0 d1 hxj ha
              have r0 : (0 : Int) ≤ (j : Int) := by omega
              have r1 : (j : Int) < (l.length : Int) := by omega
              have HP := Lib.hid (fun W => point_any last cc W)
              have HNA := Lib.hid (fun W => name_any cc W)
              rcases key_ways last cc k' with ⟨ho, p0⟩ | ⟨ho, p0, p1⟩ | ⟨ho, p0, p1, p2⟩ | ⟨ho, p0, p1, p2, p3⟩ | ⟨ho, p0, p1, p2, p3⟩
              · have HN := Lib.hid (keys_go HXj.out HSj.out ho)
                rw [p0] at HP
                clear ho p0 HNA
                go_wp2_with fail
                refine (HP.out _).mono ?_
                rintro e w' ⟨rfl, rfl⟩
                go_wp2_with fail
                go_roundw
                case rel => exact ⟨j + 1, cc, by omega, by go_num, rfl, HN, hbelj.alloc hbelj.size _⟩
                case measure => simp [intOf]; omega
              · have HN := Lib.hid (keys_no HXj.out HSj.out ho)
                rw [p0] at HP
                clear ho p0 HNA
                go_wp2_with fail
                refine (HP.out _).mono ?_
                rintro e w' ⟨rfl, rfl⟩
                go_wp2_with fail
                go_ret
                rw [HRR.out, each_no HX.out HS.out (HCO.out.trans HN.out)]
                exact ⟨by simp, below_next hbel2 (hbelj.alloc hbelj.size _)⟩
              · have HN := Lib.hid (keys_no HXj.out HSj.out ho)
                rw [p0] at HP
                clear ho p0 HNA
                go_wp2_with fail
                refine (HP.out _).mono ?_
                rintro e w' ⟨rfl, rfl⟩
                go_wp2_with fail
                go_ret
                rw [HRR.out, each_no HX.out HS.out (HCO.out.trans HN.out)]
                exact ⟨by simp, below_next hbel2 (hbelj.alloc hbelj.size _)⟩
              · have HN := Lib.hid (keys_no HXj.out HSj.out ho)
                rw [p0] at HP
                rw [p3] at HNA
                clear ho p0 p3
                go_wp2_with fail
                refine (HP.out _).mono ?_
                rintro e w' ⟨rfl, rfl⟩
                go_wp2_with fail
                refine (HNA.out _).mono ?_
                rintro e w' ⟨rfl, rfl⟩
                go_wp2_with fail
                go_ret
                rw [HRR.out, each_no HX.out HS.out (HCO.out.trans HN.out)]
                exact ⟨by simp, below_next hbel2 (hbelj.alloc hbelj.size _)⟩
              · have HN := Lib.hid (keys_go HXj.out HSj.out ho)
                rw [p0] at HP
                rw [p3] at HNA
                clear ho p0 p3
                go_wp2_with fail
                refine (HP.out _).mono ?_
                rintro e w' ⟨rfl, rfl⟩
                go_wp2_with fail
                refine (HNA.out _).mono ?_
                rintro e w' ⟨rfl, rfl⟩
                go_wp2_with fail
                go_roundw
                case rel => exact ⟨j + 1, cc, by omega, by go_num, rfl, HN, hbelj.alloc hbelj.size _⟩
                case measure => simp [intOf]; omega
            · have HN := Lib.hid (each_go HX.out HS.out (HCO.out.trans (keys_end (by unfold keysOf; rw [List.length_map]; omega) HSj.out)))
              go_wp2_with fail
              go_roundw
              case rel => exact ⟨k' + 1, by omega, by go_num, HN, hbelj⟩
              case measure => simp [intOf]; omega
        · have HN2 := Lib.hid (each_end (by show 4 ≤ k; omega) HS.out)
          obtain ⟨A, c, hA, hc1, hc2, _, hcell⟩ := HX10.out
          cases hA
          have HCE := Lib.hid hcell
          have hlm : T.excluded.length ≤ 9223372036854775807 := by unfold maxLen at hc2; omega
          have x10 := (HB2.out.later hbel).at_ (i := 10) rfl
          clear HM hma HS HX10 hcell hc1 hc2 HB2
          go_wp2_with fail
          go_loop [12, 80] (fun la i => ∃ (j : Nat) (last : Int), j ≤ T.excluded.length ∧ i = .int .i64 j ∧ la = .int .i64 last ∧ Hid (keysB false last (T.excluded.drop j) = R3)) (fun _ i => T.excluded.length - (intOf i).toNat)
          case atStart => exact ⟨0, -1, by omega, rfl, rfl, HR3⟩
          case round =>
            obtain ⟨j, last, hj, rfl, rfl, HSj⟩ := hrel
            clear HR3
            by_cases hjl : j < T.excluded.length
            · obtain ⟨cc, hxj, _⟩ := get_el hjl
              obtain ⟨aj, rfl, ha, d0⟩ := HCE.out j _ hxj
              have e0 := (hbel.cell (p := aj.add j) (by rw [block_of_add]; exact ha)).trans d0
              have HXj := Lib.hid hxj
              clear d0 hxj ha
              have r0 : (0 : Int) ≤ (j : Int) := by omega
              have r1 : (j : Int) < (T.excluded.length : Int) := by omega
              have HP := Lib.hid (fun W => point_any last cc W)
              cases ho : pointB last cc
              · have HN3 := Lib.hid (keys_no HXj.out HSj.out ((keyOk_false _ _).trans ho))
                rw [ho] at HP
                clear ho
                go_wp2_with fail
                refine (HP.out _).mono ?_
                rintro e w' ⟨rfl, rfl⟩
                go_wp2_with fail
                go_ret
                rw [HRR.out, HN3.out]
                exact ⟨by simp, below_next hbel2 hbel⟩
              · have HN3 := Lib.hid (keys_go HXj.out HSj.out ((keyOk_false _ _).trans ho))
                rw [ho] at HP
                clear ho
                go_wp2_with fail
                refine (HP.out _).mono ?_
                rintro e w' ⟨rfl, rfl⟩
                go_wp2_with fail
                go_round
                case rel => exact ⟨j + 1, cc, by omega, by go_num, rfl, HN3⟩
                case measure => simp [intOf]; omega
            · have HN3 := Lib.hid (keys_end (by omega) HSj.out)
              go_wp2_with fail
              go_ret
              rw [HRR.out, HN.out, HN2.out, HN3.out]
              exact ⟨by simp, below_next hbel2 hbel⟩
end Go.Proofs.YtikcfoobfobmnaaGreatDoor
