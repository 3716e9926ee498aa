/-
  The walks through ranges.Check and the reference's Check and valid.
-/
import Derived.Test.YtkdhldhbjomiaaaDoorSpans
import Derived.Test.YtkdhldhbjomiaaaDoorMem
import Derived.Test.YtkdhldhbjomiaaaDoorMore
import Derived.Test.YtkdhldhbjomiaaaDoorPkListPlain
import Derived.BigQuiet
namespace Go.Proofs.YtkdhldhbjomiaaaDoor
open Go.RowKit ND



/-- What Check asks of a span behind a span that ends at last. -/
def okOne (lo hi last : Int) (s : Sp) : Bool := decide (last < s.1 ∧ s.1 ≤ s.2.1 ∧ s.2.1 ≤ 1114111 ∧ lo ≤ s.1 ∧ s.2.1 ≤ hi)
theorem okS_go {lo hi last : Int} {xs : List Sp} {k : Nat} {s : Sp} {R : Bool} (hx : xs[k]? = some s) (h : okS lo hi last (xs.drop k) = R) (h1 : okOne lo hi last s = true) : okS lo hi s.2.1 (xs.drop (k + 1)) = R := by
  rw [drop_of_get hx, okS] at h
  unfold okOne at h1
  rw [h1, Bool.true_and] at h
  exact h
theorem okS_no {lo hi last : Int} {xs : List Sp} {k : Nat} {s : Sp} {R : Bool} (hx : xs[k]? = some s) (h : okS lo hi last (xs.drop k) = R) (h1 : okOne lo hi last s = false) : R = false := by
  rw [drop_of_get hx, okS] at h
  unfold okOne at h1
  rw [h1, Bool.false_and] at h
  exact h.symm
theorem okS_end {lo hi last : Int} {xs : List Sp} {k : Nat} {R : Bool} (hk : xs.length ≤ k) (h : okS lo hi last (xs.drop k) = R) : R = true := by
  rw [List.drop_eq_nil_of_le hk] at h; exact h.symm

/-- The five ways through the tests of one span. -/
theorem okOne_ways {lo hi last f t v : Int} : (okOne lo hi last (f, t, v) = true ∧ decide (f ≤ last) = false ∧ decide (t < f) = false ∧ decide (1114111 < t) = false ∧ decide (f < lo) = false ∧ decide (hi < t) = false) ∨
    (okOne lo hi last (f, t, v) = false ∧ (decide (f ≤ last) = true ∨ decide (f ≤ last) = false ∧ decide (t < f) = true ∨ decide (f ≤ last) = false ∧ decide (t < f) = false ∧ decide (1114111 < t) = true ∨
      decide (f ≤ last) = false ∧ decide (t < f) = false ∧ decide (1114111 < t) = false ∧ decide (f < lo) = true ∨ decide (f ≤ last) = false ∧ decide (t < f) = false ∧ decide (1114111 < t) = false ∧ decide (f < lo) = false ∧ decide (hi < t) = true)) := by
  unfold okOne
  simp only [decide_eq_true_eq, decide_eq_false_iff_not]
  omega

set_option maxRecDepth 100000 in
set_option maxHeartbeats 1000000 in
theorem check_any (v : Value) (xs : List Sp) (lo hi : Int) (w : World) (hv : Spans w w.heap.size v xs) :
    Calls Tryd.prog 101 #[v, .int .i64 lo, .int .i64 hi] w fun e w' => e = .returned (.bool (checkS xs lo hi)) ∧ Below w.heap.size w w' := by
  obtain ⟨A, c, rfl, hc1, hc2, _, hcell⟩ := hv
  have HC := Lib.hid hcell; clear hcell
  have hl : xs.length ≤ 9223372036854775807 := by unfold maxLen at hc2; omega
  clear hc2 hc1
  obtain ⟨R, hR⟩ : ∃ R, R = okS lo hi (-1) xs := ⟨_, rfl⟩
  have hck : checkS xs lo hi = (R && decide (xs.length ≤ 256)) := by rw [hR]; rfl
  rw [hck]
  have HR : Hid (okS lo hi (-1) (xs.drop 0) = R) := Lib.hid hR.symm
  clear hR hck
  go_enter Tryd.func101, Tryd.ntmps101
  go_wp2_with fail
  go_loopw [7, 12] (fun l i wr => ∃ (k : Nat) (last : Int), k ≤ xs.length ∧ i = .int .i64 k ∧ l = .int .i64 last ∧ Hid (okS lo hi last (xs.drop k) = R) ∧ Below w.heap.size w wr) (fun _ i _ => xs.length - (intOf i).toNat)
  case atStart => exact ⟨0, -1, by omega, rfl, rfl, HR, Below.refl _ _⟩
  case round =>
    obtain ⟨k, last, hk, rfl, rfl, HS, hbel⟩ := hrel
    clear HR
    by_cases hlt : k < xs.length
    · obtain ⟨⟨f, t, x⟩, hxk, _⟩ := get_el hlt
      obtain ⟨ad, rfl, ha, d0, d1, d2⟩ := HC.out k _ hxk
      simp only at d0 d1 d2
      obtain ⟨e0, e1, e2⟩ := span_cells hbel ha d0 d1 d2
      have HX := Lib.hid hxk
      clear d0 d1 d2 hxk ha
      have k0 : (0 : Int) ≤ (k : Int) := by omega
      have k1 : (k : Int) < (xs.length : Int) := by omega
      rcases okOne_ways (lo := lo) (hi := hi) (last := last) (f := f) (t := t) (v := x) with ⟨ho, q0, q1, q2, q3, q4⟩ | ⟨ho, hw⟩
      · have HN := Lib.hid (okS_go HX.out HS.out ho)
        clear ho
        go_wp2_with fail
        go_roundw
        case rel => exact ⟨k + 1, t, by omega, by go_num, rfl, HN, hbel.alloc hbel.size _⟩
        case measure => simp [intOf]; omega
      · have HN := Lib.hid (okS_no HX.out HS.out ho)
        clear ho
        rcases hw with q0 | ⟨q0, q1⟩ | ⟨q0, q1, q2⟩ | ⟨q0, q1, q2, q3⟩ | ⟨q0, q1, q2, q3, q4⟩
        all_goals
          go_wp2_with fail
          go_ret
          rw [HN.out]
          exact ⟨rfl, hbel.alloc hbel.size _⟩
    · have HN := Lib.hid (okS_end (by omega) HS.out)
      go_wp2_with fail
      go_ret
      rw [HN.out]
      exact ⟨by simp; omega, hbel⟩

/-- The ways through the reference's tests of one span. -/
theorem refOne_ways {lo hi last f t v : Int} (hl : -1 ≤ last) : (okOne lo hi last (f, t, v) = true ∧ decide (f < 0) = false ∧ decide (t < f) = false ∧ decide (1114111 < t) = false ∧ decide (f < lo) = false ∧ decide (hi < t) = false ∧ decide (f ≤ last) = false) ∨
    (okOne lo hi last (f, t, v) = false ∧ (decide (f < 0) = true ∨ decide (f < 0) = false ∧ decide (t < f) = true ∨ decide (f < 0) = false ∧ decide (t < f) = false ∧ decide (1114111 < t) = true ∨
      decide (f < 0) = false ∧ decide (t < f) = false ∧ decide (1114111 < t) = false ∧ decide (f < lo) = true ∨ decide (f < 0) = false ∧ decide (t < f) = false ∧ decide (1114111 < t) = false ∧ decide (f < lo) = false ∧ decide (hi < t) = true ∨
      decide (f < 0) = false ∧ decide (t < f) = false ∧ decide (1114111 < t) = false ∧ decide (f < lo) = false ∧ decide (hi < t) = false ∧ decide (f ≤ last) = true)) := by
  unfold okOne
  simp only [decide_eq_true_eq, decide_eq_false_iff_not]
  omega

set_option maxRecDepth 100000 in
set_option maxHeartbeats 1000000 in
theorem refCheck_any (v : Value) (xs : List Sp) (lo hi : Int) (w : World) (hv : Spans w w.heap.size v xs) :
    Calls Tryd.prog 112 #[v, .int .i64 lo, .int .i64 hi] w fun e w' => e = .returned (.bool (checkS xs lo hi)) ∧ Below w.heap.size w w' := by
  obtain ⟨A, c, rfl, hc1, hc2, _, hcell⟩ := hv
  have HC := Lib.hid hcell; clear hcell
  have hl : xs.length ≤ 9223372036854775807 := by unfold maxLen at hc2; omega
  clear hc2 hc1
  obtain ⟨R, hR⟩ : ∃ R, R = okS lo hi (-1) xs := ⟨_, rfl⟩
  have hck : checkS xs lo hi = (R && decide (xs.length ≤ 256)) := by rw [hR]; rfl
  rw [hck]
  have HR : Hid (okS lo hi (-1) (xs.drop 0) = R) := Lib.hid hR.symm
  clear hR hck
  by_cases hbig : 256 < xs.length
  · have hf : decide (xs.length ≤ 256) = false := by rw [decide_eq_false_iff_not]; omega
    rw [hf, Bool.and_false]
    clear hf HR HC
    go_enter Tryd.func112, Tryd.ntmps112
    go_wp2_with fail
    go_ret
    exact ⟨rfl, Below.refl _ _⟩
  · have hf : decide (xs.length ≤ 256) = true := by rw [decide_eq_true_iff]; omega
    rw [hf, Bool.and_true]
    clear hf
    go_enter Tryd.func112, Tryd.ntmps112
    go_wp2_with fail
    go_loopw [14] (fun i wr => ∃ (k : Nat) (last : Int), k ≤ xs.length ∧ i = .int .i64 k ∧ -1 ≤ last ∧ Hid (okS lo hi last (xs.drop k) = R) ∧ Hid ((0 < k → ∃ s, xs[k - 1]? = some s ∧ s.2.1 = last) ∧ (k = 0 → last = -1)) ∧ Below w.heap.size w wr) (fun i _ => xs.length - (intOf i).toNat)
    case atStart => exact ⟨0, -1, by omega, rfl, by omega, HR, Lib.hid ⟨fun h => absurd h (by omega), fun _ => rfl⟩, Below.refl _ _⟩
    case round =>
      obtain ⟨k, last, hk, rfl, hlast, HS, HP, hbel⟩ := hrel
      clear HR
      by_cases hlt : k < xs.length
      · obtain ⟨⟨f, t, x⟩, hxk, _⟩ := get_el hlt
        obtain ⟨ad, rfl, ha, d0, d1, d2⟩ := HC.out k _ hxk
        simp only at d0 d1 d2
        obtain ⟨e0, e1, e2⟩ := span_cells hbel ha d0 d1 d2
        have HX := Lib.hid hxk
        clear d0 d1 d2 hxk
        have k0 : (0 : Int) ≤ (k : Int) := by omega
        have k1 : (k : Int) < (xs.length : Int) := by omega
        have hways := refOne_ways (lo := lo) (hi := hi) (last := last) (f := f) (t := t) (v := x) hlast
        by_cases hk0 : 0 < k
        · obtain ⟨⟨f', t', x'⟩, hj, hjl⟩ := HP.out.1 hk0
          simp only at hjl
          subst hjl
          obtain ⟨ad', h', _, d0, d1, d2⟩ := HC.out _ _ hj
          cases h'
          simp only at d0 d1 d2
          obtain ⟨g0, g1, g2⟩ := span_cells hbel ha d0 d1 d2
          clear d0 d1 d2 hj g0 g2
          obtain ⟨j, rfl⟩ : ∃ j, k = j + 1 := ⟨k - 1, by omega⟩
          rw [Nat.add_sub_cancel] at g1
          have g1' := fun o : Obj => (World.cell?_alloc_lt wr o { block := (ad.add (j * 3)).block, off := (ad.add (j * 3)).off + 1, spot := none } (by have := hbel.size; simp only [block_of_add]; omega)).trans g1
          clear g1
          have hw : IntKind.i64.wrap ((j : Int) + 1 - 1) = (j : Int) := by rw [IntWalk.i64_in _ (by omega)]; omega
          have hwj : IntKind.i64.wrap (j : Int) = (j : Int) := IntWalk.i64_in _ (by omega)
          have j0 : (0 : Int) ≤ (j : Int) := by omega
          have j1 : (j : Int) < (xs.length : Int) := by omega
          have j2 : j < xs.length := by omega
          rcases hways with ⟨ho, q0, q1, q2, q3, q4, q5⟩ | ⟨ho, hw'⟩
          · have ht : -1 ≤ t := by simp only [okOne, decide_eq_true_eq] at ho; omega
            have HN := Lib.hid (okS_go HX.out HS.out ho)
            clear ho
            go_wp2_with fail
            go_quiet (fail)
            go_wp2_with fail
            go_roundw
            case rel => exact ⟨(j + 1) + 1, t, by omega, by go_num, ht, HN, Lib.hid ⟨fun _ => ⟨(f, t, x), by simpa using HX.out, rfl⟩, fun h => absurd h (by omega)⟩, below_drewN (hbel.alloc hbel.size _) nq⟩
            case measure => simp [intOf]; omega
          · have HN := Lib.hid (okS_no HX.out HS.out ho)
            clear ho
            rcases hw' with q0 | ⟨q0, q1⟩ | ⟨q0, q1, q2⟩ | ⟨q0, q1, q2, q3⟩ | ⟨q0, q1, q2, q3, q4⟩ | ⟨q0, q1, q2, q3, q4, q5⟩
            all_goals
              go_wp2_with fail
              go_quiet (fail)
              go_wp2_with fail
              go_ret
              rw [HN.out]
              exact ⟨rfl, below_drewN (hbel.alloc hbel.size _) nq⟩
        · have hl1 := HP.out.2 (by omega)
          subst hl1
          have hz : decide ((0 : Int) < (k : Int)) = false := by rw [decide_eq_false_iff_not]; omega
          clear HP
          rcases hways with ⟨ho, q0, q1, q2, q3, q4, q5⟩ | ⟨ho, hw'⟩
          · have ht : -1 ≤ t := by simp only [okOne, decide_eq_true_eq] at ho; omega
            have HN := Lib.hid (okS_go HX.out HS.out ho)
            clear ho
            go_wp2_with fail
            go_quiet (fail)
            go_wp2_with fail
            go_roundw
            case rel => exact ⟨k + 1, t, by omega, by go_num, ht, HN, Lib.hid ⟨fun _ => ⟨(f, t, x), by simpa using HX.out, rfl⟩, fun h => absurd h (by omega)⟩, below_drewN (hbel.alloc hbel.size _) nq⟩
            case measure => simp [intOf]; omega
          · rw [show (decide (f ≤ -1) = true) = (decide (f < 0) = true) from by simp; omega] at hw'
            have HN := Lib.hid (okS_no HX.out HS.out ho)
            clear ho
            rcases hw' with q0 | ⟨q0, q1⟩ | ⟨q0, q1, q2⟩ | ⟨q0, q1, q2, q3⟩ | ⟨q0, q1, q2, q3, q4⟩ | ⟨q0, _, _, _, _, q5⟩
            rotate_left 5
            · rw [q0] at q5; cases q5
            all_goals
              go_wp2_with fail
              go_quiet (fail)
              go_wp2_with fail
              go_ret
              rw [HN.out]
              exact ⟨rfl, below_drewN (hbel.alloc hbel.size _) nq⟩
      · have HN := Lib.hid (okS_end (by omega) HS.out)
        go_wp2_with fail
        go_ret
        rw [HN.out]
        exact ⟨by simp, hbel⟩
end Go.Proofs.YtkdhldhbjomiaaaDoor
