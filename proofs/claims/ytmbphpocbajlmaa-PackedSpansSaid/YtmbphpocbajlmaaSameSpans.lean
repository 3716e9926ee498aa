/-
  The walk through keep.Same at spans.
-/
import Derived.Test.YtmbphpocbajlmaaSame
import Derived.Test.YtmbphpocbajlmaaCheck
namespace Go.Proofs.Ytmbphpocbajlmaa
open Go.RowKit ND

theorem same_step_el {α : Type} {xs ys : List α} {k : Nat} {x : α} (h : xs.take k = ys.take k) (hx : xs[k]? = some x) (hy : ys[k]? = some x) : xs.take (k + 1) = ys.take (k + 1) := by
  obtain ⟨a, a'⟩ := List.getElem?_eq_some_iff.1 hx
  obtain ⟨b, b'⟩ := List.getElem?_eq_some_iff.1 hy
  rw [List.take_succ_eq_append_getElem a, List.take_succ_eq_append_getElem b, h, a', b']

set_option maxRecDepth 100000 in
set_option maxHeartbeats 1000000 in
theorem sameSpans_any (v u : Value) (xs ys : List Sp) (w : World) (hv : Spans w w.heap.size v xs) (hu : Spans w w.heap.size u ys) :
    Calls Try.prog 43 #[v, u] w fun e w' => e = .returned (.bool (decide (xs = ys))) ∧ Below w.heap.size w w' := by
  obtain ⟨A, c, rfl, hc1, hc2, _, hcell⟩ := hv
  obtain ⟨A', c', rfl, hc1', hc2', _, hcell'⟩ := hu
  have HC := Lib.hid hcell; clear hcell
  have HC' := Lib.hid hcell'; clear hcell'
  have hl : xs.length ≤ 9223372036854775807 := by unfold maxLen at hc2; omega
  clear hc2 hc2' hc1 hc1'
  by_cases hlen : xs.length = ys.length
  · have hb : ((xs.length : Int) != (ys.length : Int)) = false := by rw [hlen]; simp
    have hl1 : xs.length ≤ ys.length := by omega
    have hl2 : ys.length ≤ xs.length := by omega
    clear hlen
    obtain ⟨R, hR⟩ : ∃ R, R = decide (xs = ys) := ⟨_, rfl⟩
    rw [← hR]
    have HR := Lib.hid hR; clear hR
    go_enter Try.func43, Try.ntmps43
    go_wp2_with fail
    go_loopw [13] (fun i wr => ∃ k : Nat, k ≤ xs.length ∧ i = .int .i64 k ∧ Hid (xs.take k = ys.take k) ∧ Below w.heap.size w wr) (fun i _ => xs.length - (intOf i).toNat)
    case atStart => exact ⟨0, by omega, rfl, Lib.hid (by simp), Below.refl _ _⟩
    case round =>
      obtain ⟨k, hk, rfl, HS, hbel⟩ := hrel
      by_cases hlt : k < xs.length
      · obtain ⟨⟨f, t, x⟩, hxk, _⟩ := get_el hlt
        obtain ⟨⟨f', t', x'⟩, hyk, _⟩ := get_el (show k < ys.length by omega)
        obtain ⟨ad, rfl, ha, d0, d1, d2⟩ := HC.out k _ hxk
        obtain ⟨ad', rfl, ha', d0', d1', d2'⟩ := HC'.out k _ hyk
        simp only at d0 d1 d2 d0' d1' d2'
        obtain ⟨e0, e1, e2⟩ := span_cells hbel ha d0 d1 d2
        obtain ⟨e0', e1', e2'⟩ := span_cells hbel ha' d0' d1' d2'
        have HX := Lib.hid hxk
        have HY := Lib.hid hyk
        clear d0 d1 d2 d0' d1' d2' hxk hyk ha ha'
        have k0 : (0 : Int) ≤ (k : Int) := by omega
        have k1 : (k : Int) < (xs.length : Int) := by omega
        have k2 : (k : Int) < (ys.length : Int) := by omega
        have hways : (f, t, x) = (f', t', x') ∨ ((f, t, x) ≠ (f', t', x') ∧ ((f == f') = false ∨ ((f == f') = true ∧ (t == t') = false) ∨ ((f == f') = true ∧ (t == t') = true ∧ (x == x') = false))) := by
          by_cases h1 : f = f'
          · by_cases h2 : t = t'
            · by_cases h3 : x = x'
              · exact .inl (by rw [h1, h2, h3])
              · exact .inr ⟨fun h => h3 (by injection h with _ h; injection h), .inr (.inr ⟨by simp [h1], by simp [h2], by simp [h3]⟩)⟩
            · exact .inr ⟨fun h => h2 (by injection h with _ h; injection h), .inr (.inl ⟨by simp [h1], by simp [h2]⟩)⟩
          · exact .inr ⟨fun h => h1 (by injection h), .inl (by simp [h1])⟩
        rcases hways with hxy | ⟨hxy, hw⟩
        · have HT := Lib.hid (same_step_el HS.out HX.out (by rw [hxy]; exact HY.out))
          cases hxy
          go_wp2_with fail
          go_quiet (fail)
          go_wp2_with fail
          go_roundw
          case rel => exact ⟨k + 1, by omega, by go_num, HT, below_drewN hbel nq⟩
          case measure => simp [intOf]; omega
        · have HN : Hid (R = false) := by
            refine Lib.hid ?_
            rw [HR.out, decide_eq_false_iff_not]
            rintro rfl
            have := HX.out.symm.trans HY.out
            injection this with this
            exact hxy this
          clear hxy
          rcases hw with q0 | ⟨q0, q1⟩ | ⟨q0, q1, q2⟩
          all_goals
            go_wp2_with fail
            go_quiet (fail)
            go_wp2_with fail
            go_ret
            rw [HN.out]
            exact ⟨rfl, below_drewN hbel nq⟩
      · have HN : Hid (R = true) := by
          refine Lib.hid ?_
          rw [HR.out, decide_eq_true_iff]
          have h := HS.out
          rw [List.take_of_length_le (by omega), List.take_of_length_le (by omega)] at h
          exact h
        go_wp2_with fail
        go_ret
        rw [HN.out]
        exact ⟨rfl, hbel⟩
  · have hb : ((xs.length : Int) != (ys.length : Int)) = true := by rw [bne_iff_ne]; omega
    have hn : decide (xs = ys) = false := by
      rw [decide_eq_false_iff_not]; rintro rfl; exact hlen rfl
    rw [hn]
    clear hn hlen
    go_enter Try.func43, Try.ntmps43
    go_wp2_with fail
    go_ret
    exact ⟨rfl, Below.refl _ _⟩
end Go.Proofs.Ytmbphpocbajlmaa
