/-
  The reference's find hands back a value that is known ahead of the call.
-/
import Derived.Test.YtkdhldhbjomiaaaDoorTabRef
namespace Go.Proofs.YtkdhldhbjomiaaaDoor
open Go.RowKit ND

/-- What the reference's find hands back in whatever later world. -/
def RefFindsIn (w : World) (v : Value) (c : Int) (u : Value) : Prop := ∀ W, Below w.heap.size w W → Calls Tryd.prog 47 #[v, .int .i64 c] W fun e W' => e = .returned u ∧ Below W.heap.size W W'

set_option maxRecDepth 100000 in
set_option maxHeartbeats 1000000 in
theorem refFind_v (v : Value) (xs : List Mp) (c : Int) (w : World) (hv : Mapps w w.heap.size v xs) (hs : sortM xs) :
    ∃ u, Ints w w.heap.size .i64 u (findL xs c) ∧ (findL xs c = [] → ∃ A k, u = .slice A 0 k) ∧ RefFindsIn w v c u := by
  obtain ⟨A, cap, rfl, hc1, hc2, _, hcell⟩ := hv
  have hlm : xs.length ≤ 9223372036854775807 := by unfold maxLen at hc2; omega
  clear hc1 hc2
  by_cases hk : ∃ (k0 : Nat) (a : Mp), xs[k0]? = some a ∧ a.1 = c
  · obtain ⟨k0, ⟨f, ys⟩, hx0, hfc⟩ := hk
    simp only at hfc
    subst hfc
    obtain ⟨ad, sv, rfl, ha, d0, d1, hsv⟩ := hcell k0 _ hx0
    simp only at d0 d1 hsv
    have hlow0 : ∀ i a, i < k0 → xs[i]? = some a → a.1 < f := fun i a hi hxi => hs i k0 a (f, ys) hi hxi hx0
    have hfind : findL xs f = ys := findL_at hlow0 hx0 rfl
    rw [hfind]
    obtain ⟨A', c', rfl, _⟩ := id hsv
    refine ⟨_, hsv, fun e => ⟨A', c', by rw [e]; rfl⟩, fun W hW => ?_⟩
    have hk0 : k0 < xs.length := (List.getElem?_eq_some_iff.1 hx0).1
    have HC := Lib.hid hcell
    have HLO := Lib.hid hlow0
    have HD := Lib.hid (And.intro d0 d1)
    clear hcell hsv d0 d1 hfind hx0 hlow0 hs
    go_enter Tryd.func47, Tryd.ntmps47
    go_wp2_with fail
    go_loopw [9] (fun i wr => ∃ (j : Nat), j ≤ k0 ∧ i = .int .i64 j ∧ Below W.heap.size W wr) (fun i _ => k0 + 1 - (intOf i).toNat)
    case atStart => exact ⟨0, by omega, rfl, Below.refl _ _⟩
    case round =>
      obtain ⟨j, hj, rfl, hbel⟩ := hrel
      have hbw : Below w.heap.size w wr := below_next hW hbel
      by_cases hjl : j < k0
      · obtain ⟨⟨g, to⟩, hxj, _⟩ := get_el (xs := xs) (k := j) (by omega)
        obtain ⟨aj, sv, hA, haj, d0, d1, hto⟩ := HC.out j _ hxj
        cases hA
        simp only at d0 d1 hto
        obtain ⟨Aj, cj, rfl, _⟩ := hto
        obtain ⟨e0, e1⟩ := map_cells hbw ha d0 d1
        have hne := HLO.out j _ hjl hxj
        simp only at hne
        have p1 : (g == f) = false := by rw [beq_eq_false_iff_ne]; omega
        clear d0 d1 hxj hne haj
        have r0 : (0 : Int) ≤ (j : Int) := by omega
        have r1 : (j : Int) < (xs.length : Int) := by omega
        go_wp2_with fail
        go_roundw
        case rel => exact ⟨j + 1, by omega, by go_num, hbel.alloc hbel.size _⟩
        case measure => simp [intOf]; omega
      · obtain rfl : j = k0 := by omega
        obtain ⟨e0, e1⟩ := map_cells hbw ha HD.out.1 HD.out.2
        have r0 : (0 : Int) ≤ (j : Int) := by omega
        have r1 : (j : Int) < (xs.length : Int) := by omega
        go_wp2_with fail
        go_ret
        exact ⟨rfl, hbel.alloc hbel.size _⟩
  · have hno : ∀ (i : Nat) (a : Mp), xs[i]? = some a → a.1 ≠ c := fun i a hi e => hk ⟨i, a, hi, e⟩
    have hfind : findL xs c = [] := findL_no hno
    rw [hfind]
    refine ⟨.slice none 0 0, Ints.none_, fun _ => ⟨_, _, rfl⟩, fun W hW => ?_⟩
    have HC := Lib.hid hcell
    have HNO := Lib.hid hno
    clear hcell hno hfind hk hs
    go_enter Tryd.func47, Tryd.ntmps47
    go_wp2_with fail
    go_loopw [9] (fun i wr => ∃ (j : Nat), j ≤ xs.length ∧ i = .int .i64 j ∧ Below W.heap.size W wr) (fun i _ => xs.length - (intOf i).toNat)
    case atStart => exact ⟨0, by omega, rfl, Below.refl _ _⟩
    case round =>
      obtain ⟨j, hj, rfl, hbel⟩ := hrel
      have hbw : Below w.heap.size w wr := below_next hW hbel
      by_cases hjl : j < xs.length
      · obtain ⟨⟨g, to⟩, hxj, _⟩ := get_el hjl
        obtain ⟨aj, sv, rfl, haj, d0, d1, hto⟩ := HC.out j _ hxj
        simp only at d0 d1 hto
        obtain ⟨Aj, cj, rfl, _⟩ := hto
        obtain ⟨e0, e1⟩ := map_cells hbw haj d0 d1
        have hne := HNO.out j _ hxj
        simp only at hne
        have p1 : (g == c) = false := by rw [beq_eq_false_iff_ne]; exact hne
        clear d0 d1 hxj hne haj
        have r0 : (0 : Int) ≤ (j : Int) := by omega
        have r1 : (j : Int) < (xs.length : Int) := by omega
        go_wp2_with fail
        go_roundw
        case rel => exact ⟨j + 1, by omega, by go_num, hbel.alloc hbel.size _⟩
        case measure => simp [intOf]; omega
      · go_wp2_with fail
        go_ret
        exact ⟨rfl, hbel⟩
end Go.Proofs.YtkdhldhbjomiaaaDoor
