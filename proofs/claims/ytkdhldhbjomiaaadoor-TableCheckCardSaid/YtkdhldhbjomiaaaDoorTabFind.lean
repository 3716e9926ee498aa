/-
  The walks through table.value and table.find: binary searches over lists in order.
-/
import Derived.Test.YtkdhldhbjomiaaaDoorSearch
import Derived.Test.YtkdhldhbjomiaaaDoorTabMem
import Derived.Shelf.Abstract
namespace Go.Proofs.YtkdhldhbjomiaaaDoor
open Go.RowKit ND

/-- What the closure of value says of a place. -/
def pV (xs : List Sp) (c : Int) (i : Nat) : Bool := match xs[i]? with | some a => decide (c ≤ a.2.1) | none => true
theorem pV_some {xs : List Sp} {c : Int} {i : Nat} {a : Sp} (h : xs[i]? = some a) : pV xs c i = decide (c ≤ a.2.1) := by unfold pV; rw [h]
theorem pV_mono {xs : List Sp} {c lo hi : Int} (hs : okS lo hi (-1) xs = true) (a b : Nat) (hab : a ≤ b) (hb : b < xs.length) (h : pV xs c a = true) : pV xs c b = true := by
  rcases Nat.lt_or_ge a b with hlt | hge
  · have ha : xs[a]? = some (xs[a]'(by omega)) := List.getElem?_eq_getElem (by omega)
    have hb' : xs[b]? = some xs[b] := List.getElem?_eq_getElem hb
    rw [pV_some ha, decide_eq_true_eq] at h
    rw [pV_some hb', decide_eq_true_eq]
    have := okS_at hs hlt ha hb'
    have := okS_el hs hb'
    omega
  · obtain rfl : a = b := by omega
    exact h

theorem cell_new1 (W : World) (v : Value) (t : TypeId) : (W.alloc (.cells #[v] t)).cell? ⟨W.heap.size, 0, none⟩ = some v := by
  rw [cell_of_row _ _ _ _ _ _ (heap_alloc_new W _)]; rfl

set_option maxRecDepth 100000 in
set_option maxHeartbeats 400000 in
theorem valueClos (bl bc : Nat) (A : Option Addr) (cap : Nat) (xs : List Sp) (c : Int) (W : World) (i : Nat) (hi : i < xs.length) (hbl : W.cell? ⟨bl, 0, none⟩ = some (.slice A xs.length cap)) (hbc : W.cell? ⟨bc, 0, none⟩ = some (.int .i64 c)) (hv : Spans W W.heap.size (.slice A xs.length cap) xs) :
    Calls Tryd.prog 125 #[.int .i64 i, .pointer (some ⟨bl, 0, none⟩), .pointer (some ⟨bc, 0, none⟩)] W fun e W' => e = .returned (.bool (pV xs c i)) ∧ Below W.heap.size W W' := by
  obtain ⟨A', c', hA, _, _, _, hcell⟩ := hv
  cases hA
  obtain ⟨⟨f, t, x⟩, hxi, _⟩ := get_el hi
  obtain ⟨ad, rfl, ha, d0, d1, d2⟩ := hcell i _ hxi
  obtain ⟨e0, e1, e2⟩ := span_cells (Below.refl _ _) ha d0 d1 d2
  rw [pV_some hxi]
  simp only at e0 e1 e2 ⊢
  clear d0 d1 d2 hcell hxi e0 e2
  have k0 : (0 : Int) ≤ (i : Int) := by omega
  have k1 : (i : Int) < (xs.length : Int) := by omega
  go_enter Tryd.func125, Tryd.ntmps125
  go_wp2_with fail
  go_quiet (fail)
  go_wp2_with fail
  go_ret
  exact ⟨rfl, below_drewN (Below.refl _ _) nq⟩

set_option maxRecDepth 100000 in
set_option maxHeartbeats 1000000 in
theorem value_any (v : Value) (xs : List Sp) (c lo hi : Int) (w : World) (hv : Spans w w.heap.size v xs) (hs : okS lo hi (-1) xs = true) (hlen : xs.length ≤ 256) :
    Calls Tryd.prog 80 #[v, .int .i64 c] w fun e w' => e = .returned (.int .i64 (valueL xs c)) ∧ Below w.heap.size w w' := by
  have eg := enters_of Tryd.func125 (by kernel_rfl) rfl
  have HV := Lib.hid hv
  obtain ⟨A, cap, rfl, _, _, _, _⟩ := hv
  have hbw : Below w.heap.size w ((w.alloc (.cells #[.slice A xs.length cap] 22)).alloc (.cells #[.int .i64 c] 3)) := ((Below.refl _ _).alloc (Nat.le_refl _) _).alloc (by simp) _
  have hboxes : ∀ W, Below ((w.alloc (.cells #[.slice A xs.length cap] 22)).alloc (.cells #[.int .i64 c] 3)).heap.size ((w.alloc (.cells #[.slice A xs.length cap] 22)).alloc (.cells #[.int .i64 c] 3)) W →
      W.cell? ⟨w.heap.size, 0, none⟩ = some (.slice A xs.length cap) ∧ W.cell? ⟨w.heap.size + 1, 0, none⟩ = some (.int .i64 c) := by
    intro W hb
    have hsz : (w.alloc (.cells #[.slice A xs.length cap] 22)).heap.size = w.heap.size + 1 := by simp
    have h1 := cell_new1 w (.slice A xs.length cap) 22
    have h2 := cell_new1 (w.alloc (.cells #[.slice A xs.length cap] 22)) (.int .i64 c) 3
    rw [hsz] at h2
    have h1' := (World.cell?_alloc_lt (w.alloc (.cells #[.slice A xs.length cap] 22)) (.cells #[.int .i64 c] 3) ⟨w.heap.size, 0, none⟩ (by simp)).trans h1
    exact ⟨(hb.cell (p := ⟨w.heap.size, 0, none⟩) (by simp; omega)).trans h1', (hb.cell (p := ⟨w.heap.size + 1, 0, none⟩) (by simp)).trans h2⟩
  have HB := Lib.hid hboxes
  have HBW := Lib.hid hbw
  clear hboxes hbw
  have HSR := Lib.hid (search_any 125 #[.pointer (some ⟨w.heap.size, 0, none⟩), .pointer (some ⟨w.heap.size + 1, 0, none⟩)] xs.length (pV xs c) ((w.alloc (.cells #[.slice A xs.length cap] 22)).alloc (.cells #[.int .i64 c] 3)) eg (by omega) (by
    intro W i hb hi
    exact valueClos _ _ A cap xs c W i hi (HB.out W hb).1 (HB.out W hb).2 ((HV.out.later HBW.out).later hb)) (pV_mono hs))
  go_enter Tryd.func80, Tryd.ntmps80
  go_wp2_with fail
  refine HSR.out.mono ?_
  rintro e w2 ⟨k, rfl, hk, hlow, hhigh, b2⟩
  obtain ⟨q0, q1⟩ := HB.out w2 b2
  have hv2 := (HV.out.later HBW.out).later b2
  have hbel := HBW.out.trans (b2.mono HBW.out.size)
  have HL : Hid (∀ i a, i < k → xs[i]? = some a → a.2.1 < c) := Lib.hid (fun i a hi ha => by
    have := hlow i hi
    rw [pV_some ha, decide_eq_false_iff_not] at this
    omega)
  clear HSR HB HBW HV b2 hlow eg
  by_cases hkn : k < xs.length
  · obtain ⟨⟨f, t, x⟩, hxk, _⟩ := get_el hkn
    have hct := hhigh hkn
    rw [pV_some hxk, decide_eq_true_eq] at hct
    obtain ⟨A', c', hA, _, _, _, hcell⟩ := hv2
    cases hA
    obtain ⟨ad, rfl, ha, d0, d1, d2⟩ := hcell k _ hxk
    obtain ⟨e0, e1, e2⟩ := span_cells (Below.refl _ w2) ha d0 d1 d2
    simp only at e0 e1 e2 hct
    have HX := Lib.hid hxk
    clear d0 d1 d2 hcell hxk hhigh e1
    have k0 : (0 : Int) ≤ (k : Int) := by omega
    have k1 : (k : Int) < (xs.length : Int) := by omega
    have hb0 : ((k : Int) == (xs.length : Int)) = false := by rw [beq_eq_false_iff_ne]; omega
    by_cases hfc : f ≤ c
    · have hd : decide (c < f) = false := by rw [decide_eq_false_iff_not]; omega
      have HR := Lib.hid (valueL_at HL.out HX.out hfc hct)
      clear hfc hct
      go_wp2_with fail
      go_quiet (fail)
      go_wp2_with fail
      go_ret
      rw [HR.out]
      exact ⟨rfl, below_drewN hbel nq⟩
    · have hd : decide (c < f) = true := by rw [decide_eq_true_iff]; omega
      have HR := Lib.hid (valueL_miss hs HL.out (fun a ha => by rw [HX.out] at ha; cases ha; simp only; omega))
      clear hfc hct
      go_wp2_with fail
      go_quiet (fail)
      go_wp2_with fail
      go_ret
      rw [HR.out]
      exact ⟨rfl, below_drewN hbel nq⟩
  · have hb0 : ((k : Int) == (xs.length : Int)) = true := by rw [beq_iff_eq]; omega
    have HR := Lib.hid (valueL_miss hs HL.out (fun a ha => by have := (List.getElem?_eq_some_iff.1 ha).1; omega))
    clear hhigh hv2
    go_wp2_with fail
    go_quiet (fail)
    go_wp2_with fail
    go_ret
    rw [HR.out]
    exact ⟨rfl, below_drewN hbel nq⟩
end Go.Proofs.YtkdhldhbjomiaaaDoor
