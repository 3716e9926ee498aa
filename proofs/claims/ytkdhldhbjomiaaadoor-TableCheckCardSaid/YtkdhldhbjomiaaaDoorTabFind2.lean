/-
  The walks through table.find and sort.SearchInts: binary searches over lists in order.
-/
import Derived.Test.YtkdhldhbjomiaaaDoorTabFind
namespace Go.Proofs.YtkdhldhbjomiaaaDoor
open Go.RowKit ND

/-- What the closure of find says of a place. -/
def pF (xs : List Mp) (c : Int) (i : Nat) : Bool := match xs[i]? with | some a => decide (c ≤ a.1) | none => true
theorem pF_some {xs : List Mp} {c : Int} {i : Nat} {a : Mp} (h : xs[i]? = some a) : pF xs c i = decide (c ≤ a.1) := by unfold pF; rw [h]
theorem pF_mono {xs : List Mp} {c : Int} (hs : sortM xs) (a b : Nat) (hab : a ≤ b) (hb : b < xs.length) (h : pF xs c a = true) : pF xs c b = true := by
  rcases Nat.lt_or_ge a b with hlt | hge
  · have ha : xs[a]? = some (xs[a]'(by omega)) := List.getElem?_eq_getElem (by omega)
    have hb' : xs[b]? = some xs[b] := List.getElem?_eq_getElem hb
    rw [pF_some ha, decide_eq_true_eq] at h
    rw [pF_some hb', decide_eq_true_eq]
    have := hs a b _ _ hlt ha hb'
    omega
  · obtain rfl : a = b := by omega
    exact h
/-- A sequence comes back: nil, if it is empty. -/
def RetSeq (w : World) (ys : List Int) (e : Ending) (w' : World) : Prop :=
  ∃ v, e = .returned v ∧ Ints w' w'.heap.size .i64 v ys ∧ (ys = [] → v = .slice none 0 0) ∧ Below w.heap.size w w'

set_option maxRecDepth 100000 in
set_option maxHeartbeats 400000 in
theorem findClos (bl bc : Nat) (A : Option Addr) (cap : Nat) (xs : List Mp) (c : Int) (W : World) (i : Nat) (hi : i < xs.length) (hbl : W.cell? ⟨bl, 0, none⟩ = some (.slice A xs.length cap)) (hbc : W.cell? ⟨bc, 0, none⟩ = some (.int .i64 c)) (hv : Mapps W W.heap.size (.slice A xs.length cap) xs) :
    Calls Tryd.prog 121 #[.int .i64 i, .pointer (some ⟨bl, 0, none⟩), .pointer (some ⟨bc, 0, none⟩)] W fun e W' => e = .returned (.bool (pF xs c i)) ∧ Below W.heap.size W W' := by
  obtain ⟨A', c', hA, _, _, _, hcell⟩ := hv
  cases hA
  obtain ⟨⟨f, ys⟩, hxi, _⟩ := get_el hi
  obtain ⟨ad, sv, rfl, ha, d0, d1, _⟩ := hcell i _ hxi
  obtain ⟨e0, e1⟩ := map_cells (Below.refl _ _) ha d0 d1
  rw [pF_some hxi]
  simp only at e0 e1 ⊢
  clear d0 d1 hcell hxi e1
  have k0 : (0 : Int) ≤ (i : Int) := by omega
  have k1 : (i : Int) < (xs.length : Int) := by omega
  go_enter Tryd.func121, Tryd.ntmps121
  go_wp2_with fail
  go_quiet (fail)
  go_wp2_with fail
  go_ret
  exact ⟨rfl, below_drewN (Below.refl _ _) nq⟩

set_option maxRecDepth 100000 in
set_option maxHeartbeats 1000000 in
theorem find_any (v : Value) (xs : List Mp) (c : Int) (w : World) (hv : Mapps w w.heap.size v xs) (hs : sortM xs) (hne : ∀ m ∈ xs, m.2 ≠ []) (hlen : xs.length ≤ 256) :
    Calls Tryd.prog 62 #[v, .int .i64 c] w (RetSeq w (findL xs c)) := by
  have eg := enters_of Tryd.func121 (by kernel_rfl) rfl
  have HV := Lib.hid hv
  obtain ⟨A, cap, rfl, _, _, _, _⟩ := hv
  have hbw : Below w.heap.size w ((w.alloc (.cells #[.slice A xs.length cap] 23)).alloc (.cells #[.int .i64 c] 3)) := ((Below.refl _ _).alloc (Nat.le_refl _) _).alloc (by simp) _
  have hboxes : ∀ W, Below ((w.alloc (.cells #[.slice A xs.length cap] 23)).alloc (.cells #[.int .i64 c] 3)).heap.size ((w.alloc (.cells #[.slice A xs.length cap] 23)).alloc (.cells #[.int .i64 c] 3)) W →
      W.cell? ⟨w.heap.size, 0, none⟩ = some (.slice A xs.length cap) ∧ W.cell? ⟨w.heap.size + 1, 0, none⟩ = some (.int .i64 c) := by
    intro W hb
    have hsz : (w.alloc (.cells #[.slice A xs.length cap] 23)).heap.size = w.heap.size + 1 := by simp
    have h1 := cell_new1 w (.slice A xs.length cap) 23
    have h2 := cell_new1 (w.alloc (.cells #[.slice A xs.length cap] 23)) (.int .i64 c) 3
    rw [hsz] at h2
    have h1' := (World.cell?_alloc_lt (w.alloc (.cells #[.slice A xs.length cap] 23)) (.cells #[.int .i64 c] 3) ⟨w.heap.size, 0, none⟩ (by simp)).trans h1
    exact ⟨(hb.cell (p := ⟨w.heap.size, 0, none⟩) (by simp; omega)).trans h1', (hb.cell (p := ⟨w.heap.size + 1, 0, none⟩) (by simp)).trans h2⟩
  have HB := Lib.hid hboxes
  have HBW := Lib.hid hbw
  clear hboxes hbw
  have HSR := Lib.hid (search_any 121 #[.pointer (some ⟨w.heap.size, 0, none⟩), .pointer (some ⟨w.heap.size + 1, 0, none⟩)] xs.length (pF xs c) ((w.alloc (.cells #[.slice A xs.length cap] 23)).alloc (.cells #[.int .i64 c] 3)) eg (by omega) (by
    intro W i hb hi
    exact findClos _ _ A cap xs c W i hi (HB.out W hb).1 (HB.out W hb).2 ((HV.out.later HBW.out).later hb)) (pF_mono hs))
  go_enter Tryd.func62, Tryd.ntmps62
  go_wp2_with fail
  refine HSR.out.mono ?_
  rintro e w2 ⟨k, rfl, hk, hlow, hhigh, b2⟩
  obtain ⟨q0, q1⟩ := HB.out w2 b2
  have hv2 := (HV.out.later HBW.out).later b2
  have hbel := HBW.out.trans (b2.mono HBW.out.size)
  have HL : Hid (∀ i a, i < k → xs[i]? = some a → a.1 < c) := Lib.hid (fun i a hi ha => by
    have := hlow i hi
    rw [pF_some ha, decide_eq_false_iff_not] at this
    omega)
  clear HSR HB HBW HV b2 hlow eg
  have HS := Lib.hid hs
  clear hs
  by_cases hkn : k < xs.length
  · obtain ⟨⟨f, ys⟩, hxk, hxm⟩ := get_el hkn
    have hct := hhigh hkn
    rw [pF_some hxk, decide_eq_true_eq] at hct
    have hysne := hne _ hxm
    obtain ⟨A', c', hA, _, _, _, hcell⟩ := hv2
    cases hA
    obtain ⟨ad, sv, rfl, ha, d0, d1, hsv⟩ := hcell k _ hxk
    obtain ⟨e0, e1⟩ := map_cells (Below.refl _ w2) ha d0 d1
    simp only at e0 e1 hct hysne hsv
    have HX := Lib.hid hxk
    have HSV := Lib.hid hsv
    have HNE := Lib.hid hysne
    clear d0 d1 hcell hxk hhigh hne hxm hysne hsv
    have k0 : (0 : Int) ≤ (k : Int) := by omega
    have k1 : (k : Int) < (xs.length : Int) := by omega
    have hb0 : ((k : Int) == (xs.length : Int)) = false := by rw [beq_eq_false_iff_ne]; omega
    by_cases hfc : f = c
    · have hd : (f != c) = false := by rw [hfc]; simp
      have HR := Lib.hid (findL_at HL.out HX.out hfc)
      clear hfc hct
      go_wp2_with fail
      go_quiet (fail)
      go_wp2_with fail
      go_ret
      rw [HR.out]
      exact ⟨_, rfl, (HSV.out.below (below_drewN (Below.refl _ w2) nq)).more (Nat.le_refl _), fun h => absurd h HNE.out, below_drewN hbel nq⟩
    · have hd : (f != c) = true := by rw [bne_iff_ne]; exact hfc
      have HR := Lib.hid (findL_miss HS.out HL.out (fun a ha => by rw [HX.out] at ha; cases ha; simp only; omega))
      clear hfc hct
      go_wp2_with fail
      go_quiet (fail)
      go_wp2_with fail
      go_ret
      rw [HR.out]
      exact ⟨_, rfl, Ints.none_, fun _ => rfl, below_drewN hbel nq⟩
  · have hb0 : ((k : Int) == (xs.length : Int)) = true := by rw [beq_iff_eq]; omega
    have HR := Lib.hid (findL_miss HS.out HL.out (fun a ha => by have := (List.getElem?_eq_some_iff.1 ha).1; omega))
    clear hhigh hv2
    go_wp2_with fail
    go_quiet (fail)
    go_wp2_with fail
    go_ret
    rw [HR.out]
    exact ⟨_, rfl, Ints.none_, fun _ => rfl, below_drewN hbel nq⟩
end Go.Proofs.YtkdhldhbjomiaaaDoor
