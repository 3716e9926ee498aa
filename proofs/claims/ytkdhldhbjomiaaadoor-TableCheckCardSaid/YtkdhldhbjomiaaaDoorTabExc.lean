/-
  The walk through sort.SearchInts and table.Excluded.
-/
import Derived.Test.YtkdhldhbjomiaaaDoorTabFind
import Derived.Test.YtkdhldhbjomiaaaDoorTabR1
namespace Go.Proofs.YtkdhldhbjomiaaaDoor
open Go.RowKit ND

def pE (xs : List Int) (c : Int) (i : Nat) : Bool := match xs[i]? with | some a => decide (c ≤ a) | none => true
theorem pE_some {xs : List Int} {c : Int} {i : Nat} {a : Int} (h : xs[i]? = some a) : pE xs c i = decide (c ≤ a) := by unfold pE; rw [h]
theorem asc_at {xs : List Int} (h : xs.Pairwise (· < ·)) {i j : Nat} {a b : Int} (hij : i < j) (ha : xs[i]? = some a) (hb : xs[j]? = some b) : a < b := by
  obtain ⟨hi, rfl⟩ := List.getElem?_eq_some_iff.1 ha
  obtain ⟨hj, rfl⟩ := List.getElem?_eq_some_iff.1 hb
  exact List.pairwise_iff_getElem.1 h i j hi hj hij
theorem pE_mono {xs : List Int} {c : Int} (hs : xs.Pairwise (· < ·)) (a b : Nat) (hab : a ≤ b) (hb : b < xs.length) (h : pE xs c a = true) : pE xs c b = true := by
  rcases Nat.lt_or_ge a b with hlt | hge
  · have ha : xs[a]? = some (xs[a]'(by omega)) := List.getElem?_eq_getElem (by omega)
    have hb' : xs[b]? = some xs[b] := List.getElem?_eq_getElem hb
    rw [pE_some ha, decide_eq_true_eq] at h
    rw [pE_some hb', decide_eq_true_eq]
    have := asc_at hs hlt ha hb'
    omega
  · obtain rfl : a = b := by omega
    exact h
theorem keysB_asc {p : Bool} {l : List Int} : ∀ {last : Int}, keysB p last l = true → l.Pairwise (· < ·) := by
  induction l with
  | nil => intro _ _; exact .nil
  | cons a r ih =>
    intro last h
    rw [keysB, Bool.and_eq_true] at h
    exact List.pairwise_cons.2 ⟨fun c hc => (keysB_at h.2 c hc).1, ih h.2⟩

set_option maxRecDepth 100000 in
set_option maxHeartbeats 400000 in
theorem intsClos (bl bc : Nat) (A : Option Addr) (cap : Nat) (xs : List Int) (c : Int) (W : World) (i : Nat) (hi : i < xs.length) (hbl : W.cell? ⟨bl, 0, none⟩ = some (.slice A xs.length cap)) (hbc : W.cell? ⟨bc, 0, none⟩ = some (.int .i64 c)) (hv : Ints W W.heap.size .i64 (.slice A xs.length cap) xs) :
    Calls Tryd.prog 135 #[.int .i64 i, .pointer (some ⟨bl, 0, none⟩), .pointer (some ⟨bc, 0, none⟩)] W fun e W' => e = .returned (.bool (pE xs c i)) ∧ Below W.heap.size W W' := by
  obtain ⟨A', c', hA, _, _, _, hcell⟩ := hv
  cases hA
  obtain ⟨f, hxi, _⟩ := get_el hi
  obtain ⟨ad, rfl, ha, d0⟩ := hcell i _ hxi
  rw [pE_some hxi]
  clear hcell hxi
  have k0 : (0 : Int) ≤ (i : Int) := by omega
  have k1 : (i : Int) < (xs.length : Int) := by omega
  go_enter Tryd.func135, Tryd.ntmps135
  go_wp2_with fail
  go_quiet (fail)
  go_wp2_with fail
  go_ret
  exact ⟨rfl, below_drewN (Below.refl _ _) nq⟩

set_option maxRecDepth 100000 in
set_option maxHeartbeats 1000000 in
theorem searchInts_any (v : Value) (xs : List Int) (c : Int) (w : World) (hv : Ints w w.heap.size .i64 v xs) (hs : xs.Pairwise (· < ·)) (hlen : xs.length ≤ 256) :
    Calls Tryd.prog 124 #[v, .int .i64 c] w (RetSearch w xs.length (pE xs c)) := by
  have eg := enters_of Tryd.func135 (by kernel_rfl) rfl
  have HV := Lib.hid hv
  obtain ⟨A, cap, rfl, _, _, _, _⟩ := hv
  have hbw : Below w.heap.size w ((w.alloc (.cells #[.slice A xs.length cap] 24)).alloc (.cells #[.int .i64 c] 3)) := ((Below.refl _ _).alloc (Nat.le_refl _) _).alloc (by simp) _
  have hboxes : ∀ W, Below ((w.alloc (.cells #[.slice A xs.length cap] 24)).alloc (.cells #[.int .i64 c] 3)).heap.size ((w.alloc (.cells #[.slice A xs.length cap] 24)).alloc (.cells #[.int .i64 c] 3)) W →
      W.cell? ⟨w.heap.size, 0, none⟩ = some (.slice A xs.length cap) ∧ W.cell? ⟨w.heap.size + 1, 0, none⟩ = some (.int .i64 c) := by
    intro W hb
    have hsz : (w.alloc (.cells #[.slice A xs.length cap] 24)).heap.size = w.heap.size + 1 := by simp
    have h1 := cell_new1 w (.slice A xs.length cap) 24
    have h2 := cell_new1 (w.alloc (.cells #[.slice A xs.length cap] 24)) (.int .i64 c) 3
    rw [hsz] at h2
    have h1' := (World.cell?_alloc_lt (w.alloc (.cells #[.slice A xs.length cap] 24)) (.cells #[.int .i64 c] 3) ⟨w.heap.size, 0, none⟩ (by simp)).trans h1
    exact ⟨(hb.cell (p := ⟨w.heap.size, 0, none⟩) (by simp; omega)).trans h1', (hb.cell (p := ⟨w.heap.size + 1, 0, none⟩) (by simp)).trans h2⟩
  have HB := Lib.hid hboxes
  have HBW := Lib.hid hbw
  clear hboxes hbw
  have HSR := Lib.hid (search_any 135 #[.pointer (some ⟨w.heap.size, 0, none⟩), .pointer (some ⟨w.heap.size + 1, 0, none⟩)] xs.length (pE xs c) ((w.alloc (.cells #[.slice A xs.length cap] 24)).alloc (.cells #[.int .i64 c] 3)) eg (by omega) (by
    intro W i hb hi
    exact intsClos _ _ A cap xs c W i hi (HB.out W hb).1 (HB.out W hb).2 ((HV.out.later HBW.out).later hb)) (pE_mono hs))
  go_enter Tryd.func124, Tryd.ntmps124
  go_wp2_with fail
  refine HSR.out.mono ?_
  rintro e w2 ⟨k, rfl, hk, hlow, hhigh, b2⟩
  have hbel := HBW.out.trans (b2.mono HBW.out.size)
  have HR := Lib.hid (And.intro hlow hhigh)
  clear HSR HB HBW HV b2 hlow hhigh eg
  go_wp2_with fail
  go_ret
  exact ⟨k, rfl, hk, HR.out.1, HR.out.2, hbel⟩

set_option maxRecDepth 100000 in
set_option maxHeartbeats 1000000 in
theorem excluded_any (t : Tv) (T : Tab) (c : Int) (w : World) (ht : TabR w w.heap.size t T) (hs : T.excluded.Pairwise (· < ·)) (hlen : T.excluded.length ≤ 256) :
    Calls Tryd.prog 71 #[t.val, .int .i64 c] w fun e w' => e = .returned (.bool (T.excB c)) ∧ Below w.heap.size w w' := by
  obtain ⟨A0, A1, A2, A3, A4, A5, A6, A7, A8, A9, A10, A11, k0, k1, k2, k3, k4, k5, k6, k7, k8, k9, k10, k11, rfl⟩ := ht.shape
  have hex := ht.r10
  have HR := Lib.hid (fun o : Obj => ht.r10.later ((Below.refl _ _).alloc (Nat.le_refl _) o))
  clear ht
  obtain ⟨R, hR⟩ : ∃ R, R = T.excB c := ⟨_, rfl⟩
  rw [← hR]
  have HRB := Lib.hid hR
  clear hR
  go_enter Tryd.func71, Tryd.ntmps71
  have HSI := Lib.hid (fun W h => searchInts_any (.slice A10 T.excluded.length k10) T.excluded c W h hs hlen)
  have HS := Lib.hid hs
  have HEX := Lib.hid hex
  clear hs hex
  go_wp2_with fail
  have HB0 := Lib.hid (show Blk (w.alloc (.cells #[.slice A0 T.category.length k0, .slice A1 T.cls.length k1, .slice A2 T.joining.length k2, .slice A3 T.bidi.length k3, .slice A4 T.script.length k4, .slice A5 T.status.length k5, .slice A6 T.ignorable.length k6, .slice A7 T.extensions.length k7, .slice A8 T.maps.length k8, .slice A9 T.decomps.length k9, .slice A10 T.excluded.length k10, .slice A11 T.prototypes.length k11] 26)) w.heap.size 26 _ from Blk.new _ _ _)
  refine (HSI.out _ (HR.out _)).mono ?_
  rintro e w2 ⟨k, rfl, hk, hlow, hhigh, b2⟩
  have x10 := (HB0.out.later b2).at_ (i := 10) rfl
  have hbel := below_next ((Below.refl w.heap.size w).alloc (Nat.le_refl _) _) b2
  have HLO := Lib.hid hlow
  have HHI := Lib.hid hhigh
  clear HB0 b2 hlow hhigh HSI HR
  by_cases hkn : k < T.excluded.length
  · obtain ⟨x, hxk, hxm⟩ := get_el hkn
    obtain ⟨A', c', hA, _, _, _, hcell⟩ := HEX.out
    cases hA
    obtain ⟨ad, rfl, ha, d0⟩ := hcell k _ hxk
    have e0 := (hbel.cell (p := ad.add k) (by rw [block_of_add]; exact ha)).trans d0
    have hge := HHI.out hkn
    rw [pE_some hxk, decide_eq_true_eq] at hge
    have s0 : (0 : Int) ≤ (k : Int) := by omega
    have s1 : (k : Int) < (T.excluded.length : Int) := by omega
    by_cases hx : x = c
    · have hr : T.excB c = true := by unfold Tab.excB; rw [decide_eq_true_eq, ← hx]; exact hxm
      have HRR := Lib.hid (HRB.out.trans hr)
      have p1 : (x == c) = true := by rw [beq_iff_eq]; exact hx
      clear hcell d0 ha hxk hxm hge hx hr
      go_wp2_with fail
      go_ret
      rw [HRR.out]
      exact ⟨rfl, hbel⟩
    · have hr : T.excB c = false := by
        unfold Tab.excB
        rw [decide_eq_false_iff_not]
        intro hm
        obtain ⟨i, hi, he⟩ := List.mem_iff_getElem.1 hm
        have hi' : T.excluded[i]? = some c := by rw [List.getElem?_eq_getElem hi, he]
        rcases Nat.lt_trichotomy i k with h | h | h
        · have := HLO.out i h
          rw [pE_some hi', decide_eq_false_iff_not] at this
          omega
        · subst h; rw [hxk] at hi'; cases hi'; exact hx rfl
        · have := asc_at HS.out h hxk hi'
          omega
      have HRR := Lib.hid (HRB.out.trans hr)
      have p1 : (x == c) = false := by rw [beq_eq_false_iff_ne]; exact hx
      clear hcell d0 ha hxk hxm hge hx hr
      go_wp2_with fail
      go_ret
      rw [HRR.out]
      exact ⟨rfl, hbel⟩
  · have hr : T.excB c = false := by
      unfold Tab.excB
      rw [decide_eq_false_iff_not]
      intro hm
      obtain ⟨i, hi, he⟩ := List.mem_iff_getElem.1 hm
      have := HLO.out i (by omega)
      rw [pE_some (show T.excluded[i]? = some c by rw [List.getElem?_eq_getElem hi, he]), decide_eq_false_iff_not] at this
      omega
    have HRR := Lib.hid (HRB.out.trans hr)
    have p1 : ¬ (k : Int) < (T.excluded.length : Int) := by omega
    have p2 : decide (k < T.excluded.length) = false := decide_eq_false hkn
    clear hr hkn
    go_wp2_with fail
    go_ret
    rw [HRR.out]
    exact ⟨rfl, hbel⟩
end Go.Proofs.YtkdhldhbjomiaaaDoor
