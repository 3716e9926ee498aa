/-
  Merged texts: lemmas and walks that the last text of this claim leans on.
-/
import Derived.Test.YtikcfoobfobmnaaGreatDoorMgB76
import Derived.Test.YtikcfoobfobmnaaGreatDoorMgB73
import Derived.Shelf.Abstract
import Derived.Test.YtikcfoobfobmnaaGreatDoorMgB71
import Derived.Test.YtikcfoobfobmnaaGreatDoorMgB72
/-
  The walks through table.value and table.find: binary searches over lists in order.
-/
namespace Go.Proofs.YtikcfoobfobmnaaGreatDoor
open Go.RowKit ND

/-- What the closure of value says of a place. -/
def pV (xs : List Sp) (c : Int) (i : Nat) : Bool := match xs[i]? with | some a => decide (c ≤ a.2.1) | none => true
theorem pV_some {xs : List Sp} {c : Int} {i : Nat} {a : Sp} (h : xs[i]? = some a) : pV xs c i = decide (c ≤ a.2.1) := by unfold pV; rw [h]
theorem pV_mono {xs : List Sp} {c lo hi : Int} (hs : okS lo hi (-1) xs = true) (a b : Nat) (hab : a ≤ b) (hb : b < xs.length) (h : pV xs c a = true) : pV xs c b = true := by
  rcases Nat.lt_or_ge a b with hlt | hge
  · have ha : xs[a]? = some (xs[a]'(by omega)) := List.getElem?_eq_getElem (by omega)
    have hb' : xs[b]? = some xs[b] := List.getElem?_eq_getElem hb
    rw [pV_some ha, decide_eq_true_eq] at h
    rw [pV_some hb', decide_eq_true_eq]
    have := okS_at hs hlt ha hb'
    have := okS_el hs hb'
    omega
  · obtain rfl : a = b := by omega
    exact h

theorem cell_new1 (W : World) (v : Value) (t : TypeId) : (W.alloc (.cells #[v] t)).cell? ⟨W.heap.size, 0, none⟩ = some v := by
  rw [cell_of_row _ _ _ _ _ _ (heap_alloc_new W _)]; rfl

set_option maxRecDepth 100000 in
set_option maxHeartbeats 400000 in
theorem valueClos (bl bc : Nat) (A : Option Addr) (cap : Nat) (xs : List Sp) (c : Int) (W : World) (i : Nat) (hi : i < xs.length) (hbl : W.cell? ⟨bl, 0, none⟩ = some (.slice A xs.length cap)) (hbc : W.cell? ⟨bc, 0, none⟩ = some (.int .i64 c)) (hv : Spans W W.heap.size (.slice A xs.length cap) xs) :
    Calls Tryz.prog 115 #[.int .i64 i, .pointer (some ⟨bl, 0, none⟩), .pointer (some ⟨bc, 0, none⟩)] W fun e W' => e = .returned (.bool (pV xs c i)) ∧ Below W.heap.size W W' := by
  obtain ⟨A', c', hA, _, _, _, hcell⟩ := hv
  cases hA
  obtain ⟨⟨f, t, x⟩, hxi, _⟩ := get_el hi
  obtain ⟨ad, rfl, ha, d0, d1, d2⟩ := hcell i _ hxi
  obtain ⟨e0, e1, e2⟩ := span_cells (Below.refl _ _) ha d0 d1 d2
  rw [pV_some hxi]
  simp only at e0 e1 e2 ⊢
  clear d0 d1 d2 hcell hxi e0 e2
  have k0 : (0 : Int) ≤ (i : Int) := by omega
  have k1 : (i : Int) < (xs.length : Int) := by omega
  go_enter Tryz.func115, Tryz.ntmps115
  go_wp2_with fail
  go_quiet (fail)
  go_wp2_with fail
  go_ret
  exact ⟨rfl, below_drewN (Below.refl _ _) nq⟩

set_option maxRecDepth 100000 in
set_option maxHeartbeats 1000000 in
theorem value_any (v : Value) (xs : List Sp) (c lo hi : Int) (w : World) (hv : Spans w w.heap.size v xs) (hs : okS lo hi (-1) xs = true) (hlen : xs.length ≤ 256) :
    Calls Tryz.prog 103 #[v, .int .i64 c] w fun e w' => e = .returned (.int .i64 (valueL xs c)) ∧ Below w.heap.size w w' := by
  have eg := enters_of Tryz.func115 (by kernel_rfl) rfl
  have HV := Lib.hid hv
  obtain ⟨A, cap, rfl, _, _, _, _⟩ := hv
  have hbw : Below w.heap.size w ((w.alloc (.cells #[.slice A xs.length cap] 26)).alloc (.cells #[.int .i64 c] 3)) := ((Below.refl _ _).alloc (Nat.le_refl _) _).alloc (by simp) _
  have hboxes : ∀ W, Below ((w.alloc (.cells #[.slice A xs.length cap] 26)).alloc (.cells #[.int .i64 c] 3)).heap.size ((w.alloc (.cells #[.slice A xs.length cap] 26)).alloc (.cells #[.int .i64 c] 3)) W →
      W.cell? ⟨w.heap.size, 0, none⟩ = some (.slice A xs.length cap) ∧ W.cell? ⟨w.heap.size + 1, 0, none⟩ = some (.int .i64 c) := by
    intro W hb
    have hsz : (w.alloc (.cells #[.slice A xs.length cap] 26)).heap.size = w.heap.size + 1 := by simp
    have h1 := cell_new1 w (.slice A xs.length cap) 26
    have h2 := cell_new1 (w.alloc (.cells #[.slice A xs.length cap] 26)) (.int .i64 c) 3
    rw [hsz] at h2
    have h1' := (World.cell?_alloc_lt (w.alloc (.cells #[.slice A xs.length cap] 26)) (.cells #[.int .i64 c] 3) ⟨w.heap.size, 0, none⟩ (by simp)).trans h1
    exact ⟨(hb.cell (p := ⟨w.heap.size, 0, none⟩) (by simp; omega)).trans h1', (hb.cell (p := ⟨w.heap.size + 1, 0, none⟩) (by simp)).trans h2⟩
  have HB := Lib.hid hboxes
  have HBW := Lib.hid hbw
  clear hboxes hbw
  have HSR := Lib.hid (search_any 115 #[.pointer (some ⟨w.heap.size, 0, none⟩), .pointer (some ⟨w.heap.size + 1, 0, none⟩)] xs.length (pV xs c) ((w.alloc (.cells #[.slice A xs.length cap] 26)).alloc (.cells #[.int .i64 c] 3)) eg (by omega) (by
    intro W i hb hi
    exact valueClos _ _ A cap xs c W i hi (HB.out W hb).1 (HB.out W hb).2 ((HV.out.later HBW.out).later hb)) (pV_mono hs))
  go_enter Tryz.func103, Tryz.ntmps103
  go_wp2_with fail
  refine HSR.out.mono ?_
  rintro e w2 ⟨k, rfl, hk, hlow, hhigh, b2⟩
  obtain ⟨q0, q1⟩ := HB.out w2 b2
  have hv2 := (HV.out.later HBW.out).later b2
  have hbel := HBW.out.trans (b2.mono HBW.out.size)
  have HL : Hid (∀ i a, i < k → xs[i]? = some a → a.2.1 < c) := Lib.hid (fun i a hi ha => by
    have := hlow i hi
    rw [pV_some ha, decide_eq_false_iff_not] at this
    omega)
  clear HSR HB HBW HV b2 hlow eg
  by_cases hkn : k < xs.length
  · obtain ⟨⟨f, t, x⟩, hxk, _⟩ := get_el hkn
    have hct := hhigh hkn
    rw [pV_some hxk, decide_eq_true_eq] at hct
    obtain ⟨A', c', hA, _, _, _, hcell⟩ := hv2
    cases hA
    obtain ⟨ad, rfl, ha, d0, d1, d2⟩ := hcell k _ hxk
    obtain ⟨e0, e1, e2⟩ := span_cells (Below.refl _ w2) ha d0 d1 d2
    simp only at e0 e1 e2 hct
    have HX := Lib.hid hxk
    clear d0 d1 d2 hcell hxk hhigh e1
    have k0 : (0 : Int) ≤ (k : Int) := by omega
    have k1 : (k : Int) < (xs.length : Int) := by omega
    have hb0 : ((k : Int) == (xs.length : Int)) = false := by rw [beq_eq_false_iff_ne]; omega
    by_cases hfc : f ≤ c
    · have hd : decide (c < f) = false := by rw [decide_eq_false_iff_not]; omega
      have HR := Lib.hid (valueL_at HL.out HX.out hfc hct)
      clear hfc hct
      go_wp2_with fail
      go_quiet (fail)
      go_wp2_with fail
      go_ret
      rw [HR.out]
      exact ⟨rfl, below_drewN hbel nq⟩
    · have hd : decide (c < f) = true := by rw [decide_eq_true_iff]; omega
      have HR := Lib.hid (valueL_miss hs HL.out (fun a ha => by rw [HX.out] at ha; cases ha; simp only; omega))
      clear hfc hct
      go_wp2_with fail
      go_quiet (fail)
      go_wp2_with fail
      go_ret
      rw [HR.out]
      exact ⟨rfl, below_drewN hbel nq⟩
  · have hb0 : ((k : Int) == (xs.length : Int)) = true := by rw [beq_iff_eq]; omega
    have HR := Lib.hid (valueL_miss hs HL.out (fun a ha => by have := (List.getElem?_eq_some_iff.1 ha).1; omega))
    clear hhigh hv2
    go_wp2_with fail
    go_quiet (fail)
    go_wp2_with fail
    go_ret
    rw [HR.out]
    exact ⟨rfl, below_drewN hbel nq⟩
end Go.Proofs.YtikcfoobfobmnaaGreatDoor
/-
  The walks through table.find and sort.SearchInts: binary searches over lists in order.
-/
namespace Go.Proofs.YtikcfoobfobmnaaGreatDoor
open Go.RowKit ND

/-- What the closure of find says of a place. -/
def pF (xs : List Mp) (c : Int) (i : Nat) : Bool := match xs[i]? with | some a => decide (c ≤ a.1) | none => true
theorem pF_some {xs : List Mp} {c : Int} {i : Nat} {a : Mp} (h : xs[i]? = some a) : pF xs c i = decide (c ≤ a.1) := by unfold pF; rw [h]
theorem pF_mono {xs : List Mp} {c : Int} (hs : sortM xs) (a b : Nat) (hab : a ≤ b) (hb : b < xs.length) (h : pF xs c a = true) : pF xs c b = true := by
  rcases Nat.lt_or_ge a b with hlt | hge
  · have ha : xs[a]? = some (xs[a]'(by omega)) := List.getElem?_eq_getElem (by omega)
    have hb' : xs[b]? = some xs[b] := List.getElem?_eq_getElem hb
    rw [pF_some ha, decide_eq_true_eq] at h
    rw [pF_some hb', decide_eq_true_eq]
    have := hs a b _ _ hlt ha hb'
    omega
  · obtain rfl : a = b := by omega
    exact h
/-- A sequence comes back: nil, if it is empty. -/
def RetSeq (w : World) (ys : List Int) (e : Ending) (w' : World) : Prop :=
  ∃ v, e = .returned v ∧ Ints w' w'.heap.size .i64 v ys ∧ (ys = [] → v = .slice none 0 0) ∧ Below w.heap.size w w'

set_option maxRecDepth 100000 in
set_option maxHeartbeats 400000 in
theorem findClos (bl bc : Nat) (A : Option Addr) (cap : Nat) (xs : List Mp) (c : Int) (W : World) (i : Nat) (hi : i < xs.length) (hbl : W.cell? ⟨bl, 0, none⟩ = some (.slice A xs.length cap)) (hbc : W.cell? ⟨bc, 0, none⟩ = some (.int .i64 c)) (hv : Mapps W W.heap.size (.slice A xs.length cap) xs) :
    Calls Tryz.prog 105 #[.int .i64 i, .pointer (some ⟨bl, 0, none⟩), .pointer (some ⟨bc, 0, none⟩)] W fun e W' => e = .returned (.bool (pF xs c i)) ∧ Below W.heap.size W W' := by
  obtain ⟨A', c', hA, _, _, _, hcell⟩ := hv
  cases hA
  obtain ⟨⟨f, ys⟩, hxi, _⟩ := get_el hi
  obtain ⟨ad, sv, rfl, ha, d0, d1, _⟩ := hcell i _ hxi
  obtain ⟨e0, e1⟩ := map_cells (Below.refl _ _) ha d0 d1
  rw [pF_some hxi]
  simp only at e0 e1 ⊢
  clear d0 d1 hcell hxi e1
  have k0 : (0 : Int) ≤ (i : Int) := by omega
  have k1 : (i : Int) < (xs.length : Int) := by omega
  go_enter Tryz.func105, Tryz.ntmps105
  go_wp2_with fail
  go_quiet (fail)
  go_wp2_with fail
  go_ret
  exact ⟨rfl, below_drewN (Below.refl _ _) nq⟩

set_option maxRecDepth 100000 in
set_option maxHeartbeats 1000000 in
theorem find_any (v : Value) (xs : List Mp) (c : Int) (w : World) (hv : Mapps w w.heap.size v xs) (hs : sortM xs) (hne : ∀ m ∈ xs, m.2 ≠ []) (hlen : xs.length ≤ 256) :
    Calls Tryz.prog 67 #[v, .int .i64 c] w (RetSeq w (findL xs c)) := by
  have eg := enters_of Tryz.func105 (by kernel_rfl) rfl
  have HV := Lib.hid hv
  obtain ⟨A, cap, rfl, _, _, _, _⟩ := hv
  have hbw : Below w.heap.size w ((w.alloc (.cells #[.slice A xs.length cap] 27)).alloc (.cells #[.int .i64 c] 3)) := ((Below.refl _ _).alloc (Nat.le_refl _) _).alloc (by simp) _
  have hboxes : ∀ W, Below ((w.alloc (.cells #[.slice A xs.length cap] 27)).alloc (.cells #[.int .i64 c] 3)).heap.size ((w.alloc (.cells #[.slice A xs.length cap] 27)).alloc (.cells #[.int .i64 c] 3)) W →
      W.cell? ⟨w.heap.size, 0, none⟩ = some (.slice A xs.length cap) ∧ W.cell? ⟨w.heap.size + 1, 0, none⟩ = some (.int .i64 c) := by
    intro W hb
    have hsz : (w.alloc (.cells #[.slice A xs.length cap] 27)).heap.size = w.heap.size + 1 := by simp
    have h1 := cell_new1 w (.slice A xs.length cap) 27
    have h2 := cell_new1 (w.alloc (.cells #[.slice A xs.length cap] 27)) (.int .i64 c) 3
    rw [hsz] at h2
    have h1' := (World.cell?_alloc_lt (w.alloc (.cells #[.slice A xs.length cap] 27)) (.cells #[.int .i64 c] 3) ⟨w.heap.size, 0, none⟩ (by simp)).trans h1
    exact ⟨(hb.cell (p := ⟨w.heap.size, 0, none⟩) (by simp; omega)).trans h1', (hb.cell (p := ⟨w.heap.size + 1, 0, none⟩) (by simp)).trans h2⟩
  have HB := Lib.hid hboxes
  have HBW := Lib.hid hbw
  clear hboxes hbw
  have HSR := Lib.hid (search_any 105 #[.pointer (some ⟨w.heap.size, 0, none⟩), .pointer (some ⟨w.heap.size + 1, 0, none⟩)] xs.length (pF xs c) ((w.alloc (.cells #[.slice A xs.length cap] 27)).alloc (.cells #[.int .i64 c] 3)) eg (by omega) (by
    intro W i hb hi
    exact findClos _ _ A cap xs c W i hi (HB.out W hb).1 (HB.out W hb).2 ((HV.out.later HBW.out).later hb)) (pF_mono hs))
  go_enter Tryz.func67, Tryz.ntmps67
  go_wp2_with fail
  refine HSR.out.mono ?_
  rintro e w2 ⟨k, rfl, hk, hlow, hhigh, b2⟩
  obtain ⟨q0, q1⟩ := HB.out w2 b2
  have hv2 := (HV.out.later HBW.out).later b2
  have hbel := HBW.out.trans (b2.mono HBW.out.size)
  have HL : Hid (∀ i a, i < k → xs[i]? = some a → a.1 < c) := Lib.hid (fun i a hi ha => by
    have := hlow i hi
    rw [pF_some ha, decide_eq_false_iff_not] at this
    omega)
  clear HSR HB HBW HV b2 hlow eg
  have HS := Lib.hid hs
  clear hs
  by_cases hkn : k < xs.length
  · obtain ⟨⟨f, ys⟩, hxk, hxm⟩ := get_el hkn
    have hct := hhigh hkn
    rw [pF_some hxk, decide_eq_true_eq] at hct
    have hysne := hne _ hxm
    obtain ⟨A', c', hA, _, _, _, hcell⟩ := hv2
    cases hA
    obtain ⟨ad, sv, rfl, ha, d0, d1, hsv⟩ := hcell k _ hxk
    obtain ⟨e0, e1⟩ := map_cells (Below.refl _ w2) ha d0 d1
    simp only at e0 e1 hct hysne hsv
    have HX := Lib.hid hxk
    have HSV := Lib.hid hsv
    have HNE := Lib.hid hysne
    clear d0 d1 hcell hxk hhigh hne hxm hysne hsv
    have k0 : (0 : Int) ≤ (k : Int) := by omega
    have k1 : (k : Int) < (xs.length : Int) := by omega
    have hb0 : ((k : Int) == (xs.length : Int)) = false := by rw [beq_eq_false_iff_ne]; omega
    by_cases hfc : f = c
    · have hd : (f != c) = false := by rw [hfc]; simp
      have HR := Lib.hid (findL_at HL.out HX.out hfc)
      clear hfc hct
      go_wp2_with fail
      go_quiet (fail)
      go_wp2_with fail
      go_ret
      rw [HR.out]
      exact ⟨_, rfl, (HSV.out.below (below_drewN (Below.refl _ w2) nq)).more (Nat.le_refl _), fun h => absurd h HNE.out, below_drewN hbel nq⟩
    · have hd : (f != c) = true := by rw [bne_iff_ne]; exact hfc
      have HR := Lib.hid (findL_miss HS.out HL.out (fun a ha => by rw [HX.out] at ha; cases ha; simp only; omega))
      clear hfc hct
      go_wp2_with fail
      go_quiet (fail)
      go_wp2_with fail
      go_ret
      rw [HR.out]
      exact ⟨_, rfl, Ints.none_, fun _ => rfl, below_drewN hbel nq⟩
  · have hb0 : ((k : Int) == (xs.length : Int)) = true := by rw [beq_iff_eq]; omega
    have HR := Lib.hid (findL_miss HS.out HL.out (fun a ha => by have := (List.getElem?_eq_some_iff.1 ha).1; omega))
    clear hhigh hv2
    go_wp2_with fail
    go_quiet (fail)
    go_wp2_with fail
    go_ret
    rw [HR.out]
    exact ⟨_, rfl, Ints.none_, fun _ => rfl, below_drewN hbel nq⟩
end Go.Proofs.YtikcfoobfobmnaaGreatDoor
/-
  The walks through the small functions on code points, of table and of its reference.
-/
namespace Go.Proofs.YtikcfoobfobmnaaGreatDoor
open Go.RowKit ND

set_option maxHeartbeats 400000 in
theorem syl_any (c : Int) (w : World) : Calls Tryz.prog 96 #[.int .i64 c] w fun e w' => e = .returned (.bool (sylB c)) ∧ w = w' := by
  go_enter Tryz.func96, Tryz.ntmps96
  go_wp2
  all_goals go_ret
  all_goals refine ⟨ret_bool (bool_eq ?_), rfl⟩
  all_goals rw [sylB_iff]
  all_goals simp
  all_goals omega
set_option maxHeartbeats 400000 in
theorem jamo_any (c : Int) (w : World) : Calls Tryz.prog 97 #[.int .i64 c] w fun e w' => e = .returned (.bool (jamoB c)) ∧ w = w' := by
  go_enter Tryz.func97, Tryz.ntmps97
  go_wp2
  all_goals go_ret
  all_goals refine ⟨ret_bool (bool_eq ?_), rfl⟩
  all_goals rw [jamoB_iff]
  all_goals simp
  all_goals omega
set_option maxHeartbeats 400000 in
theorem sur_any (c : Int) (w : World) : Calls Tryz.prog 114 #[.int .i64 c] w fun e w' => e = .returned (.bool (surB c)) ∧ w = w' := by
  go_enter Tryz.func114, Tryz.ntmps114
  go_wp2
  all_goals go_ret
  all_goals refine ⟨ret_bool (bool_eq ?_), rfl⟩
  all_goals rw [surB_iff]
  all_goals simp
  all_goals omega
set_option maxHeartbeats 400000 in
theorem name_any (c : Int) (w : World) : Calls Tryz.prog 93 #[.int .i64 c] w fun e w' => e = .returned (.bool (nameB c)) ∧ w = w' := by
  go_enter Tryz.func93, Tryz.ntmps93
  go_wp2
  all_goals go_ret
  all_goals refine ⟨ret_bool (bool_eq ?_), rfl⟩
  all_goals rw [nameB_iff]
  all_goals simp
  all_goals omega
set_option maxHeartbeats 400000 in
theorem refSyl_any (c : Int) (w : World) : Calls Tryz.prog 52 #[.int .i64 c] w fun e w' => e = .returned (.bool (sylB c)) ∧ w = w' := by
  go_enter Tryz.func52, Tryz.ntmps52
  go_wp2
  all_goals go_ret
  all_goals refine ⟨ret_bool (bool_eq ?_), rfl⟩
  all_goals rw [sylB_iff]
  all_goals simp
  all_goals omega
set_option maxHeartbeats 400000 in
theorem refJamo_any (c : Int) (w : World) : Calls Tryz.prog 83 #[.int .i64 c] w fun e w' => e = .returned (.bool (jamoB c)) ∧ w = w' := by
  go_enter Tryz.func83, Tryz.ntmps83
  go_wp2
  all_goals go_ret
  all_goals refine ⟨ret_bool (bool_eq ?_), rfl⟩
  all_goals rw [jamoB_iff]
  all_goals simp
  all_goals omega
set_option maxHeartbeats 400000 in
theorem latin_any (c : Int) (w : World) : Calls Tryz.prog 80 #[.int .i64 c] w fun e w' => e = .returned (.bool (nameB c)) ∧ w = w' := by
  go_enter Tryz.func80, Tryz.ntmps80
  go_wp2
  all_goals go_ret
  all_goals refine ⟨ret_bool (bool_eq ?_), rfl⟩
  all_goals rw [nameB_iff]
  all_goals simp
  all_goals omega

theorem resB_parts {c : Int} {a b d : Bool} (h1 : surB c = a) (h2 : sylB c = b) (h3 : jamoB c = d) : resB c = (decide (0 ≤ c ∧ c ≤ 127) || a || b || d) := by
  subst h1 h2 h3
  rw [Bool.eq_iff_iff, resB_iff]
  simp only [Bool.or_eq_true, decide_eq_true_eq, surB_iff, sylB_iff, jamoB_iff]
  omega

set_option maxHeartbeats 400000 in
theorem reserved_any (c : Int) (w : World) : Calls Tryz.prog 101 #[.int .i64 c] w fun e w' => e = .returned (.bool (resB c)) ∧ w = w' := by
  have h1 := Lib.hid (fun W => sur_any c W)
  have h2 := Lib.hid (fun W => syl_any c W)
  have h3 := Lib.hid (fun W => jamo_any c W)
  rw [resB_parts rfl rfl rfl]
  generalize surB c = b1 at *
  generalize sylB c = b2 at *
  generalize jamoB c = b3 at *
  rcases show (0 ≤ c ∧ c ≤ 127) ∨ ((c < 0 ∨ 127 < c) ∧ ¬(0 ≤ c ∧ c ≤ 127)) by omega with h | ⟨h, h'⟩
  · have hd : decide (0 ≤ c ∧ c ≤ 127) = true := decide_eq_true h
    rw [hd]
    obtain ⟨y0, y1⟩ := h
    go_enter Tryz.func101, Tryz.ntmps101
    go_wp2_with fail
    go_ret
    exact ⟨by simp, rfl⟩
  · have hd : decide (0 ≤ c ∧ c ≤ 127) = false := decide_eq_false h'
    rw [hd]
    clear h' hd
    rcases h with h | h
    all_goals
      cases b1
      · cases b2
        · go_enter Tryz.func101, Tryz.ntmps101
          go_wp2_with fail
          refine (h1.out _).mono ?_
          rintro e w' ⟨rfl, rfl⟩
          go_wp2_with fail
          refine (h2.out _).mono ?_
          rintro e w' ⟨rfl, rfl⟩
          go_wp2_with fail
          refine (h3.out _).mono ?_
          rintro e w' ⟨rfl, rfl⟩
          go_wp2_with fail
          go_ret
          exact ⟨by simp; try (intro h; omega), rfl⟩
        · go_enter Tryz.func101, Tryz.ntmps101
          go_wp2_with fail
          refine (h1.out _).mono ?_
          rintro e w' ⟨rfl, rfl⟩
          go_wp2_with fail
          refine (h2.out _).mono ?_
          rintro e w' ⟨rfl, rfl⟩
          go_wp2_with fail
          go_ret
          exact ⟨by simp, rfl⟩
      · go_enter Tryz.func101, Tryz.ntmps101
        go_wp2_with fail
        refine (h1.out _).mono ?_
        rintro e w' ⟨rfl, rfl⟩
        go_wp2_with fail
        go_ret
        exact ⟨by simp, rfl⟩

set_option maxHeartbeats 400000 in
theorem refReserved_any (c : Int) (w : World) : Calls Tryz.prog 79 #[.int .i64 c] w fun e w' => e = .returned (.bool (resB c)) ∧ w = w' := by
  have h2 := Lib.hid (fun W => refSyl_any c W)
  have h3 := Lib.hid (fun W => refJamo_any c W)
  rw [resB_parts rfl rfl rfl]
  generalize hb1 : surB c = b1
  generalize sylB c = b2 at *
  generalize jamoB c = b3 at *
  have hs : (b1 = true ∧ 55296 ≤ c ∧ c ≤ 57343) ∨ (b1 = false ∧ (c < 55296 ∨ 57343 < c)) := by
    subst hb1
    unfold surB
    by_cases h : 55296 ≤ c ∧ c ≤ 57343
    · exact .inl ⟨decide_eq_true h, h⟩
    · exact .inr ⟨decide_eq_false h, by omega⟩
  clear hb1
  rcases show (0 ≤ c ∧ c ≤ 127) ∨ ((c < 0 ∨ 127 < c) ∧ ¬(0 ≤ c ∧ c ≤ 127)) by omega with h | ⟨h, h'⟩
  · have hd : decide (0 ≤ c ∧ c ≤ 127) = true := decide_eq_true h
    rw [hd]
    obtain ⟨y0, y1⟩ := h
    go_enter Tryz.func79, Tryz.ntmps79
    go_wp2_with fail
    go_ret
    exact ⟨by simp, rfl⟩
  · have hd : decide (0 ≤ c ∧ c ≤ 127) = false := decide_eq_false h'
    rw [hd]
    clear h' hd
    rcases hs with ⟨rfl, y0, y1⟩ | ⟨rfl, hs⟩
    · have h1 : 127 < c := by omega
      clear h
      go_enter Tryz.func79, Tryz.ntmps79
      go_wp2_with fail
      go_ret
      exact ⟨by simp; try omega, rfl⟩
    · have hw : c < 0 ∨ (127 < c ∧ c < 55296) ∨ 57343 < c := by omega
      clear h hs
      rcases hw with h | ⟨h, hs⟩ | h
      all_goals
        cases b2
        · go_enter Tryz.func79, Tryz.ntmps79
          go_wp2_with fail
          refine (h2.out _).mono ?_
          rintro e w' ⟨rfl, rfl⟩
          go_wp2_with fail
          refine (h3.out _).mono ?_
          rintro e w' ⟨rfl, rfl⟩
          go_wp2_with fail
          go_ret
          exact ⟨by simp; try omega, rfl⟩
        · go_enter Tryz.func79, Tryz.ntmps79
          go_wp2_with fail
          refine (h2.out _).mono ?_
          rintro e w' ⟨rfl, rfl⟩
          go_wp2_with fail
          go_ret
          exact ⟨by simp; try omega, rfl⟩

/-- What a key may be behind another one. -/
def pointB (last c : Int) : Bool := decide (last < c ∧ c ≤ 1114111) && !resB c
set_option maxHeartbeats 400000 in
theorem point_any (last c : Int) (w : World) : Calls Tryz.prog 92 #[.int .i64 last, .int .i64 c] w fun e w' => e = .returned (.bool (pointB last c)) ∧ w = w' := by
  have h1 := Lib.hid (fun W => reserved_any c W)
  unfold pointB
  generalize resB c = b1 at *
  rcases show (last < c ∧ c ≤ 1114111) ∨ (c ≤ last ∧ ¬(last < c ∧ c ≤ 1114111)) ∨ (last < c ∧ 1114111 < c ∧ ¬(last < c ∧ c ≤ 1114111)) by omega with h | ⟨h, h'⟩ | ⟨h, h0, h'⟩
  · have hd : decide (last < c ∧ c ≤ 1114111) = true := decide_eq_true h
    rw [hd]
    clear hd
    obtain ⟨y0, y1⟩ := h
    go_enter Tryz.func92, Tryz.ntmps92
    go_wp2_with fail
    refine (h1.out _).mono ?_
    rintro e w' ⟨rfl, rfl⟩
    go_wp2_with fail
    go_ret
    exact ⟨by simp, rfl⟩
  · have hd : decide (last < c ∧ c ≤ 1114111) = false := decide_eq_false h'
    rw [hd]
    clear hd h'
    go_enter Tryz.func92, Tryz.ntmps92
    go_wp2_with fail
    go_ret
    exact ⟨by simp, rfl⟩
  · have hd : decide (last < c ∧ c ≤ 1114111) = false := decide_eq_false h'
    rw [hd]
    clear hd h'
    go_enter Tryz.func92, Tryz.ntmps92
    go_wp2_with fail
    go_ret
    exact ⟨by simp, rfl⟩
end Go.Proofs.YtikcfoobfobmnaaGreatDoor
/-
  The walks through utf.scalar and utf.Length.
-/
namespace Go.Proofs.YtikcfoobfobmnaaGreatDoor
open Go.RowKit ND

set_option maxHeartbeats 400000 in
theorem scalar_any (c : Int) (w : World) : Calls Tryz.prog 109 #[.int .i64 c] w fun e w' => e = .returned (.bool (scalarB c)) ∧ w = w' := by
  go_enter Tryz.func109, Tryz.ntmps109
  go_wp2
  all_goals go_ret
  all_goals refine ⟨ret_bool (bool_eq ?_), rfl⟩
  all_goals rw [scalarB_iff]
  all_goals simp
  all_goals omega
theorem lenC_no {c : Int} (h : scalarB c = false) : lenC c = 0 := by unfold lenC; rw [h]; rfl
theorem lenC_yes {c : Int} (h : scalarB c = true) : lenC c = if c ≤ 127 then 1 else if c ≤ 2047 then 2 else if c ≤ 65535 then 3 else 4 := by unfold lenC; rw [if_pos h]
set_option maxHeartbeats 400000 in
theorem length_any (c : Int) (w : World) : Calls Tryz.prog 95 #[.int .i64 c] w fun e w' => e = .returned (.int .i64 (lenC c : Int)) ∧ w = w' := by
  cases h : scalarB c
  · have hc := Lib.hid (fun w => scalar_any c w)
    rw [h] at hc
    rw [lenC_no h]
    clear h
    go_enter Tryz.func95, Tryz.ntmps95
    go_wp2_with (go_at_call 109; refine (hc.out _).mono ?_; rintro e w' ⟨rfl, rfl⟩)
    go_ret
    exact ⟨rfl, rfl⟩
  · have hc := Lib.hid (fun w => scalar_any c w)
    rw [h] at hc
    rw [lenC_yes h]
    clear h
    go_enter Tryz.func95, Tryz.ntmps95
    go_wp2_with (go_at_call 109; refine (hc.out _).mono ?_; rintro e w' ⟨rfl, rfl⟩)
    all_goals go_ret
    all_goals refine ⟨ret_int ?_, rfl⟩
    all_goals (repeat (first | rfl | rw [if_pos (by omega)] | rw [if_neg (by omega)]))
end Go.Proofs.YtikcfoobfobmnaaGreatDoor
/-
  The walks through table.fixed, table.pick and the properties of a code point.
-/
namespace Go.Proofs.YtikcfoobfobmnaaGreatDoor
open Go.RowKit ND

def fixV (q : Int × Int × Int × Int) : Value := .agg #[.int .i64 q.1, .int .i64 q.2.1, .int .i64 q.2.2.1, .int .i64 q.2.2.2]

/-- The ways through fixed at a reserved code point. -/
theorem fix_ways (c : Int) (h : resB c = true) :
    (97 ≤ c ∧ c ≤ 122 ∧ fixC c = (1, 0, 3, 1)) ∨ (65 ≤ c ∧ c ≤ 90 ∧ fixC c = (1, 0, 3, 3)) ∨ (48 ≤ c ∧ c ≤ 57 ∧ fixC c = (3, 4, 1, 1)) ∨ (c = 45 ∧ fixC c = (5, 5, 1, 1)) ∨ (c = 46 ∧ fixC c = (5, 6, 1, 1)) ∨ (c = 32 ∧ fixC c = (7, 11, 1, 0)) ∨
    (0 ≤ c ∧ c < 32 ∧ fixC c = (8, 11, 1, 0)) ∨ (c = 127 ∧ fixC c = (8, 11, 1, 0)) ∨
    (c < 127 ∧ 32 < c ∧ (c == 45) = false ∧ (c == 46) = false ∧ (c < 48 ∨ 57 < c ∧ c < 65 ∨ 90 < c ∧ c < 97 ∨ 122 < c) ∧ fixC c = (5, 8, 1, 0)) ∨
    (44032 ≤ c ∧ sylB c = true ∧ fixC c = (1, 0, 9, 1)) ∨ (128 ≤ c ∧ sylB c = false ∧ jamoB c = true ∧ fixC c = (1, 0, 9, 0)) ∨ (55296 ≤ c ∧ sylB c = false ∧ jamoB c = false ∧ fixC c = (0, 0, 0, 0)) := by
  have h' := (resB_iff c).1 h
  have e1 : (sylB c = true ↔ 44032 ≤ c ∧ c ≤ 55203) := sylB_iff c
  have e2 := jamoB_iff c
  have e1' : sylB c = false ↔ ¬(44032 ≤ c ∧ c ≤ 55203) := by rw [← e1]; simp
  have e2' : jamoB c = false ↔ ¬(4352 ≤ c ∧ c ≤ 4370 ∨ 4449 ≤ c ∧ c ≤ 4469 ∨ 4520 ≤ c ∧ c ≤ 4546) := by rw [← e2]; simp
  rw [e1, e1', e2, e2', beq_eq_false_iff_ne, beq_eq_false_iff_ne]
  unfold fixC
  by_cases a1 : 97 ≤ c ∧ c ≤ 122
  · exact .inl ⟨a1.1, a1.2, if_pos a1⟩
  rw [if_neg a1]
  by_cases a2 : 65 ≤ c ∧ c ≤ 90
  · exact .inr (.inl ⟨a2.1, a2.2, if_pos a2⟩)
  rw [if_neg a2]
  by_cases a3 : 48 ≤ c ∧ c ≤ 57
  · exact .inr (.inr (.inl ⟨a3.1, a3.2, if_pos a3⟩))
  rw [if_neg a3]
  by_cases a4 : c = 45
  · exact .inr (.inr (.inr (.inl ⟨a4, if_pos a4⟩)))
  rw [if_neg a4]
  by_cases a5 : c = 46
  · exact .inr (.inr (.inr (.inr (.inl ⟨a5, if_pos a5⟩))))
  rw [if_neg a5]
  by_cases a6 : c = 32
  · exact .inr (.inr (.inr (.inr (.inr (.inl ⟨a6, if_pos a6⟩)))))
  rw [if_neg a6]
  by_cases a7 : c < 32 ∨ c = 127
  · rw [if_pos a7]
    rcases a7 with a7 | a7
    · exact .inr (.inr (.inr (.inr (.inr (.inr (.inl ⟨by omega, a7, rfl⟩))))))
    · exact .inr (.inr (.inr (.inr (.inr (.inr (.inr (.inl ⟨a7, rfl⟩)))))))
  rw [if_neg a7]
  by_cases a8 : c < 127
  · rw [if_pos a8]
    exact .inr (.inr (.inr (.inr (.inr (.inr (.inr (.inr (.inl ⟨a8, by omega, a4, a5, by omega, rfl⟩))))))))
  rw [if_neg a8]
  by_cases a9 : 44032 ≤ c ∧ c ≤ 55203
  · rw [if_pos a9]
    exact .inr (.inr (.inr (.inr (.inr (.inr (.inr (.inr (.inr (.inl ⟨a9.1, a9, rfl⟩)))))))))
  rw [if_neg a9]
  by_cases a10 : 4352 ≤ c ∧ c ≤ 4370 ∨ 4449 ≤ c ∧ c ≤ 4469 ∨ 4520 ≤ c ∧ c ≤ 4546
  · rw [if_pos a10]
    exact .inr (.inr (.inr (.inr (.inr (.inr (.inr (.inr (.inr (.inr (.inl ⟨by omega, a9, a10, rfl⟩))))))))))
  rw [if_neg a10]
  exact .inr (.inr (.inr (.inr (.inr (.inr (.inr (.inr (.inr (.inr (.inr ⟨by omega, a9, a10, rfl⟩))))))))))

set_option maxRecDepth 100000 in
set_option maxHeartbeats 1000000 in
theorem fixed_any (c : Int) (h : resB c = true) (w : World) : Calls Tryz.prog 102 #[.int .i64 c] w fun e w' => e = .returned (fixV (fixC c)) ∧ Below w.heap.size w w' := by
  have h1 := Lib.hid (fun W => syl_any c W)
  have h2 := Lib.hid (fun W => jamo_any c W)
  have hb := ((Below.refl w.heap.size w).alloc (Nat.le_refl _) (.cells #[.int .i64 0, .int .i64 0, .int .i64 0, .int .i64 0] 91))
  rcases fix_ways c h with ⟨y0, y1, hf⟩ | ⟨y0, y1, hf⟩ | ⟨y0, y1, hf⟩ | ⟨rfl, hf⟩ | ⟨rfl, hf⟩ | ⟨rfl, hf⟩ | ⟨y0, y1, hf⟩ | ⟨rfl, hf⟩ | ⟨y0, y1, y2, y3, y4, hf⟩ | ⟨y0, y1, hf⟩ | ⟨y0, y1, y2, hf⟩ | ⟨y0, y1, y2, hf⟩
  · rw [hf]
    clear hf h
    go_enter Tryz.func102, Tryz.ntmps102
    go_wp2_with fail
    refine bodyPost_ret (v := .agg #[.int .i64 1, .int .i64 0, .int .i64 3, .int .i64 1]) (by simp [results, Tryz.results102, go_sem]) rfl ⟨rfl, ?_⟩
    repeat (first | exact Below.refl _ _ | refine Below.setCell ?_ (by simp) _ | refine Below.alloc ?_ (by simp) _)
  · rw [hf]
    clear hf h
    go_enter Tryz.func102, Tryz.ntmps102
    go_wp2_with fail
    refine bodyPost_ret (v := .agg #[.int .i64 1, .int .i64 0, .int .i64 3, .int .i64 3]) (by simp [results, Tryz.results102, go_sem]) rfl ⟨rfl, ?_⟩
    repeat (first | exact Below.refl _ _ | refine Below.setCell ?_ (by simp) _ | refine Below.alloc ?_ (by simp) _)
  · rw [hf]
    clear hf h
    go_enter Tryz.func102, Tryz.ntmps102
    go_wp2_with fail
    refine bodyPost_ret (v := .agg #[.int .i64 3, .int .i64 4, .int .i64 1, .int .i64 1]) (by simp [results, Tryz.results102, go_sem]) rfl ⟨rfl, ?_⟩
    repeat (first | exact Below.refl _ _ | refine Below.setCell ?_ (by simp) _ | refine Below.alloc ?_ (by simp) _)
  · rw [hf]
    clear hf h
    go_enter Tryz.func102, Tryz.ntmps102
    go_wp2_with fail
    refine bodyPost_ret (v := .agg #[.int .i64 5, .int .i64 5, .int .i64 1, .int .i64 1]) (by simp [results, Tryz.results102, go_sem]) rfl ⟨rfl, ?_⟩
    repeat (first | exact Below.refl _ _ | refine Below.setCell ?_ (by simp) _ | refine Below.alloc ?_ (by simp) _)
  · rw [hf]
    clear hf h
    go_enter Tryz.func102, Tryz.ntmps102
    go_wp2_with fail
    refine bodyPost_ret (v := .agg #[.int .i64 5, .int .i64 6, .int .i64 1, .int .i64 1]) (by simp [results, Tryz.results102, go_sem]) rfl ⟨rfl, ?_⟩
    repeat (first | exact Below.refl _ _ | refine Below.setCell ?_ (by simp) _ | refine Below.alloc ?_ (by simp) _)
  · rw [hf]
    clear hf h
    go_enter Tryz.func102, Tryz.ntmps102
    go_wp2_with fail
    refine bodyPost_ret (v := .agg #[.int .i64 7, .int .i64 11, .int .i64 1, .int .i64 0]) (by simp [results, Tryz.results102, go_sem]) rfl ⟨rfl, ?_⟩
    repeat (first | exact Below.refl _ _ | refine Below.setCell ?_ (by simp) _ | refine Below.alloc ?_ (by simp) _)
  · rw [hf]
    clear hf h
    go_enter Tryz.func102, Tryz.ntmps102
    go_wp2_with fail
    refine bodyPost_ret (v := .agg #[.int .i64 8, .int .i64 11, .int .i64 1, .int .i64 0]) (by simp [results, Tryz.results102, go_sem]) rfl ⟨rfl, ?_⟩
    repeat (first | exact Below.refl _ _ | refine Below.setCell ?_ (by simp) _ | refine Below.alloc ?_ (by simp) _)
  · rw [hf]
    clear hf h
    go_enter Tryz.func102, Tryz.ntmps102
    go_wp2_with fail
    refine bodyPost_ret (v := .agg #[.int .i64 8, .int .i64 11, .int .i64 1, .int .i64 0]) (by simp [results, Tryz.results102, go_sem]) rfl ⟨rfl, ?_⟩
    repeat (first | exact Below.refl _ _ | refine Below.setCell ?_ (by simp) _ | refine Below.alloc ?_ (by simp) _)
  · rw [hf]
    clear hf h
    have q3 : (c == 32) = false := by rw [beq_eq_false_iff_ne]; omega
    have q4 : (c == 127) = false := by rw [beq_eq_false_iff_ne]; omega
    rcases y4 with y4 | ⟨y4, y5⟩ | ⟨y4, y5⟩ | y4
    all_goals
      go_enter Tryz.func102, Tryz.ntmps102
      go_wp2_with fail
      refine bodyPost_ret (v := .agg #[.int .i64 5, .int .i64 8, .int .i64 1, .int .i64 0]) (by simp [results, Tryz.results102, go_sem]) rfl ⟨rfl, ?_⟩
      repeat (first | exact Below.refl _ _ | refine Below.setCell ?_ (by simp) _ | refine Below.alloc ?_ (by simp) _)
  · rw [hf]
    clear hf h
    have q1 : (c == 45) = false := by rw [beq_eq_false_iff_ne]; omega
    have q2 : (c == 46) = false := by rw [beq_eq_false_iff_ne]; omega
    have q3 : (c == 32) = false := by rw [beq_eq_false_iff_ne]; omega
    have q4 : (c == 127) = false := by rw [beq_eq_false_iff_ne]; omega
    have h1' := Lib.hid h1.out
    rw [y1] at h1'
    clear y1
    go_enter Tryz.func102, Tryz.ntmps102
    go_wp2_with fail
    refine (h1'.out _).mono ?_
    rintro e w' ⟨rfl, rfl⟩
    go_wp2_with fail
    refine bodyPost_ret (v := .agg #[.int .i64 1, .int .i64 0, .int .i64 9, .int .i64 1]) (by simp [results, Tryz.results102, go_sem]) rfl ⟨rfl, ?_⟩
    repeat (first | exact Below.refl _ _ | refine Below.setCell ?_ (by simp) _ | refine Below.alloc ?_ (by simp) _)
  · rw [hf]
    clear hf h
    have q1 : (c == 45) = false := by rw [beq_eq_false_iff_ne]; omega
    have q2 : (c == 46) = false := by rw [beq_eq_false_iff_ne]; omega
    have q3 : (c == 32) = false := by rw [beq_eq_false_iff_ne]; omega
    have q4 : (c == 127) = false := by rw [beq_eq_false_iff_ne]; omega
    have h1' := Lib.hid h1.out
    rw [y1] at h1'
    have h2' := Lib.hid h2.out
    rw [y2] at h2'
    clear y1 y2
    go_enter Tryz.func102, Tryz.ntmps102
    go_wp2_with fail
    refine (h1'.out _).mono ?_
    rintro e w' ⟨rfl, rfl⟩
    go_wp2_with fail
    refine (h2'.out _).mono ?_
    rintro e w' ⟨rfl, rfl⟩
    go_wp2_with fail
    refine bodyPost_ret (v := .agg #[.int .i64 1, .int .i64 0, .int .i64 9, .int .i64 0]) (by simp [results, Tryz.results102, go_sem]) rfl ⟨rfl, ?_⟩
    repeat (first | exact Below.refl _ _ | refine Below.setCell ?_ (by simp) _ | refine Below.alloc ?_ (by simp) _)
  · rw [hf]
    clear hf h
    have q1 : (c == 45) = false := by rw [beq_eq_false_iff_ne]; omega
    have q2 : (c == 46) = false := by rw [beq_eq_false_iff_ne]; omega
    have q3 : (c == 32) = false := by rw [beq_eq_false_iff_ne]; omega
    have q4 : (c == 127) = false := by rw [beq_eq_false_iff_ne]; omega
    have h1' := Lib.hid h1.out
    rw [y1] at h1'
    have h2' := Lib.hid h2.out
    rw [y2] at h2'
    clear y1 y2
    go_enter Tryz.func102, Tryz.ntmps102
    go_wp2_with fail
    refine (h1'.out _).mono ?_
    rintro e w' ⟨rfl, rfl⟩
    go_wp2_with fail
    refine (h2'.out _).mono ?_
    rintro e w' ⟨rfl, rfl⟩
    go_wp2_with fail
    refine bodyPost_ret (v := .agg #[.int .i64 0, .int .i64 0, .int .i64 0, .int .i64 0]) (by simp [results, Tryz.results102, go_sem]) rfl ⟨rfl, ?_⟩
    repeat (first | exact Below.refl _ _ | refine Below.setCell ?_ (by simp) _ | refine Below.alloc ?_ (by simp) _)
end Go.Proofs.YtikcfoobfobmnaaGreatDoor
/-
  Properties out of a list of spans: the walk through table.pick.
-/
namespace Go.Proofs.YtikcfoobfobmnaaGreatDoor
open Go.RowKit ND

theorem propL_zero {l : List Sp} {own c : Int} (h : lenC c = 0) : propL l own c = 0 := by unfold propL; rw [if_pos h]
theorem propL_own {l : List Sp} {own c : Int} (h : lenC c ≠ 0) (h2 : resB c = true) : propL l own c = own := by unfold propL; rw [if_neg h, if_pos h2]
theorem propL_list {l : List Sp} {own c : Int} (h : lenC c ≠ 0) (h2 : resB c = false) : propL l own c = valueL l c := by unfold propL; rw [if_neg h, if_neg (by rw [h2]; simp)]

set_option maxRecDepth 100000 in
set_option maxHeartbeats 1000000 in
theorem pick_prop (g : Nat) (sel : Int × Int × Int × Int → Int) (v : Value) (xs : List Sp) (c lo hi : Int) (w : World) (eg : ∀ args w, (callFunc g args).run Tryz.prog w = .ok (.enter g args) w)
    (hown : ∀ W q, Calls Tryz.prog g #[fixV q] W fun e W' => e = .returned (.int .i64 (sel q)) ∧ Below W.heap.size W W')
    (hv : Spans w w.heap.size v xs) (hs : okS lo hi (-1) xs = true) (hlen : xs.length ≤ 256) :
    Calls Tryz.prog 64 #[v, .int .i64 c, .func (.func g) #[] #[]] w fun e w' => e = .returned (.int .i64 (propL xs (sel (fixC c)) c)) ∧ Below w.heap.size w w' := by
  have HL := Lib.hid (fun W => length_any c W)
  have HRS := Lib.hid (fun W => reserved_any c W)
  have HO := Lib.hid hown
  have HV := Lib.hid (fun W (h : Spans W W.heap.size v xs) => value_any v xs c lo hi W h hs hlen)
  have HW := Lib.hid hv
  clear hown hv hs hlen
  obtain ⟨n, hn⟩ : ∃ n, n = lenC c := ⟨_, rfl⟩
  rw [← hn] at HL
  by_cases h0 : n = 0
  · rw [propL_zero (hn.symm.trans h0)]
    have hb : ((n : Int) == 0) = true := by rw [beq_iff_eq]; omega
    clear hn h0 HO HV HW HRS eg
    go_enter Tryz.func64, Tryz.ntmps64
    go_wp2_with fail
    refine (HL.out _).mono ?_
    rintro e w1 ⟨rfl, rfl⟩
    go_wp2_with fail
    go_ret
    exact ⟨rfl, Below.refl _ _⟩
  · have hb : ((n : Int) == 0) = false := by rw [beq_eq_false_iff_ne]; omega
    have hn0 : lenC c ≠ 0 := by rw [← hn]; exact h0
    clear hn h0
    cases hr : resB c
    · rw [propL_list hn0 hr]
      rw [hr] at HRS
      clear hn0 hr HO eg
      go_enter Tryz.func64, Tryz.ntmps64
      go_wp2_with fail
      refine (HL.out _).mono ?_
      rintro e w1 ⟨rfl, rfl⟩
      go_wp2_with fail
      refine (HRS.out _).mono ?_
      rintro e w1 ⟨rfl, rfl⟩
      go_wp2_with fail
      refine (HV.out _ HW.out).mono ?_
      rintro e w1 ⟨rfl, b1⟩
      go_wp2_with fail
      go_ret
      exact ⟨rfl, b1⟩
    · rw [propL_own hn0 hr]
      have HF := Lib.hid (fun W => fixed_any c hr W)
      rw [hr] at HRS
      generalize fixC c = q at *
      clear hn0 hr HV HW
      go_enter Tryz.func64, Tryz.ntmps64
      go_wp2_with fail
      refine (HL.out _).mono ?_
      rintro e w1 ⟨rfl, rfl⟩
      go_wp2_with fail
      refine (HRS.out _).mono ?_
      rintro e w1 ⟨rfl, rfl⟩
      go_wp2_with fail
      refine (HF.out _).mono ?_
      rintro e w1 ⟨rfl, b1⟩
      have hq : fixV q = fixV q := rfl
      clear hq
      go_wp2_with fail
      refine (HO.out w1 q).mono ?_
      rintro e w2 ⟨rfl, b2⟩
      go_wp2_with fail
      go_ret
      exact ⟨rfl, below_next b1 b2⟩
end Go.Proofs.YtikcfoobfobmnaaGreatDoor
