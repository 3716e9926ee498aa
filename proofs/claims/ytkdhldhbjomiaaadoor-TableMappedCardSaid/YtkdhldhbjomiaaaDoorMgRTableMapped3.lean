/-
  Merged texts: lemmas and walks that the last text of this claim leans on.
-/
import Derived.Test.YtkdhldhbjomiaaaDoorMgRTableMapped2
import Derived.Test.YtkdhldhbjomiaaaDoorMgRTableMapped1
import Derived.IntWalk
import Derived.BigQuiet
import Derived.Deep.RegionLaw
import Derived.Deep.AppendLies
import Derived.BigRegion
/-
  The walks through the reference's value, find, Class, Joining, Ignorable, Status, Excluded, and through table.Excluded.
-/
namespace Go.Proofs.YtkdhldhbjomiaaaDoor
open Go.RowKit ND

theorem value_go {l : List Sp} {k : Nat} {s : Sp} {c R : Int} (hx : l[k]? = some s) (h : valueL (l.drop k) c = R) (h1 : ¬(s.1 ≤ c ∧ c ≤ s.2.1)) : valueL (l.drop (k + 1)) c = R := by
  rw [drop_of_get hx, valueL, if_neg h1] at h; exact h
theorem value_hit {l : List Sp} {k : Nat} {s : Sp} {c R : Int} (hx : l[k]? = some s) (h : valueL (l.drop k) c = R) (h1 : s.1 ≤ c ∧ c ≤ s.2.1) : R = s.2.2 := by
  rw [drop_of_get hx, valueL, if_pos h1] at h; exact h.symm
theorem value_end {l : List Sp} {k : Nat} {c R : Int} (hk : l.length ≤ k) (h : valueL (l.drop k) c = R) : R = 0 := by
  rw [List.drop_eq_nil_of_le hk] at h; exact h.symm

set_option maxRecDepth 100000 in
set_option maxHeartbeats 1000000 in
theorem refValue_any (v : Value) (xs : List Sp) (c : Int) (w : World) (hv : Spans w w.heap.size v xs) :
    Calls Tryd.prog 119 #[v, .int .i64 c] w fun e w' => e = .returned (.int .i64 (valueL xs c)) ∧ Below w.heap.size w w' := by
  obtain ⟨A, cp, rfl, hc1, hc2, _, hcell⟩ := hv
  have HC := Lib.hid hcell
  have hlm : xs.length ≤ 9223372036854775807 := by unfold maxLen at hc2; omega
  clear hcell hc1 hc2
  obtain ⟨R, hR⟩ : ∃ R, R = valueL xs c := ⟨_, rfl⟩
  rw [← hR]
  have HR : Hid (valueL (xs.drop 0) c = R) := Lib.hid hR.symm
  clear hR
  go_enter Tryd.func119, Tryd.ntmps119
  go_wp2_with fail
  go_loopw [9] (fun i wr => ∃ (j : Nat), j ≤ xs.length ∧ i = .int .i64 j ∧ Hid (valueL (xs.drop j) c = R) ∧ Below w.heap.size w wr) (fun i _ => xs.length - (intOf i).toNat)
  case atStart => exact ⟨0, by omega, rfl, HR, Below.refl _ _⟩
  case round =>
    obtain ⟨j, hj, rfl, HS, hbel⟩ := hrel
    clear HR
    by_cases hjl : j < xs.length
    · obtain ⟨⟨f, t, x⟩, hxj, _⟩ := get_el hjl
      obtain ⟨aj, rfl, ha, d0, d1, d2⟩ := HC.out j _ hxj
      simp only at d0 d1 d2
      obtain ⟨e0, e1, e2⟩ := span_cells hbel ha d0 d1 d2
      have HX := Lib.hid hxj
      clear d0 d1 d2 hxj ha
      have r0 : (0 : Int) ≤ (j : Int) := by omega
      have r1 : (j : Int) < (xs.length : Int) := by omega
      by_cases h1 : f ≤ c
      · by_cases h2 : c ≤ t
        · have HN := Lib.hid (value_hit HX.out HS.out ⟨h1, h2⟩)
          go_wp2_with fail
          go_ret
          rw [HN.out]
          exact ⟨rfl, hbel.alloc hbel.size _⟩
        · have HN := Lib.hid (value_go HX.out HS.out (fun h => h2 h.2))
          have p1 : decide (c ≤ t) = false := decide_eq_false h2
          clear h2
          go_wp2_with fail
          go_roundw
          case rel => exact ⟨j + 1, by omega, by go_num, HN, hbel.alloc hbel.size _⟩
          case measure => simp [intOf]; omega
      · have HN := Lib.hid (value_go HX.out HS.out (fun h => h1 h.1))
        have p1 : decide (f ≤ c) = false := decide_eq_false h1
        clear h1
        go_wp2_with fail
        go_roundw
        case rel => exact ⟨j + 1, by omega, by go_num, HN, hbel.alloc hbel.size _⟩
        case measure => simp [intOf]; omega
    · have HN := Lib.hid (value_end (by omega) HS.out)
      go_wp2_with fail
      go_ret
      rw [HN.out]
      exact ⟨rfl, hbel⟩

theorem find_go {l : List Mp} {k : Nat} {m : Mp} {c : Int} {R : List Int} (hx : l[k]? = some m) (h : findL (l.drop k) c = R) (h1 : m.1 ≠ c) : findL (l.drop (k + 1)) c = R := by
  rw [drop_of_get hx, findL, if_neg h1] at h; exact h
theorem find_hit {l : List Mp} {k : Nat} {m : Mp} {c : Int} {R : List Int} (hx : l[k]? = some m) (h : findL (l.drop k) c = R) (h1 : m.1 = c) : R = m.2 := by
  rw [drop_of_get hx, findL, if_pos h1] at h; exact h.symm
theorem find_end {l : List Mp} {k : Nat} {c : Int} {R : List Int} (hk : l.length ≤ k) (h : findL (l.drop k) c = R) : R = [] := by
  rw [List.drop_eq_nil_of_le hk] at h; exact h.symm
/-- A sequence comes back. -/
def RetInts (w : World) (ys : List Int) (e : Ending) (w' : World) : Prop := ∃ v, e = .returned v ∧ Ints w' w'.heap.size .i64 v ys ∧ Below w.heap.size w w'

set_option maxRecDepth 100000 in
set_option maxHeartbeats 1000000 in
theorem refFind_any (v : Value) (xs : List Mp) (c : Int) (w : World) (hv : Mapps w w.heap.size v xs) :
    Calls Tryd.prog 47 #[v, .int .i64 c] w (RetInts w (findL xs c)) := by
  obtain ⟨A, cp, rfl, hc1, hc2, _, hcell⟩ := hv
  have HC := Lib.hid hcell
  have hlm : xs.length ≤ 9223372036854775807 := by unfold maxLen at hc2; omega
  clear hcell hc1 hc2
  obtain ⟨R, hR⟩ : ∃ R, R = findL xs c := ⟨_, rfl⟩
  rw [← hR]
  have HR : Hid (findL (xs.drop 0) c = R) := Lib.hid hR.symm
  clear hR
  go_enter Tryd.func47, Tryd.ntmps47
  go_wp2_with fail
  go_loopw [9] (fun i wr => ∃ (j : Nat), j ≤ xs.length ∧ i = .int .i64 j ∧ Hid (findL (xs.drop j) c = R) ∧ Below w.heap.size w wr) (fun i _ => xs.length - (intOf i).toNat)
  case atStart => exact ⟨0, by omega, rfl, HR, Below.refl _ _⟩
  case round =>
    obtain ⟨j, hj, rfl, HS, hbel⟩ := hrel
    clear HR
    by_cases hjl : j < xs.length
    · obtain ⟨⟨f, tg⟩, hxj, _⟩ := get_el hjl
      obtain ⟨aj, sv, rfl, ha, d0, d1, hto⟩ := HC.out j _ hxj
      simp only at d0 d1 hto
      obtain ⟨A', c', rfl, _⟩ := id hto
      obtain ⟨e0, e1⟩ := map_cells hbel ha d0 d1
      have HX := Lib.hid hxj
      have HTO := Lib.hid (((hto.below hbel).more hbel.size).later ((Below.refl _ _).alloc (Nat.le_refl _) (.cells #[.int .i64 f, .slice A' tg.length c'] 54)))
      clear d0 d1 hxj ha hto
      have r0 : (0 : Int) ≤ (j : Int) := by omega
      have r1 : (j : Int) < (xs.length : Int) := by omega
      by_cases h1 : f = c
      · have HN := Lib.hid (find_hit HX.out HS.out h1)
        have p1 : (f == c) = true := by rw [beq_iff_eq]; exact h1
        clear h1
        go_wp2_with fail
        go_ret
        rw [HN.out]
        exact ⟨_, rfl, HTO.out, hbel.alloc hbel.size _⟩
      · have HN := Lib.hid (find_go HX.out HS.out h1)
        have p1 : (f == c) = false := by rw [beq_eq_false_iff_ne]; exact h1
        clear h1 HTO
        go_wp2_with fail
        go_roundw
        case rel => exact ⟨j + 1, by omega, by go_num, HN, hbel.alloc hbel.size _⟩
        case measure => simp [intOf]; omega
    · have HN := Lib.hid (find_end (by omega) HS.out)
      go_wp2_with fail
      go_ret
      rw [HN.out]
      exact ⟨_, rfl, Ints.none_, hbel⟩

set_option maxRecDepth 100000 in
set_option maxHeartbeats 400000 in
theorem refClass_any (t : Tv) (T : Tab) (c : Int) (w : World) (ht : TabR w w.heap.size t T) :
    Calls Tryd.prog 66 #[t.val, .int .i64 c] w fun e w' => e = .returned (.int .i64 (T.classOf c)) ∧ Below w.heap.size w w' := by
  have HR := Lib.hid (fun o : Obj => ht.r1.later ((Below.refl _ _).alloc (Nat.le_refl _) o))
  clear ht
  go_enter Tryd.func66, Tryd.ntmps66
  go_wp2_with fail
  refine (refValue_any t.c1 T.cls c _ (HR.out _)).mono ?_
  rintro e w1 ⟨rfl, b1⟩
  go_wp2_with fail
  go_ret
  exact ⟨rfl, below_next ((Below.refl _ _).alloc (Nat.le_refl _) _) b1⟩

set_option maxRecDepth 100000 in
set_option maxHeartbeats 400000 in
theorem refIgnorable_any (t : Tv) (T : Tab) (c : Int) (w : World) (ht : TabR w w.heap.size t T) :
    Calls Tryd.prog 49 #[t.val, .int .i64 c] w fun e w' => e = .returned (.bool (T.ignB c)) ∧ Below w.heap.size w w' := by
  have HR := Lib.hid (fun o : Obj => ht.r6.later ((Below.refl _ _).alloc (Nat.le_refl _) o))
  clear ht
  go_enter Tryd.func49, Tryd.ntmps49
  go_wp2_with fail
  refine (refValue_any t.c6 T.ignorable c _ (HR.out _)).mono ?_
  rintro e w1 ⟨rfl, b1⟩
  go_wp2_with fail
  go_ret
  exact ⟨rfl, below_next ((Below.refl _ _).alloc (Nat.le_refl _) _) b1⟩

theorem status_ref {T : Tab} (h : GoodS T.status) (c : Int) : T.statusOf c = if nameB c = true ∨ c = 46 ∨ sylB c = true then 1 else if 65 ≤ c ∧ c ≤ 90 then 3 else valueL T.status c := by
  unfold Tab.statusOf
  rw [propL_ref h.1 h.2.2]
  simp only [nameB_iff, sylB_iff]
  have hz : resB c = true → valueL T.status c = 0 := value_res h.2.2
  by_cases hr : resB c = true ∧ surB c = false
  · rw [if_pos hr]
    have h0 := hz hr.1
    obtain ⟨h1, h2⟩ := hr
    rw [resB_iff] at h1
    have h2' : ¬(55296 ≤ c ∧ c ≤ 57343) := by unfold surB at h2; rw [decide_eq_false_iff_not] at h2; exact h2
    clear hz h2
    unfold fixC
    repeat' split
    all_goals try simp only [h0]
    all_goals omega
  · rw [if_neg hr]
    have h1 : ¬(97 ≤ c ∧ c ≤ 122 ∨ 48 ≤ c ∧ c ≤ 57 ∨ c = 45) ∧ c ≠ 46 ∧ ¬(44032 ≤ c ∧ c ≤ 55203) ∧ ¬(65 ≤ c ∧ c ≤ 90) := by
      by_cases hs : surB c = false
      · have hr' : resB c = false := by
          cases hh : resB c
          · rfl
          · exact absurd ⟨hh, hs⟩ hr
        rw [resB_not] at hr'
        omega
      · have hs' : surB c = true := by simpa using hs
        rw [surB_iff] at hs'
        omega
    rw [if_neg (by omega), if_neg h1.2.2.2]

set_option maxRecDepth 100000 in
set_option maxHeartbeats 1000000 in
theorem refStatus_any (t : Tv) (T : Tab) (c : Int) (w : World) (ht : TabR w w.heap.size t T) (hg : GoodS T.status) :
    Calls Tryd.prog 70 #[t.val, .int .i64 c] w fun e w' => e = .returned (.int .i64 (T.statusOf c)) ∧ Below w.heap.size w w' := by
  have HR := Lib.hid (fun o : Obj => ht.r5.later ((Below.refl _ _).alloc (Nat.le_refl _) o))
  have HN := Lib.hid (fun W => latin_any c W)
  have HS := Lib.hid (fun W => refSyl_any c W)
  rw [status_ref hg]
  clear ht hg
  cases hn : nameB c
  · rw [hn] at HN
    by_cases h46 : c = 46
    · subst h46
      rw [if_pos (.inr (.inl rfl))]
      clear hn
      go_enter Tryd.func70, Tryd.ntmps70
      go_wp2_with fail
      refine (HN.out _).mono ?_
      rintro e w1 ⟨rfl, rfl⟩
      go_wp2_with fail
      go_ret
      exact ⟨rfl, (Below.refl _ _).alloc (Nat.le_refl _) _⟩
    · have hb : (c == 46) = false := by rw [beq_eq_false_iff_ne]; exact h46
      cases hs : sylB c
      · rw [hs] at HS
        rw [if_neg (by
          rintro (h | h | h)
          · cases h
          · exact h46 h
          · cases h)]
        by_cases hA : 65 ≤ c ∧ c ≤ 90
        · rw [if_pos hA]
          obtain ⟨a1, a2⟩ := hA
          clear hn hs h46
          go_enter Tryd.func70, Tryd.ntmps70
          go_wp2_with fail
          refine (HN.out _).mono ?_
          rintro e w1 ⟨rfl, rfl⟩
          go_wp2_with fail
          refine (HS.out _).mono ?_
          rintro e w1 ⟨rfl, rfl⟩
          go_wp2_with fail
          go_ret
          exact ⟨rfl, (Below.refl _ _).alloc (Nat.le_refl _) _⟩
        · rw [if_neg hA]
          rcases show c < 65 ∨ (65 ≤ c ∧ 90 < c) by omega with a1 | ⟨a1, a2⟩
          all_goals
            clear hn hs h46 hA
            go_enter Tryd.func70, Tryd.ntmps70
            go_wp2_with fail
            refine (HN.out _).mono ?_
            rintro e w1 ⟨rfl, rfl⟩
            go_wp2_with fail
            refine (HS.out _).mono ?_
            rintro e w1 ⟨rfl, rfl⟩
            go_wp2_with fail
            refine (refValue_any t.c5 T.status c _ (HR.out _)).mono ?_
            rintro e w1 ⟨rfl, b1⟩
            go_wp2_with fail
            go_ret
            exact ⟨rfl, below_next ((Below.refl _ _).alloc (Nat.le_refl _) _) b1⟩
      · rw [hs] at HS
        rw [if_pos (.inr (.inr rfl))]
        clear hn hs h46
        go_enter Tryd.func70, Tryd.ntmps70
        go_wp2_with fail
        refine (HN.out _).mono ?_
        rintro e w1 ⟨rfl, rfl⟩
        go_wp2_with fail
        refine (HS.out _).mono ?_
        rintro e w1 ⟨rfl, rfl⟩
        go_wp2_with fail
        go_ret
        exact ⟨rfl, (Below.refl _ _).alloc (Nat.le_refl _) _⟩
  · rw [hn] at HN
    rw [if_pos (.inl rfl)]
    clear hn
    go_enter Tryd.func70, Tryd.ntmps70
    go_wp2_with fail
    refine (HN.out _).mono ?_
    rintro e w1 ⟨rfl, rfl⟩
    go_wp2_with fail
    go_ret
    exact ⟨rfl, (Below.refl _ _).alloc (Nat.le_refl _) _⟩

theorem mem_go {xs : List Int} {k : Nat} {x c : Int} {R : Bool} (hx : xs[k]? = some x) (h : decide (c ∈ xs.drop k) = R) (h1 : x ≠ c) : decide (c ∈ xs.drop (k + 1)) = R := by
  rw [drop_of_get hx] at h
  rw [← h, decide_eq_decide, List.mem_cons]
  exact ⟨.inr, fun h => h.resolve_left (fun e => h1 e.symm)⟩
theorem mem_hit {xs : List Int} {k : Nat} {x c : Int} {R : Bool} (hx : xs[k]? = some x) (h : decide (c ∈ xs.drop k) = R) (h1 : x = c) : R = true := by
  rw [drop_of_get hx] at h
  rw [← h, decide_eq_true_eq, h1]; exact List.mem_cons_self
theorem mem_end {xs : List Int} {k : Nat} {c : Int} {R : Bool} (hk : xs.length ≤ k) (h : decide (c ∈ xs.drop k) = R) : R = false := by
  rw [List.drop_eq_nil_of_le hk] at h; rw [← h]; rfl

set_option maxRecDepth 100000 in
set_option maxHeartbeats 1000000 in
theorem refExcluded_any (t : Tv) (T : Tab) (c : Int) (w : World) (ht : TabR w w.heap.size t T) :
    Calls Tryd.prog 72 #[t.val, .int .i64 c] w fun e w' => e = .returned (.bool (T.excB c)) ∧ Below w.heap.size w w' := by
  obtain ⟨A0, A1, A2, A3, A4, A5, A6, A7, A8, A9, A10, A11, k0, k1, k2, k3, k4, k5, k6, k7, k8, k9, k10, k11, rfl⟩ := ht.shape
  obtain ⟨A, cp, hA, hc1, hc2, _, hcell⟩ := ht.r10
  cases hA
  have HC := Lib.hid hcell
  have hlm : T.excluded.length ≤ 9223372036854775807 := by unfold maxLen at hc2; omega
  clear hcell hc1 hc2 ht
  obtain ⟨R, hR⟩ : ∃ R, R = T.excB c := ⟨_, rfl⟩
  rw [← hR]
  have HR : Hid (decide (c ∈ T.excluded.drop 0) = R) := Lib.hid hR.symm
  clear hR
  go_enter Tryd.func72, Tryd.ntmps72
  go_wp2_with fail
  go_loop [10] (fun i => ∃ (j : Nat), j ≤ T.excluded.length ∧ i = .int .i64 j ∧ Hid (decide (c ∈ T.excluded.drop j) = R)) (fun i => T.excluded.length - (intOf i).toNat)
  case atStart => exact ⟨0, by omega, rfl, HR⟩
  case round =>
    obtain ⟨j, hj, rfl, HS⟩ := hrel
    clear HR
    by_cases hjl : j < T.excluded.length
    · obtain ⟨x, hxj, _⟩ := get_el hjl
      obtain ⟨aj, rfl, ha, d0⟩ := HC.out j _ hxj
      have e0 := fun o : Obj => (World.cell?_alloc_lt w o (aj.add j) (World.block_lt_of_cell? _ _ d0)).trans d0
      have HX := Lib.hid hxj
      clear hxj ha d0
      have r0 : (0 : Int) ≤ (j : Int) := by omega
      have r1 : (j : Int) < (T.excluded.length : Int) := by omega
      by_cases h1 : x = c
      · have HN := Lib.hid (mem_hit HX.out HS.out h1)
        have p1 : (x == c) = true := by rw [beq_iff_eq]; exact h1
        clear h1
        go_wp2_with fail
        go_ret
        rw [HN.out]
        exact ⟨rfl, (Below.refl _ _).alloc (Nat.le_refl _) _⟩
      · have HN := Lib.hid (mem_go HX.out HS.out h1)
        have p1 : (x == c) = false := by rw [beq_eq_false_iff_ne]; exact h1
        clear h1
        go_wp2_with fail
        go_round
        case rel => exact ⟨j + 1, by omega, by go_num, HN⟩
        case measure => simp [intOf]; omega
    · have HN := Lib.hid (mem_end (by omega) HS.out)
      go_wp2_with fail
      go_ret
      rw [HN.out]
      exact ⟨rfl, (Below.refl _ _).alloc (Nat.le_refl _) _⟩
end Go.Proofs.YtkdhldhbjomiaaaDoor
/-
  Plain law of TableMapped: exactly the code points with the status Mapped are mapped, to permitted ones. No program in sight.
-/
namespace ND
open Go

theorem value_mem {l : List Sp} {c : Int} (h : valueL l c ≠ 0) : ∃ s ∈ l, s.1 ≤ c ∧ c ≤ s.2.1 ∧ valueL l c = s.2.2 := by
  induction l with
  | nil => exact absurd rfl h
  | cons a r ih =>
    rw [valueL] at h ⊢
    by_cases h1 : a.1 ≤ c ∧ c ≤ a.2.1
    · rw [if_pos h1]; exact ⟨a, List.mem_cons_self, h1.1, h1.2, rfl⟩
    · rw [if_neg h1] at h ⊢
      obtain ⟨s, hs, h2⟩ := ih h
      exact ⟨s, List.mem_cons_of_mem _ hs, h2⟩

theorem Made.mapped {T : Tab} (h : Made T) (x : Int) : (T.mapsOf x ≠ [] ↔ T.statusOf x = 3) ∧ ∀ y ∈ T.mapsOf x, T.statusOf y = 1 ∨ T.statusOf y = 4 := by
  have hst := Go.Proofs.YtkdhldhbjomiaaaDoor.status_ref (T := T) h.shape.c5
  have h5 := h.rule5
  unfold Tab.rule5 at h5
  rw [Bool.and_eq_true, List.all_eq_true] at h5
  by_cases hx : 65 ≤ x ∧ x ≤ 90
  · unfold Tab.mapsOf
    rw [if_pos hx]
    refine ⟨⟨fun _ => ?_, fun _ => by simp⟩, fun y hy => ?_⟩
    · rw [hst, if_neg, if_pos hx]
      rw [nameB_iff, sylB_iff]; omega
    · rw [List.mem_singleton] at hy
      subst hy
      rw [hst, if_pos (.inl (by rw [nameB_iff]; omega))]
      exact .inl rfl
  · unfold Tab.mapsOf
    rw [if_neg hx]
    refine ⟨⟨fun hf => ?_, fun hs => ?_⟩, fun y hy => ?_⟩
    · have hm := h5.2 _ (findL_mem hf)
      unfold Tab.mapOk at hm
      rw [Bool.and_eq_true, decide_eq_true_eq] at hm
      exact hm.1
    · rw [hst] at hs
      split at hs
      · cases hs
      · obtain ⟨s, hsm, h1, h2, h3⟩ := value_mem (l := T.status) (c := x) (by omega)
        have he := (h.map.col.2 s hsm).1
        obtain rfl : x = s.1 := by omega
        have hk : s.1 ∈ keysOf T.maps := by
          rw [← h.map.same]
          exact List.mem_map.2 ⟨s, List.mem_filter.2 ⟨hsm, by simpa using (by omega : s.2.2 = 3)⟩, rfl⟩
        obtain ⟨m, hm, hme⟩ := List.mem_map.1 hk
        have hp : (keysOf T.maps).Pairwise (· < ·) := by
          rw [← h.map.same]
          exact ((pool_sort.sublist (List.take_sublist _ _)).sublist h.map.col.1).sublist (List.filter_sublist.map _)
        rw [← hme, find_key hp hm]
        obtain ⟨a, _, hl⟩ := h.map.form m hm
        rcases hl with hl | hl <;> rw [hl] <;> simp
    · have hf : findL T.maps x ≠ [] := fun e => by rw [e] at hy; cases hy
      have hm := h5.2 _ (findL_mem hf)
      unfold Tab.mapOk at hm
      rw [Bool.and_eq_true, List.all_eq_true] at hm
      simpa [okStat] using hm.2 y hy
end ND
/-
  keep.Pick.
-/
namespace Go.Proofs.YtkdhldhbjomiaaaDoor
open Go.RowKit

/-- keep.Pick: from 0 to n - 1. -/
def pick (v n : Int) : Int := v % 18446744073709551616 % n
theorem pick_in (v : Int) {n : Int} (h : 0 < n) : 0 ≤ pick v n ∧ pick v n < n := ⟨Int.emod_nonneg _ (by omega), Int.emod_lt_of_pos _ h⟩

theorem pick_eq {v n : Int} (h0 : 0 < n) (h1 : n < 9223372036854775808) : wrap64 ((IntKind.u64.wrap v).tmod n) = pick v n := by
  have hp := pick_in v h0
  have e : (IntKind.u64.wrap v).tmod n = pick v n := by
    rw [IntKind.wrap_u64, Int.tmod_eq_emod_of_nonneg (by omega)]; rfl
  rw [e, IntWalk.wrap64_in _ ⟨by omega, by omega⟩]

set_option maxHeartbeats 400000 in
theorem pick_any (a b : Int) (w : World) (h0 : 0 < b) (h1 : b < 9223372036854775808) :
    Calls Tryd.prog 16 #[.int .i64 a, .int .i64 b] w fun e w' => e = .returned (.int .i64 (pick a b)) ∧ w = w' := by
  have HP := Lib.hid (pick_eq (v := a) h0 h1)
  go_enter Tryd.func16, Tryd.ntmps16
  go_wp2
  go_ret
  refine ⟨?_, rfl⟩
  show Ending.returned (.int .i64 (wrap64 ((IntKind.u64.wrap a).tmod b))) = _
  rw [HP.out]

end Go.Proofs.YtkdhldhbjomiaaaDoor
/-
  The walks through keep.From and Source.Next.
-/
namespace Go.Proofs.YtkdhldhbjomiaaaDoor
open Go.RowKit ND

/-- The source that lies in block g: the list v, of which xs are the numbers, and how many have been used. -/
def Src (w : World) (g : Nat) (v : Value) (n : Nat) : Prop := ∃ i : Nat, i ≤ n ∧ Blk w g 107 #[v, .int .i64 i]

def RetNext (w : World) (g : Nat) (v : Value) (n : Nat) (m : Int) (e : Ending) (w' : World) : Prop :=
  ∃ r : Int, e = .returned (.int .i64 r) ∧ 0 ≤ r ∧ r < m ∧ Src w' g v n ∧ w.grownBy w' (some g)

set_option maxRecDepth 100000 in
set_option maxHeartbeats 400000 in
theorem from_any (A : Option Addr) (n c : Nat) (w : World) : Calls Tryd.prog 51 #[.slice A n c] w fun e w' => e = .returned (.pointer (some ⟨w.heap.size, 0, none⟩)) ∧ w' = w.alloc (.cells #[.slice A n c, .int .i64 0] 107) := by
  go_enter Tryd.func51, Tryd.ntmps51
  go_wp2_with fail
  go_ret
  exact ⟨rfl, rfl⟩

set_option maxRecDepth 100000 in
set_option maxHeartbeats 400000 in
theorem next_src (w : World) (g : Nat) (v : Value) (xs : List Int) (m : Int) (hv : Ints w g .i64 v xs) (hs : Src w g v xs.length) (h0 : 0 < m) (h1 : m ≤ 1000000) :
    Calls Tryd.prog 52 #[.pointer (some ⟨g, 0, none⟩), .int .i64 m] w (RetNext w g v xs.length m) := by
  obtain ⟨i, hi, hb⟩ := hs
  obtain ⟨A, c, rfl, hc1, hc2, _, hcell⟩ := hv
  have HC := Lib.hid hcell; clear hcell
  have hx : xs.length ≤ 9223372036854775807 := by unfold maxLen at hc2; omega
  have c0 : w.cell? ⟨g, 0, none⟩ = some (.slice A xs.length c) := by rw [hb.cell]; rfl
  have c1 : w.cell? ⟨g, 1, none⟩ = some (.int .i64 i) := by rw [hb.cell]; rfl
  have f1 := hb.free 1
  have HB := Lib.hid hb; clear hb
  by_cases hlt : i < xs.length
  · go_enter Tryd.func52, Tryd.ntmps52
    go_wp2_with fail
    go_quiet (fail)
    go_wp2_with fail
    have hb1 : Blk ((w.drewN nq).setCell ⟨g, 1, none⟩ (.int .i64 (i + 1))) g 107 #[.slice A xs.length c, .int .i64 (i + 1)] :=
      (show Blk (w.drewN nq) g 107 #[.slice A xs.length c, .int .i64 i] from HB.out).put 1 (.int .i64 (i + 1))
    have hbel1 : Below g w ((w.drewN nq).setCell ⟨g, 1, none⟩ (.int .i64 (i + 1))) := (below_drewN (Below.refl g w) nq).setCell (p := ⟨g, 1, none⟩) (Nat.le_refl _) _
    have hgr1 : w.grownBy ((w.drewN nq).setCell ⟨g, 1, none⟩ (.int .i64 (i + 1))) (some g) := grown_setCell (grown_drewN (grown_refl w _) nq) _ _
    generalize (w.drewN nq).setCell ⟨g, 1, none⟩ (.int .i64 ((i : Int) + 1)) = w1 at *
    obtain ⟨x, hxk, _⟩ := get_of hlt
    obtain ⟨ad, rfl, ha, hce⟩ := HC.out i x hxk
    have e1 := (hbel1.cell (p := ad.add i) (by rw [block_of_add]; exact ha)).trans hce
    have d0 : w1.cell? ⟨g, 0, none⟩ = some (.slice (some ad) xs.length c) := by rw [hb1.cell]; rfl
    have d1 : w1.cell? ⟨g, 1, none⟩ = some (.int .i64 (i + 1)) := by rw [hb1.cell]; rfl
    have hw : IntKind.i64.wrap ((i : Int) + 1 - 1) = i := by rw [IntWalk.i64_in _ (by omega)]; omega
    have k0 : (0 : Int) ≤ (i : Int) := by omega
    have k1 : (i : Int) < (xs.length : Int) := by omega
    have HB1 := Lib.hid hb1; clear hb1 HB hce hxk
    have hpk := pick_in x h0
    go_quiet ((go_at_call 16; exact quiet_left (pick_any _ _ _ h0 (by omega))))
    rename_i nq2
    go_wp2_with fail
    go_ret
    exact ⟨_, rfl, hpk.1, hpk.2, ⟨i + 1, by omega, HB1.out⟩, grown_drewN hgr1 _⟩
  · go_enter Tryd.func52, Tryd.ntmps52
    go_wp2_with fail
    go_quiet (fail)
    go_wp2_with fail
    go_ret
    exact ⟨0, rfl, by omega, h0, ⟨i, hi, HB.out⟩, grown_drewN (grown_refl w _) nq⟩
end Go.Proofs.YtkdhldhbjomiaaaDoor
/-
  Worlds in which some blocks are not looked at: readings that lean on the other blocks alone.
-/
namespace Go.Proofs.YtkdhldhbjomiaaaDoor
open Go.RowKit ND

/-- The world, with nothing in the blocks S. -/
def veil (S : List Nat) (w : World) : World := { w with heap := w.heap.mapIdx fun i o => if i ∈ S then .cells #[] 0 (0, 0) else o }
theorem veil_size (S : List Nat) (w : World) : (veil S w).heap.size = w.heap.size := by simp [veil]
theorem veil_at (S : List Nat) (w : World) (k : Nat) (h : k ∉ S) : (veil S w).heap[k]? = w.heap[k]? := by
  simp [veil, Array.getElem?_mapIdx, h]
theorem veil_in (S : List Nat) (w : World) (k : Nat) (h : k ∈ S) (hk : k < w.heap.size) : (veil S w).heap[k]? = some (.cells #[] 0 (0, 0)) := by
  simp [veil, h, hk]
theorem veil_cell {S : List Nat} {w : World} {p : Addr} {v : Value} (h : (veil S w).cell? p = some v) : w.cell? p = some v := by
  by_cases hp : p.block ∈ S
  · exfalso
    have hlt := World.block_lt_of_cell? _ _ h
    rw [veil_size] at hlt
    have := veil_in S w p.block hp hlt
    unfold World.cell? at h
    rw [this] at h
    simp at h
  · have e := veil_at S w p.block hp
    unfold World.cell? at h ⊢
    rw [e] at h
    exact h
/-- What changes the blocks S alone. -/
def onlyIn (S : List Nat) (w w' : World) : Prop := w'.os = w.os ∧ w'.tape = w.tape ∧ w'.output = w.output ∧ w.heap.size ≤ w'.heap.size ∧ ∀ k, k ∉ S → k < w.heap.size → w'.heap[k]? = w.heap[k]?
theorem onlyIn.refl (S : List Nat) (w : World) : onlyIn S w w := ⟨rfl, rfl, rfl, Nat.le_refl _, fun _ _ _ => rfl⟩
theorem onlyIn.trans {S : List Nat} {a b c : World} (h : onlyIn S a b) (k : onlyIn S b c) : onlyIn S a c :=
  ⟨k.1.trans h.1, k.2.1.trans h.2.1, k.2.2.1.trans h.2.2.1, Nat.le_trans h.2.2.2.1 k.2.2.2.1, fun i hi hl => (k.2.2.2.2 i hi (Nat.lt_of_lt_of_le hl h.2.2.2.1)).trans (h.2.2.2.2 i hi hl)⟩
theorem onlyIn.of_below {S : List Nat} {w w' : World} (h : Below w.heap.size w w') : onlyIn S w w' := ⟨h.os, h.tape, h.output, h.size, fun k _ hk => h.block k hk⟩
theorem onlyIn.of_grown {S : List Nat} {w w' : World} {g : Nat} (h : w.grownBy w' (some g)) (hg : g ∈ S) : onlyIn S w w' :=
  ⟨h.os, h.tape, h.output, h.size, fun k hk hl => h.block k hl (fun e => hk (by cases e; exact hg))⟩
theorem onlyIn.of_own {S : List Nat} {w w' : World} {v : Value} (h : w.grownBy w' v.ownBlock) (hg : ∀ g, v.ownBlock = some g → g ∈ S) : onlyIn S w w' :=
  ⟨h.os, h.tape, h.output, h.size, fun k hk hl => h.block k hl (fun e => hk (hg k e.symm))⟩
theorem onlyIn.more {S S' : List Nat} {w w' : World} (h : onlyIn S w w') (hs : ∀ x ∈ S, x ∈ S') : onlyIn S' w w' := ⟨h.1, h.2.1, h.2.2.1, h.2.2.2.1, fun k hk hl => h.2.2.2.2 k (fun hx => hk (hs k hx)) hl⟩
/-- Below a block that lies below all of S. -/
theorem onlyIn.below {S : List Nat} {w w' : World} {B : Nat} (h : onlyIn S w w') (hB : ∀ x ∈ S, B ≤ x) (hs : B ≤ w.heap.size) : Below B w w' :=
  ⟨h.1, h.2.1, h.2.2.1, h.2.2.2.1, fun k hk => h.2.2.2.2 k (fun hx => by have := hB k hx; omega) (Nat.lt_of_lt_of_le hk hs)⟩
theorem onlyIn.veiled {S : List Nat} {w w' : World} (h : onlyIn S w w') : Below (veil S w).heap.size (veil S w) (veil S w') := by
  refine ⟨h.1, h.2.1, h.2.2.1, by rw [veil_size, veil_size]; exact h.2.2.2.1, fun k hk => ?_⟩
  rw [veil_size] at hk
  by_cases hx : k ∈ S
  · rw [veil_in S w k hx hk, veil_in S w' k hx (Nat.lt_of_lt_of_le hk h.2.2.2.1)]
  · rw [veil_at S w k hx, veil_at S w' k hx]; exact h.2.2.2.2 k hx hk
theorem onlyIn.blk {S : List Nat} {w w' : World} {g : Nat} {t : TypeId} {cs : Array Value} (h : onlyIn S w w') (hb : Blk w g t cs) (hg : g ∉ S) : Blk w' g t cs := (h.2.2.2.2 g hg hb.lt).trans hb

section
variable {S : List Nat} {w : World} {B : Nat}
theorem Ints.unveil {k : IntKind} {v : Value} {xs : List Int} (h : Ints (veil S w) B k v xs) : Ints w B k v xs := by
  obtain ⟨A, c, hv, h1, h2, h3, h4⟩ := h
  refine ⟨A, c, hv, h1, h2, h3, fun i x hi => ?_⟩
  obtain ⟨ad, e, hb, hc⟩ := h4 i x hi
  exact ⟨ad, e, hb, veil_cell hc⟩
theorem Spans.unveil {v : Value} {xs : List (Int × Int × Int)} (h : Spans (veil S w) B v xs) : Spans w B v xs := by
  obtain ⟨A, c, hv, h1, h2, h3, h4⟩ := h
  refine ⟨A, c, hv, h1, h2, h3, fun i x hi => ?_⟩
  obtain ⟨ad, e, hb, c0, c1, c2⟩ := h4 i x hi
  exact ⟨ad, e, hb, veil_cell c0, veil_cell c1, veil_cell c2⟩
theorem Mapps.unveil {v : Value} {xs : List Mp} (h : Mapps (veil S w) B v xs) : Mapps w B v xs := by
  obtain ⟨A, c, hv, h1, h2, h3, h4⟩ := h
  refine ⟨A, c, hv, h1, h2, h3, fun i x hi => ?_⟩
  obtain ⟨ad, sv, e, hb, c0, c1, hi'⟩ := h4 i x hi
  exact ⟨ad, sv, e, hb, veil_cell c0, veil_cell c1, hi'.unveil⟩
theorem TabR.unveil {t : Tv} {T : Tab} (h : TabR (veil S w) B t T) : TabR w B t T :=
  ⟨h.r0.unveil, h.r1.unveil, h.r2.unveil, h.r3.unveil, h.r4.unveil, h.r5.unveil, h.r6.unveil, h.r7.unveil, h.r8.unveil, h.r9.unveil, h.r10.unveil, h.r11.unveil⟩
/-- A reading of a block that is not veiled. -/
theorem cell_veil {p : Addr} (hp : p.block ∉ S) : (veil S w).cell? p = w.cell? p := by
  have e := veil_at S w p.block hp
  unfold World.cell?
  rw [e]
theorem Spans.veil_own {base : Nat} {e : TypeId} {v : Value} {xs : List (Int × Int × Int)} (h : w.ownsRow base e 3 v xs.length (xs.flatMap spCells)) (hS : ∀ x ∈ S, x < base) : Spans (veil S w) (veil S w).heap.size v xs := by
  have h1 := Spans.of_own h
  obtain ⟨A, c, hv, h1, h2, h3, h4⟩ := h1
  refine ⟨A, c, hv, h1, h2, h3, fun i x hi => ?_⟩
  obtain ⟨ad, rfl, hb, c0, c1, c2⟩ := h4 i x hi
  have hob : base ≤ ad.block := by
    have hlt := h.lt ad.block
    rcases h.2 with ⟨hv', _⟩ | ⟨g, cap, cur, hv', hbg, _⟩
    · rw [hv] at hv'; cases hv'
    · rw [hv] at hv'; cases hv'; exact hbg
  have hn : ad.block ∉ S := fun hx => by have := hS _ hx; omega
  refine ⟨ad, rfl, by rw [veil_size]; exact hb, ?_, ?_, ?_⟩
  · rw [cell_veil (by rw [block_of_add]; exact hn)]; exact c0
  · rw [cell_veil (by rw [block_of_add]; exact hn)]; exact c1
  · rw [cell_veil (by rw [block_of_add]; exact hn)]; exact c2
end
end Go.Proofs.YtkdhldhbjomiaaaDoor
/-
  The walk through keep.choose.
-/
namespace Go.Proofs.YtkdhldhbjomiaaaDoor
open Go.RowKit ND

def RetChoose (w : World) (g : Nat) (v : Value) (n : Nat) (ys : List Int) (e : Ending) (w' : World) : Prop :=
  ∃ r : Int, e = .returned (.int .i64 r) ∧ r ∈ ys ∧ Src w' g v n ∧ w.grownBy w' (some g)

theorem grown_cell {w w' : World} {g : Nat} {p : Addr} {x : Value} (h : w.grownBy w' (some g)) (hp : p.block ≠ g) (hc : w.cell? p = some x) : w'.cell? p = some x := by
  have hlt := World.block_lt_of_cell? _ _ hc
  have e := h.block p.block hlt (fun e => hp (by cases e; rfl))
  unfold World.cell? at hc ⊢
  rw [e]; exact hc

set_option maxRecDepth 100000 in
set_option maxHeartbeats 1000000 in
theorem choose_any (w : World) (g : Nat) (v : Value) (xs : List Int) (hv : Ints w g .i64 v xs) (hs : Src w g v xs.length) (ys : List Int) (ad : Addr) (c : Nat)
    (hy : ∀ i x, ys[i]? = some x → w.cell? (ad.add i) = some (.int .i64 x)) (hb : ad.block ≠ g) (hl : 0 < ys.length) (hl2 : ys.length ≤ 1000) :
    Calls Tryd.prog 55 #[.pointer (some ⟨g, 0, none⟩), .slice (some ad) ys.length c] w (RetChoose w g v xs.length ys) := by
  have HN : Hid (∀ (W : World) (m : Int), w.grownBy W (some g) → Src W g v xs.length → 0 < m → m ≤ 1000000 → Calls Tryd.prog 52 #[.pointer (some ⟨g, 0, none⟩), .int .i64 m] W (RetNext W g v xs.length m)) := by
    refine Lib.hid fun W m hW hS h0 h1 => next_src W g v xs m ?_ hS h0 h1
    obtain ⟨A, c, hv', h1, h2, h3, h4⟩ := hv
    refine ⟨A, c, hv', h1, h2, h3, fun i x hi => ?_⟩
    obtain ⟨a, e, hb, hc⟩ := h4 i x hi
    exact ⟨a, e, hb, grown_cell hW (by rw [block_of_add]; omega) hc⟩
  have HY : Hid (∀ (W : World), w.grownBy W (some g) → ∀ i x, ys[i]? = some x → W.cell? (ad.add i) = some (.int .i64 x)) := by
    refine Lib.hid fun W hW i x hi => grown_cell hW (by rw [block_of_add]; exact hb) (hy i x hi)
  clear hy hv
  obtain ⟨y0, hy0, hy0m⟩ := get_of hl
  have l0 : (0 : Int) < (ys.length : Int) := by omega
  have l1 : (ys.length : Int) ≤ 1000000 := by omega
  have HS := Lib.hid hs; clear hs
  go_enter Tryd.func55, Tryd.ntmps55
  go_wp2_with (first | (go_at_call 52; refine (HN.out w _ (grown_refl w _) HS.out ?_ ?_).mono ?_; decide; decide; rintro e w1 ⟨r, rfl, r0, r3, hs1, hg1⟩; have c1 : w1.cell? ad = some (.int .i64 y0) := HY.out w1 hg1 0 y0 hy0) | (go_at_call 52; refine (HN.out w1 _ hg1 hs1 l0 l1).mono ?_; rintro e w2 ⟨q, rfl, q0, q1, hs2, hg2⟩; obtain ⟨k, rfl⟩ := Int.eq_ofNat_of_zero_le q0; obtain ⟨x, hx, hxm⟩ := get_of (show k < ys.length by omega); have hg3 := hg1.trans hg2; have c2 := HY.out w2 hg3 k x hx))
  all_goals go_ret
  · exact ⟨y0, rfl, hy0m, hs1, hg1⟩
  · exact ⟨x, rfl, hxm, hs2, hg3⟩
end Go.Proofs.YtkdhldhbjomiaaaDoor
/-
  One integer is appended, at a step of a region that draws its order: a law for go_region_law.
-/
namespace Go.Proofs.YtkdhldhbjomiaaaDoor
open Go.RowKit

theorem step_push_int {P : Program} {ops : Array Oper} {o : Oper} {a : Act} {W w : World} {K : Act → World → Prop} {Q : Exit → Act → World → Prop} {E : Prop} {T e : TypeId} {i0 : TypeInfo} (hgd : o.guard = none) (s x : Operand)
    (ho : o.op = .call { callee := .builtin .append, args := #[s, x], argTypes := #[T, T] }) (ht : P.underlying T = some (.slice e)) (hi : P.info? e = some i0) (hz : i0.zero = some (.int .i64 0)) (h1 : i0.size = 1) (h2 : i0.bytes = 8)
    (v : Value) (acc : List Int) (y : Int) (hs : a.eval s = v) (hown : w.ownsRow W.heap.size e 1 v acc.length (acc.map (Value.int .i64))) (hbel : Below W.heap.size W w) (hx : a.eval x = .slice (some ⟨w.heap.size, 0, none⟩) 1 1) (hl : acc.length ≤ 1000000)
    (h : ∀ v' w', w'.ownsRow W.heap.size e 1 v' (acc ++ [y]).length ((acc ++ [y]).map (Value.int .i64)) → Below W.heap.size W w' → K (a.put o.dst v') w') :
    if Region.wanted o (yielded ops a.tmps) = true then Oper.wp P o a ((w.alloc (.cells #[.int .i64 y] e)).drew) K Q else E := by
  refine step_append_lies _ hgd s x T ho W.heap.size e i0 (.int .i64 0) 1 8 ht hi hz h1 h2 rfl (by omega) v acc.length (acc.map (Value.int .i64)) hs ((hown.alloc _).drew) ⟨w.heap.size, 0, none⟩ 1 1 [.int .i64 y] hx rfl
    (World.news_of_block (cs := #[.int .i64 y]) (t := e) (fr := (0, 0)) (heap_alloc_new w _)) (by simp [Value.oneCell']) (by omega) (by unfold maxLen; omega) (by omega) (by have := hbel.size; simp; omega) _ rfl ?_
  intro g cap w1 hown1 hgrow hat hlt
  refine h _ _ (by simpa using hown1) ?_
  refine ((hbel.alloc hbel.size _).drew).grown hgrow ?_ ?_
  · have := hbel.size; simp; omega
  · intro k hk
    exact (hown.lt k hk).1
end Go.Proofs.YtkdhldhbjomiaaaDoor
/-
  A list of integers is appended to an own row: append(v, u...), u any list that can be read.
-/
namespace Go.Proofs.YtkdhldhbjomiaaaDoor
open Go.RowKit

theorem run_append_none {P : Program} {w : World} {t ty e : TypeId} {i : TypeInfo} (ht : P.underlying t = some (.slice e)) (hi : P.info? e = some i) {base size : Nat} {v : Value} {n : Nat} {xs : List Value} (hown : w.ownsRow base e size v n xs) :
    (Builtin.append_ #[t, t] ty #[v, .slice none 0 0]).run P w = .ok v w := by
  rcases hown.2 with ⟨rfl, _⟩ | ⟨g, cap, cur, rfl, _, _, hnc, _, _, _⟩
  · simp [Builtin.append_, run_underlying ht, sizeOf, typeInfo, hi, Builtin.lenOf, Builtin.firstCells]
  · simp [Builtin.append_, run_underlying ht, sizeOf, typeInfo, hi, Builtin.lenOf, Builtin.firstCells, hnc, storeCells]

theorem wpList_append_ints {P : Program} {ops : Array Oper} {rest : List Oper} {o : Oper} {a : Act} {w : World} {Q : Exit → Act → World → Prop} {T e : TypeId} {i0 : TypeInfo} (hw : Region.wanted o (yielded ops a.tmps) = true) (s x : Operand)
    (ho : o.op = .call { callee := .builtin .append, args := #[s, x], argTypes := #[T, T] }) (ht : P.underlying T = some (.slice e)) (hi : P.info? e = some i0) (hz : i0.zero = some (.int .i64 0)) (h1 : i0.size = 1) (h2 : i0.bytes = 8)
    (B base : Nat) (v : Value) (acc : List Int) (u : Value) (ys : List Int) (hs : a.eval s = v) (hown : w.ownsRow base e 1 v acc.length (acc.map (Value.int .i64))) (hx : a.eval x = u) (hu : Ints w B .i64 u ys) (hl : acc.length + ys.length ≤ 1000000) (hb : base ≤ w.heap.size)
    (h : ∀ v' w', w'.ownsRow base e 1 v' (acc ++ ys).length ((acc ++ ys).map (Value.int .i64)) → w.grownBy w' v.ownBlock → (ys = [] → v = .slice none 0 0 → v' = .slice none 0 0) → wpList P ops Q rest (a.put o.dst v') w') : wpList P ops Q (o :: rest) a w := by
  refine wpList_step fun K hK => ?_
  rw [if_pos hw]
  have key : ∀ v' w', w'.ownsRow base e 1 v' (acc ++ ys).length ((acc ++ ys).map (Value.int .i64)) → w.grownBy w' v.ownBlock → (ys = [] → v = .slice none 0 0 → v' = .slice none 0 0) → K (a.put o.dst v') w' := fun v' w' p q r => hK _ _ (h v' w' p q r)
  obtain ⟨A, c, rfl, hc1, hc2, hA, hcell⟩ := hu
  cases A with
  | none =>
    obtain rfl : c = 0 := hA rfl
    obtain rfl : ys = [] := List.eq_nil_of_length_eq_zero (by omega)
    have hr := run_append_none (P := P) (ty := o.type) ht hi hown
    have h3 := key v w (by simpa using hown) (grown_refl w _) (fun _ e => e)
    unfold Oper.wp execOp
    simp only [ho, resolve, invoke, builtin, Sem.run_bind, Sem.run_pure, Result.andThen_ok, List.map_toArray, List.map_cons, List.map_nil, hs, hx, List.length_nil, hr]
    exact h3
  | some ad =>
    refine wp_append_own w s x T ho base e i0 (.int .i64 0) 1 8 ht hi hz h1 h2 rfl (by omega) v acc.length _ hs hown ad ys.length c (ys.map (Value.int .i64)) hx (by simp) ?_ ?_ (by unfold maxLen; omega) (by omega) hb ?_
    · intro j q hq
      rw [List.getElem?_map] at hq
      cases hy : ys[j]? with
      | none => rw [hy] at hq; cases hq
      | some y =>
        rw [hy] at hq; cases hq
        obtain ⟨ad', e1, _, e2⟩ := hcell j y hy
        cases e1; exact e2
    · intro q hq
      obtain ⟨y, _, rfl⟩ := List.mem_map.1 hq
      rfl
    · intro v' w' p q r
      exact key v' w' (by simpa using p) q (fun e1 e2 => r.2 ⟨e2, by rw [e1]; rfl⟩)
end Go.Proofs.YtkdhldhbjomiaaaDoor
/-
  The walk through keep.add.
-/
namespace Go.Proofs.YtkdhldhbjomiaaaDoor
open Go.RowKit ND

theorem flat_len3 (acc : List Sp) : (acc.flatMap spCells).length = acc.length * 3 := by
  induction acc with
  | nil => rfl
  | cons a r ih => simp only [List.flatMap_cons, List.length_append, ih, List.length_cons]; have : (spCells a).length = 3 := rfl; omega

/-- The cells of spans that can be read, one after the other. -/
theorem spans_news {X : World} {L : List Sp} {ad : Addr}
    (h : ∀ i x, L[i]? = some x → X.cell? (ad.add (i * 3)) = some (.int .i64 x.1) ∧ X.cell? (ad.add (i * 3 + 1)) = some (.int .i64 x.2.1) ∧ X.cell? (ad.add (i * 3 + 2)) = some (.int .i64 x.2.2)) :
    ∀ j u, (L.flatMap spCells)[j]? = some u → X.cell? (ad.add j) = some u := by
  intro j u hj
  have hlt : j < (L.flatMap spCells).length := (List.getElem?_eq_some_iff.1 hj).1
  rw [flat_len3] at hlt
  have hi : j / 3 < L.length := by omega
  obtain ⟨x, hx⟩ : ∃ x, L[j / 3]? = some x := ⟨_, List.getElem?_eq_getElem hi⟩
  obtain ⟨a0, a1, a2⟩ := spCells_at hx
  obtain ⟨b0, b1, b2⟩ := h _ x hx
  have hc : j = j / 3 * 3 ∨ j = j / 3 * 3 + 1 ∨ j = j / 3 * 3 + 2 := by omega
  rcases hc with e | e | e
  · rw [e] at hj ⊢; rw [a0] at hj; rw [b0]; exact hj
  · rw [e] at hj ⊢; rw [a1] at hj; rw [b1]; exact hj
  · rw [e] at hj ⊢; rw [a2] at hj; rw [b2]; exact hj

theorem step_app_nil {P : Program} {ops : Array Oper} {o : Oper} {a : Act} {X : World} {K : Act → World → Prop} {Q : Exit → Act → World → Prop} {E : Prop} {T e : TypeId} {i0 : TypeInfo} (hgd : o.guard = none) (s x : Operand)
    (ho : o.op = .call { callee := .builtin .append, args := #[s, x], argTypes := #[T, T] }) (ht : P.underlying T = some (.slice e)) (hi : P.info? e = some i0) (hz : i0.zero = some (.agg #[.int .i64 0, .int .i64 0, .int .i64 0])) (h1 : i0.size = 3) (h2 : i0.bytes = 24)
    (R : World) (u : Value) (L : List Sp) (B : Nat) (hs : a.eval s = .slice none 0 0) (hx : a.eval x = u) (hu : Spans X B u L) (hl : L.length ≤ 1000000) (hb : R.heap.size ≤ X.heap.size)
    (h : ∀ v' w', w'.ownsRow R.heap.size e 3 v' L.length (L.flatMap spCells) → X.grownBy w' none → K (a.put o.dst v') w') :
    if Region.wanted o (yielded ops a.tmps) = true then Oper.wp P o a X K Q else E := by
  have hw : Region.wanted o (yielded ops a.tmps) = true := by simp [Region.wanted, hgd]
  rw [if_pos hw]
  have hown : X.ownsRow R.heap.size e 3 (.slice none 0 0) 0 [] := World.ownsRow_nil _ _ _ _
  obtain ⟨A, c, rfl, hc1, hc2, hA, hcell⟩ := hu
  cases A with
  | none =>
    obtain rfl : c = 0 := hA rfl
    obtain rfl : L = [] := List.eq_nil_of_length_eq_zero (by omega)
    have hr := run_append_none (P := P) (ty := o.type) ht hi hown
    have h3 := h (.slice none 0 0) X (by simpa using hown) (grown_refl X none)
    unfold Oper.wp execOp
    simp only [ho, resolve, invoke, builtin, Sem.run_bind, Sem.run_pure, Result.andThen_ok, List.map_toArray, List.map_cons, List.map_nil, hs, hx, List.length_nil, hr]
    exact h3
  | some ad =>
    refine wp_append_own X s x T ho R.heap.size e i0 (.agg #[.int .i64 0, .int .i64 0, .int .i64 0]) 3 24 ht hi hz h1 h2 rfl (by omega) (.slice none 0 0) 0 [] hs hown ad L.length c (L.flatMap spCells) hx (flat_len3 L) ?_ ?_ (by unfold maxLen; omega) (by omega) hb ?_
    · refine spans_news fun i x hi => ?_
      obtain ⟨ad', e1, _, e2⟩ := hcell i x hi
      cases e1; exact e2
    · intro q hq
      obtain ⟨y, _, hy⟩ := List.mem_flatMap.1 hq
      simp only [spCells, List.mem_cons, List.not_mem_nil, or_false] at hy
      rcases hy with rfl | rfl | rfl <;> rfl
    · intro v' w' p q r
      exact h v' w' (by simpa using p) q

theorem step_app_one {P : Program} {ops : Array Oper} {o : Oper} {a : Act} {X : World} {K : Act → World → Prop} {Q : Exit → Act → World → Prop} {E : Prop} {T e : TypeId} {i0 : TypeInfo} (hgd : o.guard = none) (s x : Operand)
    (ho : o.op = .call { callee := .builtin .append, args := #[s, x], argTypes := #[T, T] }) (ht : P.underlying T = some (.slice e)) (hi : P.info? e = some i0) (hz : i0.zero = some (.agg #[.int .i64 0, .int .i64 0, .int .i64 0])) (h1 : i0.size = 3) (h2 : i0.bytes = 24)
    (R : World) (v : Value) (k : Nat) (L : List Sp) (f t u : Int) (hs : a.eval s = v) (hx : a.eval x = .slice (some ⟨k, 0, none⟩) 1 1) (hown : X.ownsRow R.heap.size e 3 v L.length (L.flatMap spCells)) (hk : Blk X k e #[.int .i64 f, .int .i64 t, .int .i64 u]) (hl : L.length ≤ 1000000) (hb : R.heap.size ≤ X.heap.size)
    (h : ∀ v' w', w'.ownsRow R.heap.size e 3 v' (L ++ [(f, t, u)]).length ((L ++ [(f, t, u)]).flatMap spCells) → X.grownBy w' v.ownBlock → K (a.put o.dst v') w') :
    if Region.wanted o (yielded ops a.tmps) = true then Oper.wp P o a X K Q else E := by
  have hw : Region.wanted o (yielded ops a.tmps) = true := by simp [Region.wanted, hgd]
  rw [if_pos hw]
  refine wp_append_own X s x T ho R.heap.size e i0 (.agg #[.int .i64 0, .int .i64 0, .int .i64 0]) 3 24 ht hi hz h1 h2 rfl (by omega) v L.length _ hs hown ⟨k, 0, none⟩ 1 1 [.int .i64 f, .int .i64 t, .int .i64 u] hx rfl
    (World.news_of_block (cs := #[.int .i64 f, .int .i64 t, .int .i64 u]) hk) ?_ (by unfold maxLen; omega) (by omega) hb ?_
  · intro q hq; simp at hq; rcases hq with rfl | rfl | rfl <;> rfl
  · intro v' w' p q r
    exact h v' w' (by rw [spans_snoc]; simpa [spCells] using p) q

theorem own_slice {w : World} {base : Nat} {e : TypeId} {size : Nat} {v : Value} {n : Nat} {xs : List Value} (h : w.ownsRow base e size v n xs) : ∃ A m c, v = .slice A m c := by
  rcases h.2 with ⟨rfl, _⟩ | ⟨g, cap, cur, rfl, _⟩
  · exact ⟨_, _, _, rfl⟩
  · exact ⟨_, _, _, rfl⟩

theorem undrew {a b : World} {row : Option Nat} (h : a.drew.grownBy b row) : a.grownBy b row := ⟨h.os, h.tape, h.output, h.size, h.block⟩
theorem grown_any {a b : World} {row : Option Nat} (h : a.grownBy b none) : a.grownBy b row := ⟨h.os, h.tape, h.output, h.size, fun k hk _ => h.block k hk (by simp)⟩
theorem grown_new {a c d : World} {b : Nat} {row : Option Nat} (h : a.grownBy c (some b)) (k : c.grownBy d row) (hr : ∀ x, row = some x → a.heap.size ≤ x) : a.grownBy d (some b) :=
  ⟨k.os.trans h.os, k.tape.trans h.tape, k.output.trans h.output, Nat.le_trans h.size k.size, fun i hi hn => (k.block i (Nat.lt_of_lt_of_le hi h.size) (fun e => by have := hr i e.symm; omega)).trans (h.block i hi hn)⟩

/-- keep.add: the list behind the pointer has one span more, or stands as it was. -/
def RetAdd (w : World) (b o : Nat) (TT : TypeId) (cs : Array Value) (v : Value) (L : List Sp) (f t val : Int) (e : Ending) (w' : World) : Prop :=
  ∃ v', e = .returned (.tuple #[]) ∧ Blk w' b TT (cs.setIfInBounds o v') ∧ w.grownBy w' (some b) ∧
    (val ≤ 0 → v' = v) ∧ (0 < val → ∀ S : List Nat, (∀ x ∈ S, x < w.heap.size) → Spans (veil S w') (veil S w').heap.size v' (L ++ [(f, t, val)]))

set_option maxRecDepth 100000 in
set_option maxHeartbeats 1000000 in
theorem add_any (w : World) (b o : Nat) (TT : TypeId) (cs : Array Value) (v : Value) (L : List Sp) (f t u val : Int) (hb : Blk w b TT cs) (hc : cs[o]? = some v) (hv : Spans w w.heap.size v L) (hl : L.length ≤ 1000000) :
    Calls Tryd.prog 56 #[.pointer (some ⟨b, o, none⟩), .agg #[.int .i64 f, .int .i64 t, .int .i64 u], .int .i64 val] w (RetAdd w b o TT cs v L f t val) := by
  by_cases h0 : 0 < val
  · go_enter Tryd.func56, Tryd.ntmps56
    go_wp2
    have hN : Blk (w.alloc (.cells #[.int .i64 f, .int .i64 t, .int .i64 val] 64)) w.heap.size 64 #[.int .i64 f, .int .i64 t, .int .i64 val] := Blk.new _ _ _
    have hb1 := hb.alloc (.cells #[.int .i64 f, .int .i64 t, .int .i64 val] 64)
    have hv1 : Spans (w.alloc (.cells #[.int .i64 f, .int .i64 t, .int .i64 val] 64)) w.heap.size v L := hv.below (Below.alloc (Below.refl _ _) (Nat.le_refl _) _)
    have hg1 := grown_alloc w (.cells #[.int .i64 f, .int .i64 t, .int .i64 val] 64) (some b)
    generalize w.alloc (.cells #[.int .i64 f, .int .i64 t, .int .i64 val] 64) = R at *
    obtain ⟨i0, hi, hz0, hz1, hz2⟩ := info_parts Tryd.infoSpan
    have d0 := hN.at_ (i := 0) (u := .int .i64 f) rfl
    have d1 := hN.at_ (i := 1) (u := .int .i64 t) rfl
    have d2 := hN.at_ (i := 2) (u := .int .i64 val) rfl
    have e0 := hb1.at_ hc
    have hRs : w.heap.size < R.heap.size := hN.lt
    obtain ⟨A, c, rfl, _⟩ := id hv1
    have HV1 := Lib.hid hv1
    have HB1 := Lib.hid hb1
    have HN := Lib.hid hN
    clear hv hb hv1 hb1 hN
    have hfree : ∀ (W : World) (v2 : Value) (n : Nat) (xs : List Value), W.ownsRow R.heap.size 64 3 v2 n xs → ∀ k, k < R.heap.size → some k ≠ v2.ownBlock := fun W v2 n xs h k hk e => by have := (h.lt k e.symm).1; omega
    have eA : (R.alloc (.cells #[.int .i64 f, .int .i64 t, .int .i64 val] 64)).cell? ⟨b, o, none⟩ = some (.slice A L.length c) := (HB1.out.alloc (.cells #[.int .i64 f, .int .i64 t, .int .i64 val] 64)).at_ hc
    have hbR := HB1.out.lt
    go_region_law (first
      | (refine step_app_nil rfl (.const (.slice none 0 0)) (.tmp 13) rfl Tryd.underlying22 hi hz0 hz1 hz2 R _ L w.heap.size rfl rfl (show Spans R.drew w.heap.size _ L from HV1.out) hl (Nat.le_refl _) ?_; intro v2 w2 hown2 hg2; have hb2 := (show Blk R.drew b TT cs from HB1.out).grown hg2 (by simp); have hN2 := (show Blk R.drew w.heap.size 64 #[.int .i64 f, .int .i64 t, .int .i64 val] from HN.out).grown hg2 (by simp); have d02 := hN2.at_ (i := 0) (u := .int .i64 f) rfl; have d12 := hN2.at_ (i := 1) (u := .int .i64 t) rfl; have d22 := hN2.at_ (i := 2) (u := .int .i64 val) rfl; have hgr2 : w.grownBy w2 (some b) := hg1.trans (grown_any (undrew hg2)))
      | (refine step_app_one rfl (.tmp 14) (.tmp 16) rfl Tryd.underlying22 hi hz0 hz1 hz2 R _ w2.heap.size L f t val rfl rfl (hown2.alloc (.cells #[.int .i64 f, .int .i64 t, .int .i64 val] 64)) (Blk.new w2 64 #[.int .i64 f, .int .i64 t, .int .i64 val]) hl (by have := hg2.size; simp at this ⊢; omega) ?_; intro v3 w3 hown3 hg3; have hb3 := (hb2.alloc (.cells #[.int .i64 f, .int .i64 t, .int .i64 val] 64)).grown hg3 (hfree _ _ _ _ hown2 b HB1.out.lt); have e3 := hb3.at_ hc; have f3 := hb3.free o; have hgr3 := grown_new (hgr2.trans (grown_alloc w2 (.cells #[.int .i64 f, .int .i64 t, .int .i64 val] 64) (some b))) hg3 (fun x hx => by have := (hown2.lt x hx).1; omega); obtain ⟨A3, m3, c3, rfl⟩ := own_slice hown3)
      | (refine step_app_one rfl (.tmp 14) (.tmp 16) rfl Tryd.underlying22 hi hz0 hz1 hz2 R _ R.heap.size L f t val rfl rfl hown2 hK2 hl (by have := hg2.size; simp at this ⊢; omega) ?_; intro v3 w3 hown3 hg3; have hb3 := hb2.grown hg3 (hfree _ _ _ _ hown2 b HB1.out.lt); have e3 := hb3.at_ hc; have f3 := hb3.free o; have hgr3 := grown_new hgr2 hg3 (fun x hx => by have := (hown2.lt x hx).1; omega); obtain ⟨A3, m3, c3, rfl⟩ := own_slice hown3)
      | (refine step_app_nil rfl (.const (.slice none 0 0)) (.tmp 13) rfl Tryd.underlying22 hi hz0 hz1 hz2 R _ L w.heap.size rfl rfl (show Spans (R.alloc (.cells #[.int .i64 f, .int .i64 t, .int .i64 val] 64)).drew w.heap.size _ L from HV1.out.below (show Below w.heap.size R (R.alloc (.cells #[.int .i64 f, .int .i64 t, .int .i64 val] 64)).drew from (show Below w.heap.size R (R.alloc (.cells #[.int .i64 f, .int .i64 t, .int .i64 val] 64)) from Below.alloc (Below.refl _ _) (Nat.le_of_lt hRs) _).drew)) hl (by simp) ?_; intro v2 w2 hown2 hg2; have hb2 := (show Blk (R.alloc (.cells #[.int .i64 f, .int .i64 t, .int .i64 val] 64)).drew b TT cs from HB1.out.alloc (.cells #[.int .i64 f, .int .i64 t, .int .i64 val] 64)).grown hg2 (by simp); have hK2 := (show Blk (R.alloc (.cells #[.int .i64 f, .int .i64 t, .int .i64 val] 64)).drew R.heap.size 64 #[.int .i64 f, .int .i64 t, .int .i64 val] from Blk.new R 64 #[.int .i64 f, .int .i64 t, .int .i64 val]).grown hg2 (by simp); have hgr2 : w.grownBy w2 (some b) := (hg1.trans (grown_alloc R (.cells #[.int .i64 f, .int .i64 t, .int .i64 val] 64) (some b))).trans (grown_any (undrew hg2))))
    all_goals go_wp2
    all_goals go_end0
    all_goals exact ⟨_, rfl, hb3.put o _, grown_setCell hgr3 o _, fun h => absurd h0 (by omega), fun _ S hS => Spans.veil_own (base := R.heap.size) (own_grown hown3 (grown_setCell (grown_refl _ (some b)) o _) hbR) (fun x hx => by have := hS x hx; omega)⟩
  · have HB := Lib.hid hb
    clear hb hv
    go_enter Tryd.func56, Tryd.ntmps56
    go_wp2
    go_end0
    have e1 : cs.setIfInBounds o v = cs := by
      refine Array.ext_getElem? fun i => ?_
      rw [Array.getElem?_setIfInBounds]
      by_cases h : o = i
      · subst h
        have := (Array.getElem?_eq_some_iff.1 hc).1
        simp [this]
        exact ((Array.getElem?_eq_some_iff.1 hc).2).symm
      · simp [h]
    exact ⟨v, rfl, by rw [e1]; exact HB.out.alloc _, grown_alloc _ _ _, fun _ => rfl, fun h => absurd h (by omega)⟩
end Go.Proofs.YtkdhldhbjomiaaaDoor
/-
  One element is appended to an own row in a drawn region; rows of mappings; readings that outlive what is appended.
-/
namespace Go.Proofs.YtkdhldhbjomiaaaDoor
open Go.RowKit ND

/-- A reading in a veiled world goes over to another world that has the cells it leans on. -/
theorem Ints.reveil {S S' : List Nat} {w w' : World} {B : Nat} {k : IntKind} {v : Value} {xs : List Int} (h : Ints (veil S w) B k v xs)
    (hk : ∀ p x, p.block < B → p.block ∉ S → w.cell? p = some x → p.block ∉ S' ∧ w'.cell? p = some x) : Ints (veil S' w') B k v xs := by
  obtain ⟨A, c, hv, h1, h2, h3, h4⟩ := h
  refine ⟨A, c, hv, h1, h2, h3, fun i x hi => ?_⟩
  obtain ⟨ad, e, hb, hc⟩ := h4 i x hi
  have hlt := World.block_lt_of_cell? _ _ hc
  have hn : (ad.add i).block ∉ S := by
    intro hx
    rw [veil_size] at hlt
    have := veil_in S w _ hx hlt
    unfold World.cell? at hc
    rw [this] at hc
    simp at hc
  obtain ⟨g1, g2⟩ := hk _ _ (by rw [block_of_add]; exact hb) hn (veil_cell hc)
  exact ⟨ad, e, hb, by rw [cell_veil g1]; exact g2⟩

theorem unveil_at {S : List Nat} {w : World} {p : Addr} {x : Value} (h : (veil S w).cell? p = some x) : p.block ∉ S := by
  have hlt := World.block_lt_of_cell? _ _ h
  intro hx
  rw [veil_size] at hlt
  have := veil_in S w _ hx hlt
  unfold World.cell? at h
  rw [this] at h
  simp at h
theorem Spans.reveil {S S' : List Nat} {w w' : World} {B : Nat} {v : Value} {xs : List Sp} (h : Spans (veil S w) B v xs)
    (hk : ∀ p x, p.block < B → p.block ∉ S → w.cell? p = some x → p.block ∉ S' ∧ w'.cell? p = some x) : Spans (veil S' w') B v xs := by
  obtain ⟨A, c, hv, h1, h2, h3, h4⟩ := h
  refine ⟨A, c, hv, h1, h2, h3, fun i x hi => ?_⟩
  obtain ⟨ad, e, hb, c0, c1, c2⟩ := h4 i x hi
  have go : ∀ p y, p.block < B → (veil S w).cell? p = some y → (veil S' w').cell? p = some y := fun p y hp hy => by
    obtain ⟨g1, g2⟩ := hk p y hp (unveil_at hy) (veil_cell hy)
    rw [cell_veil g1]; exact g2
  exact ⟨ad, e, hb, go _ _ (by rw [block_of_add]; exact hb) c0, go _ _ (by rw [block_of_add]; exact hb) c1, go _ _ (by rw [block_of_add]; exact hb) c2⟩
theorem Mapps.reveil {S S' : List Nat} {w w' : World} {B : Nat} {v : Value} {xs : List Mp} (h : Mapps (veil S w) B v xs)
    (hk : ∀ p x, p.block < B → p.block ∉ S → w.cell? p = some x → p.block ∉ S' ∧ w'.cell? p = some x) : Mapps (veil S' w') B v xs := by
  obtain ⟨A, c, hv, h1, h2, h3, h4⟩ := h
  refine ⟨A, c, hv, h1, h2, h3, fun i x hi => ?_⟩
  obtain ⟨ad, sv, e, hb, c0, c1, hI⟩ := h4 i x hi
  have go : ∀ p y, p.block < B → (veil S w).cell? p = some y → (veil S' w').cell? p = some y := fun p y hp hy => by
    obtain ⟨g1, g2⟩ := hk p y hp (unveil_at hy) (veil_cell hy)
    rw [cell_veil g1]; exact g2
  exact ⟨ad, sv, e, hb, go _ _ (by rw [block_of_add]; exact hb) c0, go _ _ (by rw [block_of_add]; exact hb) c1, hI.reveil hk⟩
/-- What keeps a row of mappings: nothing but blocks of S may change. -/
theorem grown_reveil {S : List Nat} {X w' : World} {v v' : Value} (q : X.grownBy w' v.ownBlock) (r : ∀ g, v'.ownBlock = some g → v.ownBlock = some g ∨ g = X.heap.size) :
    ∀ (p : Addr) (x : Value), p.block < X.heap.size → p.block ∉ S ++ v.ownBlock.toList → X.cell? p = some x → p.block ∉ S ++ v'.ownBlock.toList ∧ w'.cell? p = some x := by
  intro pp xx hpb hpn hpc
  refine ⟨?_, ?_⟩
  · intro hx
    rcases List.mem_append.1 hx with hx | hx
    · exact hpn (List.mem_append_left _ hx)
    · rw [Option.mem_toList] at hx
      rcases r _ hx with e | e
      · exact hpn (List.mem_append_right _ (by rw [Option.mem_toList]; exact e))
      · omega
  · have e := q.block pp.block hpb (fun e => hpn (List.mem_append_right _ (by rw [Option.mem_toList]; exact e.symm)))
    unfold World.cell? at hpc ⊢
    rw [e]; exact hpc
theorem onlyIn_reveil {S S1 : List Nat} {X w' : World} (h : onlyIn S X w') (hS : ∀ x ∈ S, x ∈ S1) :
    ∀ (p : Addr) (x : Value), p.block < X.heap.size → p.block ∉ S1 → X.cell? p = some x → p.block ∉ S1 ∧ w'.cell? p = some x := by
  intro pp xx hpb hpn hpc
  refine ⟨hpn, ?_⟩
  have e := h.2.2.2.2 pp.block (fun hx => hpn (hS _ hx)) hpb
  unfold World.cell? at hpc ⊢
  rw [e]; exact hpc

/-- The cells of mappings. -/
def mpCells (ps : List (Int × Value)) : List Value := ps.flatMap fun p => [.int .i64 p.1, p.2]
theorem mpCells_snoc (ps : List (Int × Value)) (p : Int × Value) : mpCells (ps ++ [p]) = mpCells ps ++ [.int .i64 p.1, p.2] := by simp [mpCells]
theorem mpCells_at {ps : List (Int × Value)} {i : Nat} {p : Int × Value} (h : ps[i]? = some p) : (mpCells ps)[i * 2]? = some (.int .i64 p.1) ∧ (mpCells ps)[i * 2 + 1]? = some p.2 := by
  induction ps generalizing i with
  | nil => simp at h
  | cons a r ih =>
    cases i with
    | zero => simp at h; subst h; exact ⟨rfl, rfl⟩
    | succ j =>
      obtain ⟨a0, a1⟩ := ih (i := j) (by simpa using h)
      have e : mpCells (a :: r) = [.int .i64 a.1, a.2] ++ mpCells r := by simp [mpCells]
      rw [e]
      refine ⟨?_, ?_⟩
      · rw [List.getElem?_append_right (by simp; omega)]; simpa [show (j + 1) * 2 - 2 = j * 2 by omega] using a0
      · rw [List.getElem?_append_right (by simp; omega)]; simpa [show (j + 1) * 2 + 1 - 2 = j * 2 + 1 by omega] using a1

/-- An own row of mappings: its sequences lie in blocks that neither the list S nor the row itself touches. -/
def OwnM (S : List Nat) (w : World) (base : Nat) (v : Value) (D : List Mp) : Prop :=
  ∃ ps : List (Int × Value), ps.map (·.1) = D.map (·.1) ∧ ps.length = D.length ∧ w.ownsRow base 54 2 v ps.length (mpCells ps) ∧
    ∀ (i : Nat) (p : Int × Value) (d : Mp), ps[i]? = some p → D[i]? = some d → Ints (veil (S ++ v.ownBlock.toList) w) w.heap.size .i64 p.2 d.2
theorem OwnM.nil (S : List Nat) (w : World) (base : Nat) : OwnM S w base (.slice none 0 0) [] :=
  ⟨[], rfl, rfl, World.ownsRow_nil _ _ _ _, fun i p d h => by simp at h⟩

theorem step_app_blk {P : Program} {ops : Array Oper} {o : Oper} {a : Act} {X : World} {K : Act → World → Prop} {Q : Exit → Act → World → Prop} {E : Prop} {T e : TypeId} {i0 : TypeInfo} (hgd : o.guard = none) (s x : Operand)
    (ho : o.op = .call { callee := .builtin .append, args := #[s, x], argTypes := #[T, T] }) (ht : P.underlying T = some (.slice e)) (hi : P.info? e = some i0) (z : Value) (size bytes : Nat) (hz : i0.zero = some z) (h1 : i0.size = size) (h2 : i0.bytes = bytes) (hzs : z.cells.size = size) (hsz : 0 < size) (hby : bytes ≤ 1000)
    (base : Nat) (v : Value) (n : Nat) (xs : List Value) (k : Nat) (news : Array Value) (hs : a.eval s = v) (hx : a.eval x = .slice (some ⟨k, 0, none⟩) 1 1) (hown : X.ownsRow base e size v n xs) (hk : Blk X k e news) (hl : news.toList.length = 1 * size) (hone : ∀ u ∈ news.toList, u.oneCell' = true) (hn : n ≤ 1000000) (hb : base ≤ X.heap.size)
    (h : ∀ v' w', w'.ownsRow base e size v' (n + 1) (xs ++ news.toList) → X.grownBy w' v.ownBlock → (∀ g, v'.ownBlock = some g → v.ownBlock = some g ∨ g = X.heap.size) → (∃ A m c, v' = .slice A m c) → K (a.put o.dst v') w') :
    if Region.wanted o (yielded ops a.tmps) = true then Oper.wp P o a X K Q else E := by
  refine step_append_lies _ hgd s x T ho base e i0 z size bytes ht hi hz h1 h2 hzs hsz v n xs hs hown ⟨k, 0, none⟩ 1 1 news.toList hx hl (World.news_of_block (cs := news) hk) hone (by omega) (by unfold maxLen; omega) ?_ hb X.heap.size rfl ?_
  · calc (n + 1) * bytes ≤ 1000001 * 1000 := Nat.mul_le_mul (by omega) hby
      _ ≤ _ := by decide
  · intro g cap w' p q r _
    refine h _ w' p q (fun g' hg' => ?_) ⟨_, _, _, rfl⟩
    simp only [Value.ownBlock, Option.some.injEq] at hg'
    subst hg'; exact r

theorem OwnM.kept {S : List Nat} {w w' : World} {base : Nat} {v : Value} {D : List Mp} (h : OwnM S w base v D) (hw : onlyIn S w w') (hv : ∀ g, v.ownBlock = some g → g ∉ S) : OwnM S w' base v D := by
  obtain ⟨ps, hm, hlen, hown, hr⟩ := h
  refine ⟨ps, hm, hlen, ?_, fun i p d hp hd => Ints.more ((hr i p d hp hd).reveil (onlyIn_reveil hw fun x hx => List.mem_append_left _ hx)) hw.2.2.2.1⟩
  refine ⟨hown.1, ?_⟩
  rcases hown.2 with hn | ⟨g, cap, cur, rfl, hb, hg, hrest⟩
  · exact .inl hn
  · exact .inr ⟨g, cap, cur, rfl, hb, (hw.2.2.2.2 g (hv g rfl) (Array.getElem?_eq_some_iff.1 hg).1).trans hg, hrest⟩

theorem OwnM.mapps {S : List Nat} {w : World} {base : Nat} {v : Value} {D : List Mp} (h : OwnM S w base v D) (hS : ∀ x ∈ S, x < base) : Mapps (veil S w) (veil S w).heap.size v D := by
  obtain ⟨ps, hm, hlen, hown, hr⟩ := h
  rcases hown.2 with ⟨rfl, hn⟩ | ⟨g, cap, cur, rfl, hb, hg, hnc, hcm, _⟩
  · have : D = [] := List.eq_nil_of_length_eq_zero (by omega)
    subst this
    exact ⟨none, 0, rfl, Nat.le_refl _, Nat.zero_le _, fun _ => rfl, fun _ _ h => by simp at h⟩
  · have hlt : g < w.heap.size := (Array.getElem?_eq_some_iff.1 hg).1
    refine ⟨some ⟨g, 0, none⟩, cap, by rw [hlen], by omega, hcm, (by intro h; cases h), fun i d hd => ?_⟩
    obtain ⟨p, hp⟩ : ∃ p, ps[i]? = some p := by
      have := (List.getElem?_eq_some_iff.1 hd).1
      exact ⟨_, List.getElem?_eq_getElem (by omega)⟩
    obtain ⟨a0, a1⟩ := mpCells_at hp
    have e1 : p.1 = d.1 := by
      have h1 : (ps.map (·.1))[i]? = (D.map (·.1))[i]? := by rw [hm]
      rw [List.getElem?_map, List.getElem?_map, hp, hd] at h1
      simpa using h1
    have hgS : g ∉ S := fun hx => by have := hS g hx; omega
    have hi := hr i p d hp hd
    refine ⟨⟨g, 0, none⟩, p.2, rfl, by rw [veil_size]; exact hlt, ?_, ?_, ?_⟩
    · rw [cell_veil (by rw [block_of_add]; exact hgS), ← e1]; exact hown.cells (g := g) rfl _ _ a0
    · rw [cell_veil (by rw [block_of_add]; exact hgS)]; exact hown.cells (g := g) rfl _ _ a1
    · rw [veil_size]
      exact hi.reveil fun q x _ hq hx => ⟨fun h => hq (List.mem_append_left _ h), hx⟩

theorem step_app_map {P : Program} {ops : Array Oper} {o : Oper} {a : Act} {X : World} {K : Act → World → Prop} {Q : Exit → Act → World → Prop} {E : Prop} {T : TypeId} {i0 : TypeInfo} (hgd : o.guard = none) (s x : Operand)
    (ho : o.op = .call { callee := .builtin .append, args := #[s, x], argTypes := #[T, T] }) (ht : P.underlying T = some (.slice 54)) (hi : P.info? 54 = some i0) (z : Value) (hz : i0.zero = some z) (h1 : i0.size = 2) (h2 : i0.bytes = 32) (hzs : z.cells.size = 2)
    (S : List Nat) (base : Nat) (v : Value) (D : List Mp) (k : Nat) (c : Int) (sv : Value) (l : List Int) (hs : a.eval s = v) (hx : a.eval x = .slice (some ⟨k, 0, none⟩) 1 1) (hown : OwnM S X base v D) (hk : Blk X k 54 #[.int .i64 c, sv]) (hsv : Ints (veil (S ++ v.ownBlock.toList) X) X.heap.size .i64 sv l)
    (hn : D.length ≤ 1000000) (hb : base ≤ X.heap.size)
    (h : ∀ v' w', OwnM S w' base v' (D ++ [(c, l)]) → X.grownBy w' v.ownBlock → (∀ g, v'.ownBlock = some g → v.ownBlock = some g ∨ g = X.heap.size) → (∃ A m c, v' = .slice A m c) → K (a.put o.dst v') w') :
    if Region.wanted o (yielded ops a.tmps) = true then Oper.wp P o a X K Q else E := by
  obtain ⟨ps, hm, hlen, ho', hr⟩ := hown
  refine step_app_blk hgd s x ho ht hi z 2 32 hz h1 h2 hzs (by omega) (by omega) base v ps.length (mpCells ps) k #[.int .i64 c, sv] hs hx ho' hk rfl ?_ (by omega) hb ?_
  · intro u hu
    obtain ⟨A, cc, e, _⟩ := hsv
    simp at hu
    rcases hu with rfl | rfl
    · rfl
    · rw [e]; rfl
  · intro v' w' p q r sl
    refine h v' w' ⟨ps ++ [(c, sv)], by simp [hm], by simp [hlen], by rw [mpCells_snoc]; simpa using p, ?_⟩ q r sl
    have key : ∀ sv l, Ints (veil (S ++ v.ownBlock.toList) X) X.heap.size .i64 sv l → Ints (veil (S ++ v'.ownBlock.toList) w') w'.heap.size .i64 sv l := by
      intro sv l hI
      refine Ints.more (hI.reveil fun pp xx hpb hpn hpc => ⟨?_, ?_⟩) q.size
      · intro hx
        rcases List.mem_append.1 hx with hx | hx
        · exact hpn (List.mem_append_left _ hx)
        · rw [Option.mem_toList] at hx
          rcases r _ hx with e | e
          · exact hpn (List.mem_append_right _ (by rw [Option.mem_toList]; exact e))
          · omega
      · have e := q.block pp.block hpb (fun e => hpn (List.mem_append_right _ (by rw [Option.mem_toList]; exact e.symm)))
        unfold World.cell? at hpc ⊢
        rw [e]; exact hpc
    intro i p d hp hd
    by_cases hil : i < ps.length
    · rw [List.getElem?_append_left hil] at hp
      rw [List.getElem?_append_left (by omega)] at hd
      exact key _ _ (hr i p d hp hd)
    · have hi2 : i = ps.length := by
        have := (List.getElem?_eq_some_iff.1 hp).1
        simp at this; omega
      subst hi2
      rw [List.getElem?_append_right (Nat.le_refl _)] at hp
      rw [List.getElem?_append_right (by omega), hlen] at hd
      simp at hp hd
      subst hp; subst hd
      exact key _ _ hsv
end Go.Proofs.YtkdhldhbjomiaaaDoor
/-
  The walks through keep.pool, keep.point and keep.Points.
-/
namespace Go.Proofs.YtkdhldhbjomiaaaDoor
open Go.RowKit ND

def poolL : List Int := [0xad, 0xb7, 0x301, 0x308, 0x323, 0x345, 0x375, 0x3b1, 0x3b2, 0x3b3, 0x430, 0x5d0, 0x5f3, 0x628, 0x629, 0x660, 0x6f0, 0x94d, 0x1e00, 0x1e01, 0x1e02, 0x1e03, 0x1e04, 0x200c, 0x200d, 0x30fb, 0x4e00, 0x1f600]
theorem pool_scal : ∀ c ∈ poolL, scalarB c = true := by decide

set_option maxRecDepth 100000 in
set_option maxHeartbeats 400000 in
theorem pool_any (w : World) : Calls Tryd.prog 53 #[] w fun e w' => e = .returned (.slice (some ⟨w.heap.size, 0, none⟩) 28 28) ∧ w' = w.alloc (.cells (poolL.map (Value.int .i64)).toArray 3) := by
  go_enter Tryd.func53, Tryd.ntmps53
  go_wp2_with fail
  go_ret
  exact ⟨rfl, rfl⟩

theorem Src.lt {w : World} {g : Nat} {v : Value} {n : Nat} (h : Src w g v n) : g < w.heap.size := by
  obtain ⟨i, _, hb⟩ := h; exact hb.lt
theorem Src.alloc {w : World} {g : Nat} {v : Value} {n : Nat} (h : Src w g v n) (o : Obj) : Src (w.alloc o) g v n := by
  obtain ⟨i, hi, hb⟩ := h; exact ⟨i, hi, hb.alloc o⟩
theorem Src.grown {w w' : World} {g : Nat} {v : Value} {n : Nat} {row : Option Nat} (h : Src w g v n) (hg : w.grownBy w' row) (hr : some g ≠ row) : Src w' g v n := by
  obtain ⟨i, hi, hb⟩ := h; exact ⟨i, hi, hb.grown hg hr⟩

def RetPoint (w : World) (g : Nat) (v : Value) (n : Nat) (e : Ending) (w' : World) : Prop :=
  ∃ r : Int, e = .returned (.int .i64 r) ∧ scalarB r = true ∧ Src w' g v n ∧ w.grownBy w' (some g)


set_option maxRecDepth 100000 in
set_option maxHeartbeats 1000000 in
theorem point_src (w : World) (g : Nat) (v : Value) (xs : List Int) (hv : Ints w g .i64 v xs) (hs : Src w g v xs.length) :
    Calls Tryd.prog 60 #[.pointer (some ⟨g, 0, none⟩)] w (RetPoint w g v xs.length) := by
  have hlt := hs.lt
  go_enter Tryd.func60, Tryd.ntmps60
  go_wp2_with fail
  refine (pool_any _).mono ?_
  rintro e w1 ⟨rfl, rfl⟩
  have hs1 := hs.alloc (.cells (poolL.map (Value.int .i64)).toArray 3)
  have hg1 := grown_alloc w (.cells (poolL.map (Value.int .i64)).toArray 3) (some g)
  have hv1 := hv.grown hg1 hlt
  have hcells := cells_new w (poolL.map (Value.int .i64)) 3
  have hlt1 := hs1.lt
  have hsz : w.heap.size < (w.alloc (.cells (poolL.map (Value.int .i64)).toArray 3)).heap.size := by simp
  generalize w.alloc (.cells (poolL.map (Value.int .i64)).toArray 3) = w1 at *
  go_wp2_with fail
  refine (next_src w1 g v xs 8 hv1 hs1 (by decide) (by decide)).mono ?_
  rintro e w2 ⟨r, rfl, hr0, hr1, hs2, hg2⟩
  have hv2 := hv1.grown hg2 hlt1
  have hG2 := grown_trans hg1 hg2
  have hc2 : r = 0 ∨ r = 1 ∨ r = 2 ∨ r = 3 ∨ r = 4 ∨ (5 ≤ r ∧ (r == 0) = false ∧ (r == 1) = false ∧ (r == 2) = false ∧ (r == 3) = false ∧ (r == 4) = false) := by
    have : r = 0 ∨ r = 1 ∨ r = 2 ∨ r = 3 ∨ r = 4 ∨ 5 ≤ r := by omega
    rcases this with h | h | h | h | h | h
    · exact .inl h
    · exact .inr (.inl h)
    · exact .inr (.inr (.inl h))
    · exact .inr (.inr (.inr (.inl h)))
    · exact .inr (.inr (.inr (.inr (.inl h))))
    · exact .inr (.inr (.inr (.inr (.inr ⟨h, beq_eq_false_iff_ne.2 (by omega), beq_eq_false_iff_ne.2 (by omega), beq_eq_false_iff_ne.2 (by omega), beq_eq_false_iff_ne.2 (by omega), beq_eq_false_iff_ne.2 (by omega)⟩))))
  rcases hc2 with rfl | rfl | rfl | rfl | rfl | ⟨h5, q0, q1, q2, q3, q4⟩
  · go_wp2_with fail
    refine (next_src w2 g v xs 12 hv2 hs2 (by decide) (by decide)).mono ?_
    rintro e w3 ⟨s, rfl, hs0, hs1', hs3, hg3⟩
    have hG3 := grown_trans hG2 hg3
    have h12 : s = 0 ∨ s = 1 ∨ s = 2 ∨ s = 3 ∨ s = 4 ∨ s = 5 ∨ s = 6 ∨ s = 7 ∨ s = 8 ∨ s = 9 ∨ s = 10 ∨ s = 11 := by omega
    clear hs0 hs1' hg3 hv2 hs2 hG2 hv1 hs1 hg1 hv hs hcells
    rcases h12 with rfl | rfl | rfl | rfl | rfl | rfl | rfl | rfl | rfl | rfl | rfl | rfl
    all_goals
      go_wp2_with fail
      go_ret
      exact ⟨_, rfl, by first | decide +kernel | kernel_rfl | rfl, hs3, hG3⟩
  · go_wp2_with fail
    refine (next_src w2 g v xs 12 hv2 hs2 (by decide) (by decide)).mono ?_
    rintro e w3 ⟨s, rfl, hs0, hs1', hs3, hg3⟩
    have hG3 := grown_trans hG2 hg3
    have h12 : s = 0 ∨ s = 1 ∨ s = 2 ∨ s = 3 ∨ s = 4 ∨ s = 5 ∨ s = 6 ∨ s = 7 ∨ s = 8 ∨ s = 9 ∨ s = 10 ∨ s = 11 := by omega
    clear hs0 hs1' hg3 hv2 hs2 hG2 hv1 hs1 hg1 hv hs hcells
    rcases h12 with rfl | rfl | rfl | rfl | rfl | rfl | rfl | rfl | rfl | rfl | rfl | rfl
    all_goals
      go_wp2_with fail
      go_ret
      exact ⟨_, rfl, by first | decide +kernel | kernel_rfl | rfl, hs3, hG3⟩
  · go_wp2_with fail
    refine (next_src w2 g v xs 12 hv2 hs2 (by decide) (by decide)).mono ?_
    rintro e w3 ⟨s, rfl, hs0, hs1', hs3, hg3⟩
    have hG3 := grown_trans hG2 hg3
    have h12 : s = 0 ∨ s = 1 ∨ s = 2 ∨ s = 3 ∨ s = 4 ∨ s = 5 ∨ s = 6 ∨ s = 7 ∨ s = 8 ∨ s = 9 ∨ s = 10 ∨ s = 11 := by omega
    clear hs0 hs1' hg3 hv2 hs2 hG2 hv1 hs1 hg1 hv hs hcells
    rcases h12 with rfl | rfl | rfl | rfl | rfl | rfl | rfl | rfl | rfl | rfl | rfl | rfl
    all_goals
      go_wp2_with fail
      go_ret
      exact ⟨_, rfl, by first | decide +kernel | kernel_rfl | rfl, hs3, hG3⟩
  · go_wp2_with fail
    refine (next_src w2 g v xs 60 hv2 hs2 (by decide) (by decide)).mono ?_
    rintro e w3 ⟨s, rfl, hs0, hs1', hs3, hg3⟩
    have hG3 := grown_trans hG2 hg3
    go_wp2_with fail
    go_ret
    exact ⟨_, rfl, (scalarB_iff _).2 (by omega), hs3, hG3⟩
  · go_wp2_with fail
    have hg' := grown_alloc w2 (.cells #[.int .i64 4352, .int .i64 4449, .int .i64 4520, .int .i64 46] 3) (some g)
    refine (next_src _ g v xs 4 (hv2.grown hg' hs2.lt) (hs2.alloc _) (by decide) (by decide)).mono ?_
    rintro e w3 ⟨s, rfl, hs0, hs1', hs3, hg3⟩
    have hG3 := grown_trans hG2 (grown_trans hg' hg3)
    have hk := cell_kept w2.heap.size (cells_new w2 [.int .i64 4352, .int .i64 4449, .int .i64 4520, .int .i64 46] 3) hg3 (by simp) (by have := hs2.lt; omega)
    have k0 := hk 0 _ rfl
    have k1 := hk 1 _ rfl
    have k2 := hk 2 _ rfl
    have k3 := hk 3 _ rfl
    clear hk hg' hg3
    have h4 : s = 0 ∨ s = 1 ∨ s = 2 ∨ s = 3 := by omega
    clear hs0 hs1'
    rcases h4 with rfl | rfl | rfl | rfl
    all_goals
      go_wp2_with fail
      go_ret
      exact ⟨_, rfl, by decide, hs3, hG3⟩
  · go_wp2_with fail
    refine (next_src w2 g v xs 28 hv2 hs2 (by decide) (by decide)).mono ?_
    rintro e w3 ⟨s, rfl, hs0, hs1', hs3, hg3⟩
    have hG3 := grown_trans hG2 hg3
    have hk := cell_kept w.heap.size hcells (grown_trans hg2 hg3) hsz (by omega)
    obtain ⟨m, rfl⟩ := Int.eq_ofNat_of_zero_le hs0
    have hm : m < 28 := by omega
    obtain ⟨x, hx, hxm⟩ := get_of (xs := poolL) (k := m) hm
    have k0 := hk m (.int .i64 x) (by rw [List.getElem?_map, hx]; rfl)
    have hsx := Lib.hid (pool_scal x hxm)
    clear hk hx hxm hcells hg3
    go_wp2_with fail
    go_ret
    exact ⟨_, rfl, hsx.out, hs3, hG3⟩
end Go.Proofs.YtkdhldhbjomiaaaDoor
/-
  The state of keep.maps' loop, and what keeps it.
-/
namespace Go.Proofs.YtkdhldhbjomiaaaDoor
open Go.RowKit ND

/-- The statuses from the k-th code point on. -/
def StRow (w : World) (sb k : Nat) (st : List Int) : Prop := ∃ cs, Blk w sb 3 cs ∧ ∀ j x, k ≤ j → st[j]? = some x → cs[j]? = some (.int .i64 x)

theorem Tryd.infoMap : (Tryd.prog.info? 54).map (fun i => (i.zero, i.size, i.bytes)) = some (some (.agg #[.int .i64 0, .slice none 0 0]), 2, 32) := by kernel_rfl

theorem Ints.veil_own {S : List Nat} {w : World} {base : Nat} {e : TypeId} {k : IntKind} {v : Value} {xs : List Int} (h : w.ownsRow base e 1 v xs.length (xs.map (Value.int k))) (hS : ∀ x ∈ S, x < base) : Ints (veil S w) (veil S w).heap.size k v xs := by
  obtain ⟨A, c, hv, h1, h2, h3, h4⟩ := Ints.of_own h
  refine ⟨A, c, hv, h1, h2, h3, fun i x hi => ?_⟩
  obtain ⟨ad, rfl, hb, c0⟩ := h4 i x hi
  have hob : base ≤ ad.block := by
    rcases h.2 with ⟨hv', _⟩ | ⟨g, cap, cur, hv', hbg, _⟩
    · rw [hv] at hv'; cases hv'
    · rw [hv] at hv'; cases hv'; exact hbg
  have hn : ad.block ∉ S := fun hx => by have := hS _ hx; omega
  exact ⟨ad, rfl, by rw [veil_size]; exact hb, by rw [cell_veil (by rw [block_of_add]; exact hn)]; exact c0⟩
theorem own_ne {W : World} {base g : Nat} {t e : TypeId} {size n : Nat} {v : Value} {xs : List Value} {cs : Array Value} (h : W.ownsRow base e size v n xs) (hb : Blk W g t cs) (hne : t ≠ e) : v.ownBlock ≠ some g := by
  rcases h.2 with ⟨rfl, _⟩ | ⟨g', cap, cur, rfl, _, hg, _⟩
  · intro h; cases h
  · intro he
    simp only [Value.ownBlock, Option.some.injEq] at he
    subst he
    rw [hb] at hg
    cases hg
    exact hne rfl

/-- A new block of integers is an own row. -/
theorem own_new (w : World) (e : TypeId) (ys : List Int) (hl : ys.length ≤ 1000000) :
    (w.alloc (.cells (ys.map (Value.int .i64)).toArray e)).ownsRow w.heap.size e 1 (.slice (some ⟨w.heap.size, 0, none⟩) ys.length ys.length) ys.length (ys.map (Value.int .i64)) :=
  ⟨by simp, .inr ⟨w.heap.size, ys.length, (ys.map (Value.int .i64)).toArray, rfl, Nat.le_refl _, heap_alloc_new w _, Nat.le_refl _, by unfold maxLen; omega, by simp, by simp [List.take_of_length_le]⟩⟩

/-- A mapping of the call's own: its block x, its sequence an own row from block B on. -/
def XAt (W : World) (x B : Nat) (c : Int) (sv : Value) (l : List Int) : Prop :=
  Blk W x 54 #[.int .i64 c, sv] ∧ W.ownsRow B 3 1 sv l.length (l.map (Value.int .i64))
theorem XAt.grown {W W' : World} {x B g : Nat} {c : Int} {sv : Value} {l : List Int} (h : XAt W x B c sv l) (hg : W.grownBy W' (some g)) (hx : g ≠ x) (hB : g < B) : XAt W' x B c sv l :=
  ⟨h.1.grown hg (by intro e; injection e with e; exact hx e.symm), own_grown h.2 hg hB⟩

theorem onlyIn.far {S : List Nat} {a w w' : World} {row : Option Nat} (h : onlyIn S a w) (hg : w.grownBy w' row) (hr : ∀ x, row = some x → a.heap.size ≤ x) : onlyIn S a w' :=
  ⟨hg.os.trans h.1, hg.tape.trans h.2.1, hg.output.trans h.2.2.1, Nat.le_trans h.2.2.2.1 hg.size, fun k hk hl => (hg.block k (Nat.lt_of_lt_of_le hl h.2.2.2.1) (fun e => by have := hr k e.symm; omega)).trans (h.2.2.2.2 k hk hl)⟩
theorem XAt.put1 {W : World} {x B : Nat} {c : Int} {sv sv' : Value} {l : List Int} (hb : Blk W x 54 #[.int .i64 c, sv]) (ho : W.ownsRow B 3 1 sv' l.length (l.map (Value.int .i64))) : XAt (W.setCell ⟨x, 1, none⟩ sv') x B c sv' l :=
  ⟨by simpa using hb.put 1 sv', ho.kept (grown_setCell (grown_refl W (some x)) 1 sv') (.inr (own_ne ho hb (by decide)))⟩

structure MSt (w : World) (g b sb n : Nat) (v c0 c1 c2 c3 c4 c6 c7 c9 c10 c11 : Value) (k : Nat) (v5 v8 : Value) (S : List Sp) (M : List Mp) (st : List Int) (wr : World) : Prop where
  blk : Blk wr b 26 #[c0, c1, c2, c3, c4, v5, c6, c7, v8, c9, c10, c11]
  sp : Spans (veil ([g, b, sb] ++ v8.ownBlock.toList) wr) wr.heap.size v5 S
  om : OwnM [g, b, sb] wr (w.heap.size + 1) v8 M
  src : Src wr g v n
  oi : onlyIn [g, b, sb] w wr
  pool : Blk wr w.heap.size 3 (poolL.map (Value.int .i64)).toArray
  row : StRow wr sb k st

section
variable {w : World} {g b sb n : Nat} {v c0 c1 c2 c3 c4 c6 c7 c9 c10 c11 : Value} {k : Nat} {v5 v8 : Value} {S : List Sp} {M : List Mp} {st : List Int} {wr w' : World}
theorem MSt.own (h : MSt w g b sb n v c0 c1 c2 c3 c4 c6 c7 c9 c10 c11 k v5 v8 S M st wr) : ∀ q, v8.ownBlock = some q → w.heap.size + 1 ≤ q ∧ q < wr.heap.size := fun q hq => by
  obtain ⟨ps, _, _, ho, _⟩ := h.om
  exact ho.lt q hq
theorem MSt.only (h : MSt w g b sb n v c0 c1 c2 c3 c4 c6 c7 c9 c10 c11 k v5 v8 S M st wr) (hgb : g < b) (hbs : b < sb) (hsb : sb < w.heap.size) (ho : onlyIn [g] wr w') (hs : Src w' g v n) :
    MSt w g b sb n v c0 c1 c2 c3 c4 c6 c7 c9 c10 c11 k v5 v8 S M st w' := by
  have ho3 : onlyIn [g, b, sb] wr w' := ho.more fun x hx => by simp at hx ⊢; exact .inl hx
  have hown := h.own
  refine ⟨ho.blk h.blk (by simp; omega), ?_, h.om.kept ho3 (fun q hq hx => by have := hown q hq; simp at hx; omega), hs, h.oi.trans ho3, ho.blk h.pool (by simp; omega), ?_⟩
  · exact (h.sp.reveil (onlyIn_reveil ho3 fun x hx => List.mem_append_left _ hx)).more ho.2.2.2.1
  · obtain ⟨cs, h1, h2⟩ := h.row
    exact ⟨cs, ho.blk h1 (by simp; omega), h2⟩
/-- One status is added; the rest stands. -/
theorem MSt.add (h : MSt w g b sb n v c0 c1 c2 c3 c4 c6 c7 c9 c10 c11 k v5 v8 S M st wr) (hgb : g < b) (hbs : b < sb) (hsb : sb < w.heap.size) {c x : Int} {e : Ending}
    (ret : RetAdd wr.drew b 5 26 #[c0, c1, c2, c3, c4, v5, c6, c7, v8, c9, c10, c11] v5 S c c x e w') :
    ∃ v5' S', e = .returned (.tuple #[]) ∧ MSt w g b sb n v c0 c1 c2 c3 c4 c6 c7 c9 c10 c11 k v5' v8 S' M st w' ∧ (x ≤ 0 → S' = S) ∧ (0 < x → S' = S ++ [(c, c, x)]) := by
  obtain ⟨v5', rfl, hb5, hg0, hz5, hp5⟩ := ret
  have hg5 := undrew hg0
  have ho5 : onlyIn [g, b, sb] wr w' := onlyIn.of_grown hg5 (by simp)
  have hsz := h.oi.2.2.2.1
  have hown := h.own
  have hP5 := h.pool.grown hg5 (by intro e; injection e; omega)
  have hT5 : StRow w' sb k st := by
    obtain ⟨cs, h1, h2⟩ := h.row
    exact ⟨cs, h1.grown hg5 (by intro e; injection e; omega), h2⟩
  have hs5 : Src w' g v n := by
    obtain ⟨i, h1, h2⟩ := h.src
    exact ⟨i, h1, h2.grown hg5 (by intro e; injection e; omega)⟩
  have hM5 := h.om.kept ho5 (fun q hq hx => by have := hown q hq; simp at hx; omega)
  by_cases h0 : x ≤ 0
  · refine ⟨v5', S, rfl, ⟨by simpa using hb5, ?_, hM5, hs5, h.oi.trans ho5, hP5, hT5⟩, fun _ => rfl, fun h => absurd h (by omega)⟩
    rw [hz5 h0]
    exact (h.sp.reveil (onlyIn_reveil ho5 fun x hx => List.mem_append_left _ hx)).more hg5.size
  · refine ⟨v5', S ++ [(c, c, x)], rfl, ⟨by simpa using hb5, ?_, hM5, hs5, h.oi.trans ho5, hP5, hT5⟩, fun h => absurd h h0, fun _ => rfl⟩
    have h' := hp5 (by omega) ([g, b, sb] ++ v8.ownBlock.toList) (fun q hq => by
      show q < wr.heap.size
      rcases List.mem_append.1 hq with hq | hq
      · simp at hq; omega
      · rw [Option.mem_toList] at hq; exact (hown q hq).2)
    rw [veil_size] at h'
    exact h'
theorem MSt.up (h : MSt w g b sb n v c0 c1 c2 c3 c4 c6 c7 c9 c10 c11 k v5 v8 S M st wr) {st' : List Int} (hst : ∀ j x, k + 1 ≤ j → st'[j]? = some x → st[j]? = some x) : MSt w g b sb n v c0 c1 c2 c3 c4 c6 c7 c9 c10 c11 (k + 1) v5 v8 S M st' wr :=
  ⟨h.blk, h.sp, h.om, h.src, h.oi, h.pool, by
    obtain ⟨cs, h1, h2⟩ := h.row
    exact ⟨cs, h1, fun j x hj hx => h2 j x (by omega) (hst j x hj hx)⟩⟩
/-- A mapping is appended to the own row. -/
theorem MSt.append (h : MSt w g b sb n v c0 c1 c2 c3 c4 c6 c7 c9 c10 c11 k v5 v8 S M st wr) (hgb : g < b) (hbs : b < sb) (hsb : sb < w.heap.size) {X : World} {v8' : Value} {M' : List Mp}
    (ho : onlyIn [] wr X) (hg : X.grownBy w' v8.ownBlock) (hr : ∀ q, v8'.ownBlock = some q → v8.ownBlock = some q ∨ q = X.heap.size) (hM : OwnM [g, b, sb] w' (w.heap.size + 1) v8' M') :
    MSt w g b sb n v c0 c1 c2 c3 c4 c6 c7 c9 c10 c11 k v5 v8' S M' st (w'.setCell ⟨b, 8, none⟩ v8') := by
  have hown := h.own
  have hsz := h.oi.2.2.2.1
  have hnot : ∀ q, q < w.heap.size + 1 → some q ≠ v8.ownBlock := fun q hq e => by have := hown q e.symm; omega
  have hbX : Blk X b 26 #[c0, c1, c2, c3, c4, v5, c6, c7, v8, c9, c10, c11] := ho.blk h.blk (by simp)
  have ho3 : onlyIn [g, b, sb] wr X := ho.more (by simp)
  have hset : onlyIn [g, b, sb] w' (w'.setCell ⟨b, 8, none⟩ v8') := onlyIn.of_grown (grown_setCell (grown_refl w' (some b)) 8 v8') (by simp)
  have hgs : w'.grownBy (w'.setCell ⟨b, 8, none⟩ v8') (some b) := grown_setCell (grown_refl w' (some b)) 8 v8'
  have hXs : wr.heap.size ≤ X.heap.size := ho.2.2.2.1
  refine ⟨?_, ?_, ?_, ?_, ?_, ?_, ?_⟩
  · simpa using (hbX.grown hg (hnot b (by omega))).put 8 v8'
  · exact (((((h.sp.reveil (onlyIn_reveil ho3 fun x hx => List.mem_append_left _ hx)).more hXs).reveil (grown_reveil (v' := v8') hg hr)).more hg.size).reveil (onlyIn_reveil hset fun x hx => List.mem_append_left _ hx)).more hset.2.2.2.1
  · exact hM.kept hset (fun q hq hx => by
      rcases hr q hq with e | e
      · have := hown q e; simp at hx; omega
      · simp at hx; omega)
  · obtain ⟨i, h1, h2⟩ := h.src
    exact ⟨i, h1, ((ho.blk h2 (by simp)).grown hg (hnot g (by omega))).far (by simp; omega) _⟩
  · have oX := h.oi.trans ho3
    refine onlyIn.trans ⟨hg.os.trans oX.1, hg.tape.trans oX.2.1, hg.output.trans oX.2.2.1, Nat.le_trans oX.2.2.2.1 hg.size, fun q hq hl => (hg.block q (by have := oX.2.2.2.1; omega) (hnot q (by omega))).trans (oX.2.2.2.2 q hq hl)⟩ hset
  · exact ((ho.blk h.pool (by simp)).grown hg (hnot _ (by omega))).far (by simp; omega) _
  · obtain ⟨cs, h1, h2⟩ := h.row
    exact ⟨cs, ((ho.blk h1 (by simp)).grown hg (hnot _ (by omega))).far (by simp; omega) _, h2⟩
theorem MSt.status (h : MSt w g b sb n v c0 c1 c2 c3 c4 c6 c7 c9 c10 c11 k v5 v8 S M st wr) (hgb : g < b) (hbs : b < sb) (hsb : sb < w.heap.size) (x : Int) :
    MSt w g b sb n v c0 c1 c2 c3 c4 c6 c7 c9 c10 c11 k v5 v8 S M (st.set k x) (wr.setCell ⟨sb, k, none⟩ (.int .i64 x)) := by
  have ho : onlyIn [g, b, sb] wr (wr.setCell ⟨sb, k, none⟩ (.int .i64 x)) := onlyIn.of_grown (grown_setCell (grown_refl wr (some sb)) k _) (by simp)
  have hown := h.own
  refine ⟨h.blk.far (by simp; omega) _, (h.sp.reveil (onlyIn_reveil ho fun x hx => List.mem_append_left _ hx)).more ho.2.2.2.1, h.om.kept ho (fun q hq hx => by have := hown q hq; simp at hx; omega), ?_, h.oi.trans ho, h.pool.far (by simp; omega) _, ?_⟩
  · obtain ⟨i, h1, h2⟩ := h.src
    exact ⟨i, h1, h2.far (by simp; omega) _⟩
  · obtain ⟨cs, h1, h2⟩ := h.row
    refine ⟨_, h1.put k _, fun j y hj hy => ?_⟩
    rw [Array.getElem?_setIfInBounds]
    by_cases hjk : k = j
    · subst hjk
      rw [List.getElem?_set] at hy
      simp only [if_true] at hy
      split at hy
      · cases hy
        have := h2 k _ (Nat.le_refl _) (List.getElem?_eq_getElem (by assumption))
        have := (Array.getElem?_eq_some_iff.1 this).1
        simp [this]
      · cases hy
    · rw [if_neg hjk]
      exact h2 j y hj (by rw [List.getElem?_set_ne hjk] at hy; exact hy)
end
end Go.Proofs.YtkdhldhbjomiaaaDoor
/-
  The state of keep.decomps' loop, and what keeps it.
-/
namespace Go.Proofs.YtkdhldhbjomiaaaDoor
open Go.RowKit ND

theorem OwnM.restrict {S S' : List Nat} {w : World} {base : Nat} {v : Value} {D : List Mp} (h : OwnM S w base v D) (hS : ∀ x ∈ S', x ∈ S) : OwnM S' w base v D := by
  obtain ⟨ps, hm, hlen, hown, hr⟩ := h
  refine ⟨ps, hm, hlen, hown, fun i p d hp hd => (hr i p d hp hd).reveil fun p x _ hn hx => ⟨fun h => hn ?_, hx⟩⟩
  rcases List.mem_append.1 h with h | h
  · exact List.mem_append_left _ (hS _ h)
  · exact List.mem_append_right _ h
theorem own_own {W : World} {base base' : Nat} {t e : TypeId} {size size' n n' : Nat} {v v' : Value} {xs xs' : List Value} (h : W.ownsRow base e size v n xs) (h' : W.ownsRow base' t size' v' n' xs') (hne : t ≠ e) : ∀ q, v.ownBlock = some q → v'.ownBlock ≠ some q := by
  intro q hq
  rcases h.2 with ⟨rfl, _⟩ | ⟨g', cap, cur, rfl, _, hg, _⟩
  · cases hq
  · simp only [Value.ownBlock, Option.some.injEq] at hq
    subst hq
    exact own_ne h' (show Blk W g' e cur from hg) (fun e => hne e.symm)

theorem Blk.drew {w : World} {g : Nat} {t : TypeId} {cs : Array Value} (h : Blk w g t cs) : Blk w.drew g t cs := h
theorem own_one {W : World} {B g : Nat} {e : TypeId} {u : Value} (h : W.ownsRow B e 1 (.slice (some ⟨g, 0, none⟩) 1 1) 1 [u]) : Blk W g e #[u] := by
  rcases h.2 with ⟨h, _⟩ | ⟨g', cap, cur, hv, _, hg, _, _, hs, ht⟩
  · cases h
  · cases hv
    have e1 : cur.toList = [u] := by rw [← ht, List.take_of_length_le (by rw [Array.length_toList, hs]; omega)]
    have e2 : cur = #[u] := by rw [← Array.toList_inj, e1]
    rw [← e2]; exact hg
theorem own_of_one {W : World} {B g : Nat} {e : TypeId} {u : Value} (h : Blk W g e #[u]) (hB : B ≤ g) : W.ownsRow B e 1 (.slice (some ⟨g, 0, none⟩) 1 1) 1 [u] :=
  ⟨rfl, .inr ⟨g, 1, #[u], rfl, hB, h, Nat.le_refl _, by decide, rfl, rfl⟩⟩

theorem Ints.veil_own' {S : List Nat} {w : World} {base : Nat} {e : TypeId} {k : IntKind} {v : Value} {xs : List Int} (h : w.ownsRow base e 1 v xs.length (xs.map (Value.int k))) (hS : ∀ q, v.ownBlock = some q → q ∉ S) : Ints (veil S w) w.heap.size k v xs := by
  obtain ⟨A, c, hv, h1, h2, h3, h4⟩ := Ints.of_own h
  refine ⟨A, c, hv, h1, h2, h3, fun i x hi => ?_⟩
  obtain ⟨ad, rfl, hb, c0⟩ := h4 i x hi
  have hn : ad.block ∉ S := hS ad.block (by rw [hv]; rfl)
  exact ⟨ad, rfl, hb, by rw [cell_veil (by rw [block_of_add]; exact hn)]; exact c0⟩
theorem XAt.below {W W' : World} {x B : Nat} {c : Int} {sv : Value} {l : List Int} (h : XAt W x B c sv l) (hb : Below W.heap.size W W') : XAt W' x B c sv l :=
  ⟨h.1.later hb, own_later h.2 hb⟩
theorem XAt.far {W W' : World} {x B : Nat} {row : Option Nat} {c : Int} {sv : Value} {l : List Int} (h : XAt W x B c sv l) (hg : W.grownBy W' row) (h1 : row ≠ some x) (h2 : ∀ q, sv.ownBlock = some q → row ≠ some q) : XAt W' x B c sv l :=
  ⟨h.1.grown hg (fun e => h1 e.symm), h.2.kept hg (by
    cases hv : sv.ownBlock with
    | none => exact .inl rfl
    | some q => exact .inr (fun e => h2 q hv e.symm))⟩
theorem Src.below {W W' : World} {g n : Nat} {v : Value} (h : Src W g v n) (hb : Below W.heap.size W W') : Src W' g v n := by
  obtain ⟨i, h1, h2⟩ := h
  exact ⟨i, h1, h2.later hb⟩
theorem take_ne {D : List Mp} {l : List Int} {j : Nat} {d : Mp} (hd : D[j]? = some d) (h : ∀ d ∈ D.take j, d.2 ≠ l) (hl : d.2 ≠ l) : ∀ d ∈ D.take (j + 1), d.2 ≠ l := by
  intro x hx
  rw [take_snoc_get hd] at hx
  rcases List.mem_append.1 hx with hx | hx
  · exact h x hx
  · rw [List.mem_singleton] at hx; subst hx; exact hl

structure DSt (w : World) (g b n : Nat) (v c0 c1 c2 c3 c4 c5 c6 c7 c8 c11 : Value) (v9 v10 : Value) (D : List Mp) (X : List Int) (wr : World) : Prop where
  blk : Blk wr b 26 #[c0, c1, c2, c3, c4, c5, c6, c7, c8, v9, v10, c11]
  om : OwnM (List.range w.heap.size ++ v10.ownBlock.toList) wr w.heap.size v9 D
  ox : wr.ownsRow w.heap.size 3 1 v10 X.length (X.map (Value.int .i64))
  src : Src wr g v n
  oi : onlyIn [g, b] w wr

section
variable {w : World} {g b n : Nat} {v c0 c1 c2 c3 c4 c5 c6 c7 c8 c11 : Value} {v9 v10 : Value} {D : List Mp} {X : List Int} {wr w' : World}
theorem DSt.own9 (h : DSt w g b n v c0 c1 c2 c3 c4 c5 c6 c7 c8 c11 v9 v10 D X wr) : ∀ q, v9.ownBlock = some q → w.heap.size ≤ q ∧ q < wr.heap.size := fun q hq => by
  obtain ⟨ps, _, _, ho, _⟩ := h.om
  exact ho.lt q hq
theorem DSt.own10 (h : DSt w g b n v c0 c1 c2 c3 c4 c5 c6 c7 c8 c11 v9 v10 D X wr) : ∀ q, v10.ownBlock = some q → w.heap.size ≤ q ∧ q < wr.heap.size := fun q hq => h.ox.lt q hq
theorem DSt.apart (h : DSt w g b n v c0 c1 c2 c3 c4 c5 c6 c7 c8 c11 v9 v10 D X wr) : ∀ q, v9.ownBlock = some q → v10.ownBlock ≠ some q := by
  obtain ⟨ps, _, _, ho, _⟩ := h.om
  exact own_own ho h.ox (by decide)
theorem DSt.only (h : DSt w g b n v c0 c1 c2 c3 c4 c5 c6 c7 c8 c11 v9 v10 D X wr) (hgb : g < b) (hb : b < w.heap.size) (ho : onlyIn [g] wr w') (hs : Src w' g v n) :
    DSt w g b n v c0 c1 c2 c3 c4 c5 c6 c7 c8 c11 v9 v10 D X w' := by
  have h9 := h.own9
  have h10 := h.own10
  refine ⟨ho.blk h.blk (by simp; omega), h.om.kept (ho.more fun x hx => List.mem_append_left _ (by simp at hx ⊢; omega)) (fun q hq hx => ?_), ?_, hs, h.oi.trans (ho.more fun x hx => by simp at hx ⊢; exact .inl hx)⟩
  · rcases List.mem_append.1 hx with hx | hx
    · have := h9 q hq; simp at hx; omega
    · rw [Option.mem_toList] at hx; exact h.apart q hq hx
  · refine ⟨h.ox.1, ?_⟩
    rcases h.ox.2 with hn | ⟨q, cap, cur, rfl, hq, hg, hrest⟩
    · exact .inl hn
    · exact .inr ⟨q, cap, cur, rfl, hq, ho.blk hg (by simp; omega), hrest⟩
/-- A mapping is appended to the own row. -/
theorem DSt.append (h : DSt w g b n v c0 c1 c2 c3 c4 c5 c6 c7 c8 c11 v9 v10 D X wr) (hgb : g < b) (hb : b < w.heap.size) {Y : World} {v9' : Value} {D' : List Mp}
    (ho : onlyIn [] wr Y) (hg : Y.grownBy w' v9.ownBlock) (hM : OwnM (List.range w.heap.size ++ v10.ownBlock.toList) w' w.heap.size v9' D') :
    DSt w g b n v c0 c1 c2 c3 c4 c5 c6 c7 c8 c11 v9' v10 D' X (w'.setCell ⟨b, 9, none⟩ v9') := by
  have h9 := h.own9
  have h10 := h.own10
  have hnot : ∀ q, q < w.heap.size → some q ≠ v9.ownBlock := fun q hq e => by have := h9 q e.symm; omega
  have hset : w'.grownBy (w'.setCell ⟨b, 9, none⟩ v9') (some b) := grown_setCell (grown_refl w' (some b)) 9 v9'
  have hox' : w'.ownsRow w.heap.size 3 1 v10 X.length (X.map (Value.int .i64)) := by
    refine ⟨h.ox.1, ?_⟩
    rcases h.ox.2 with hn | ⟨q, cap, cur, rfl, hq, hgq, hrest⟩
    · exact .inl hn
    · exact .inr ⟨q, cap, cur, rfl, hq, Blk.grown (show Blk Y q 3 cur from ho.blk hgq (by simp)) hg (fun e => h.apart q e.symm rfl), hrest⟩
  have hno9 : ∀ q, v9'.ownBlock = some q → w.heap.size ≤ q ∧ v10.ownBlock ≠ some q := fun q hq => by
    obtain ⟨ps, _, _, hown, _⟩ := hM
    exact ⟨(hown.lt q hq).1, own_own hown hox' (by decide) q hq⟩
  refine ⟨?_, ?_, ?_, ?_, ?_⟩
  · simpa using ((ho.blk h.blk (by simp)).grown hg (hnot b (by omega))).put 9 v9'
  · refine hM.kept (onlyIn.of_grown hset (List.mem_append_left _ (by simp; omega))) fun q hq hx => ?_
    rcases List.mem_append.1 hx with hx | hx
    · have := hno9 q hq; simp at hx; omega
    · rw [Option.mem_toList] at hx; exact (hno9 q hq).2 hx
  · exact hox'.kept hset (by
      cases hv : v10.ownBlock with
      | none => exact .inl rfl
      | some q => have := h10 q hv; refine .inr (fun e => ?_); injection e; omega)
  · obtain ⟨i, h1, h2⟩ := h.src
    exact ⟨i, h1, ((ho.blk h2 (by simp)).grown hg (hnot g (by omega))).far (by simp; omega) _⟩
  · have oX := h.oi.trans (ho.more (S' := [g, b]) (by simp))
    refine onlyIn.trans ⟨hg.os.trans oX.1, hg.tape.trans oX.2.1, hg.output.trans oX.2.2.1, Nat.le_trans oX.2.2.2.1 hg.size, fun q hq hl => (hg.block q (by have := oX.2.2.2.1; omega) (hnot q (by omega))).trans (oX.2.2.2.2 q hq hl)⟩ (onlyIn.of_grown hset (by simp))
/-- A code point is excluded. -/
theorem DSt.exclude (h : DSt w g b n v c0 c1 c2 c3 c4 c5 c6 c7 c8 c11 v9 v10 D X wr) (hgb : g < b) (hb : b < w.heap.size) {Y : World} {v10' : Value} {X' : List Int}
    (ho : onlyIn [] wr Y) (hg : Y.grownBy w' v10.ownBlock) (hr : ∀ q, v10'.ownBlock = some q → v10.ownBlock = some q ∨ q = Y.heap.size) (hX : w'.ownsRow w.heap.size 3 1 v10' X'.length (X'.map (Value.int .i64))) :
    DSt w g b n v c0 c1 c2 c3 c4 c5 c6 c7 c8 c11 v9 v10' D X' (w'.setCell ⟨b, 10, none⟩ v10') := by
  have h9 := h.own9
  have h10 := h.own10
  have hnot : ∀ q, q < w.heap.size → some q ≠ v10.ownBlock := fun q hq e => by have := h10 q e.symm; omega
  have hset : w'.grownBy (w'.setCell ⟨b, 10, none⟩ v10') (some b) := grown_setCell (grown_refl w' (some b)) 10 v10'
  have hYs : wr.heap.size ≤ Y.heap.size := ho.2.2.2.1
  refine ⟨?_, ?_, ?_, ?_, ?_⟩
  · simpa using ((ho.blk h.blk (by simp)).grown hg (hnot b (by omega))).put 10 v10'
  · have ho' : onlyIn (List.range w.heap.size ++ v10.ownBlock.toList) wr (w'.setCell ⟨b, 10, none⟩ v10') := by
      refine (ho.more (by simp)).trans ((onlyIn.of_own hg fun q hq => ?_).trans (onlyIn.of_grown hset (List.mem_append_left _ (by simp; omega))))
      exact List.mem_append_right _ (by rw [Option.mem_toList]; exact hq)
    have hk := h.om.kept ho' (fun q hq hx => by
      rcases List.mem_append.1 hx with hx | hx
      · have := h9 q hq; simp at hx; omega
      · rw [Option.mem_toList] at hx; exact h.apart q hq hx)
    obtain ⟨ps, hm, hlen, hown, hrd⟩ := h.om
    obtain ⟨ps0, hm0, hlen0, hown0, hrd0⟩ := hk
    have hsz : w'.heap.size ≤ (w'.setCell ⟨b, 10, none⟩ v10').heap.size := hset.size
    refine ⟨ps, hm, hlen, ?_, fun i p d hp hd => ?_⟩
    · refine ⟨hown.1, ?_⟩
      rcases hown.2 with hn | ⟨q, cap, cur, rfl, hb', hgq, hrest⟩
      · exact .inl hn
      · refine .inr ⟨q, cap, cur, rfl, hb', ?_, hrest⟩
        have hlt : q < wr.heap.size := (Array.getElem?_eq_some_iff.1 hgq).1
        have hqb := h9 q rfl
        exact ((Blk.grown (show Blk Y q 54 cur from ho.blk hgq (by simp)) hg (fun e => h.apart q rfl e.symm))).far (by simp; omega) _
    · refine (((hrd i p d hp hd).reveil (S' := List.range w.heap.size ++ v10'.ownBlock.toList ++ v9.ownBlock.toList) (w' := w'.setCell ⟨b, 10, none⟩ v10') fun pp x hpb hpn hpc => ?_)).more (Nat.le_trans hYs (Nat.le_trans hg.size hsz))
      simp only [List.mem_append, Option.mem_toList, not_or] at hpn ⊢
      obtain ⟨⟨hn1, hn2⟩, hn3⟩ := hpn
      refine ⟨⟨⟨hn1, fun e => ?_⟩, hn3⟩, ?_⟩
      · rcases hr _ e with e | e
        · exact hn2 e
        · omega
      · have e1 := ho.2.2.2.2 pp.block (by simp) hpb
        have e2 := hg.block pp.block (by omega) (fun e => hn2 e.symm)
        have e3 := hset.block pp.block (by have := hg.size; omega) (fun e => by injection e with e; rw [e] at hn1; simp at hn1; omega)
        unfold World.cell? at hpc ⊢
        rw [e3, e2, e1]; exact hpc
  · exact hX.kept hset (by
      cases hv : v10'.ownBlock with
      | none => exact .inl rfl
      | some q => have := (hX.lt q hv).1; refine .inr (fun e => ?_); injection e; omega)
  · obtain ⟨i, h1, h2⟩ := h.src
    exact ⟨i, h1, ((ho.blk h2 (by simp)).grown hg (hnot g (by omega))).far (by simp; omega) _⟩
  · have oX := h.oi.trans (ho.more (S' := [g, b]) (by simp))
    refine onlyIn.trans ⟨hg.os.trans oX.1, hg.tape.trans oX.2.1, hg.output.trans oX.2.2.1, Nat.le_trans oX.2.2.2.1 hg.size, fun q hq hl => (hg.block q (by have := oX.2.2.2.1; omega) (hnot q (by omega))).trans (oX.2.2.2.2 q hq hl)⟩ (onlyIn.of_grown hset (by simp))
end
end Go.Proofs.YtkdhldhbjomiaaaDoor
/-
  The state of keep.prototypes' loop, and what keeps it.
-/
namespace Go.Proofs.YtkdhldhbjomiaaaDoor
open Go.RowKit ND

theorem TabR.reveil {S S' : List Nat} {w w' : World} {B : Nat} {t : Tv} {T : Tab} (h : TabR (veil S w) B t T)
    (hk : ∀ p x, p.block < B → p.block ∉ S → w.cell? p = some x → p.block ∉ S' ∧ w'.cell? p = some x) : TabR (veil S' w') B t T :=
  ⟨h.r0.reveil hk, h.r1.reveil hk, h.r2.reveil hk, h.r3.reveil hk, h.r4.reveil hk, h.r5.reveil hk, h.r6.reveil hk, h.r7.reveil hk, h.r8.reveil hk, h.r9.reveil hk, h.r10.reveil hk, h.r11.reveil hk⟩

theorem Ints.of_blk {S : List Nat} {W : World} {k : Nat} {e : TypeId} {ys : List Int} (hb : Blk W k e (ys.map (Value.int .i64)).toArray) (hk : k ∉ S) (hl : ys.length ≤ 1000000) : Ints (veil S W) W.heap.size .i64 (.slice (some ⟨k, 0, none⟩) ys.length ys.length) ys :=
  ⟨_, _, rfl, Nat.le_refl _, by unfold maxLen; omega, (by intro h; cases h), fun i x hi => ⟨_, rfl, hb.lt, by
    rw [cell_veil (by rw [block_of_add]; exact hk)]
    have : Addr.add ⟨k, 0, none⟩ i = ⟨k, i, none⟩ := by cases i <;> simp [Addr.add]
    rw [this]
    exact hb.at_ (by simp [hi])⟩⟩
theorem Mapps.of_blk {S : List Nat} {W : World} {k : Nat} {ps : List (Int × Value)} {D : List Mp} (hb : Blk W k 54 (mpCells ps).toArray) (hk : k ∉ S) (hl : ps.length ≤ 1000000) (hm : ps.map (·.1) = D.map (·.1))
    (hi : ∀ (i : Nat) (p : Int × Value) (d : Mp), ps[i]? = some p → D[i]? = some d → Ints (veil S W) W.heap.size .i64 p.2 d.2) : Mapps (veil S W) W.heap.size (.slice (some ⟨k, 0, none⟩) D.length ps.length) D := by
  have hlen : ps.length = D.length := by have := congrArg List.length hm; simpa using this
  refine ⟨_, _, rfl, by omega, by unfold maxLen; omega, (by intro h; cases h), fun i d hd => ?_⟩
  obtain ⟨p, hp⟩ : ∃ p, ps[i]? = some p := by
    have := (List.getElem?_eq_some_iff.1 hd).1
    exact ⟨_, List.getElem?_eq_getElem (by omega)⟩
  obtain ⟨a0, a1⟩ := mpCells_at hp
  have e1 : p.1 = d.1 := by
    have h1 : (ps.map (·.1))[i]? = (D.map (·.1))[i]? := by rw [hm]
    rw [List.getElem?_map, List.getElem?_map, hp, hd] at h1
    simpa using h1
  have hc : ∀ (j : Nat) (u : Value), (mpCells ps)[j]? = some u → (veil S W).cell? (Addr.add ⟨k, 0, none⟩ j) = some u := fun j u hj => by
    rw [cell_veil (by rw [block_of_add]; exact hk)]
    have : Addr.add ⟨k, 0, none⟩ j = ⟨k, j, none⟩ := by cases j <;> simp [Addr.add]
    rw [this]
    exact hb.at_ (by simpa using hj)
  exact ⟨_, p.2, rfl, hb.lt, by rw [← e1]; exact hc _ _ a0, hc _ _ a1, hi i p d hp hd⟩

structure PSt (w : World) (g b n : Nat) (v : Value) (t : Tv) (T : Tab) (lv : Value) (v11 : Value) (D : List Mp) (wr : World) : Prop where
  blk : Blk wr b 26 #[t.c0, t.c1, t.c2, t.c3, t.c4, t.c5, t.c6, t.c7, t.c8, t.c9, t.c10, v11]
  tr : TabR (veil ([g, b] ++ v11.ownBlock.toList) wr) wr.heap.size { t with c11 := .slice none 0 0 } { T with prototypes := [] }
  om : OwnM [g, b] wr w.heap.size v11 D
  lit : Mapps (veil ([g, b] ++ v11.ownBlock.toList) wr) wr.heap.size lv protoL
  src : Src wr g v n
  oi : onlyIn [g, b] w wr

section
variable {w : World} {g b n : Nat} {v : Value} {t : Tv} {T : Tab} {lv v11 : Value} {D : List Mp} {wr w' : World}
theorem PSt.own (h : PSt w g b n v t T lv v11 D wr) : ∀ q, v11.ownBlock = some q → w.heap.size ≤ q ∧ q < wr.heap.size := fun q hq => by
  obtain ⟨ps, _, _, ho, _⟩ := h.om
  exact ho.lt q hq
theorem PSt.only (h : PSt w g b n v t T lv v11 D wr) (hgb : g < b) (hb : b < w.heap.size) (ho : onlyIn [g] wr w') (hs : Src w' g v n) : PSt w g b n v t T lv v11 D w' := by
  have hown := h.own
  have ho2 : onlyIn [g, b] wr w' := ho.more fun x hx => by simp at hx ⊢; exact .inl hx
  have hk := onlyIn_reveil (S1 := [g, b] ++ v11.ownBlock.toList) ho2 fun x hx => List.mem_append_left _ hx
  exact ⟨ho.blk h.blk (by simp; omega), (h.tr.reveil hk).more ho.2.2.2.1, h.om.kept ho2 (fun q hq hx => by have := hown q hq; simp at hx; omega), (h.lit.reveil hk).more ho.2.2.2.1, hs, h.oi.trans ho2⟩
/-- A mapping is appended to the own row. -/
theorem PSt.append (h : PSt w g b n v t T lv v11 D wr) (hgb : g < b) (hb : b < w.heap.size) {Y : World} {v11' : Value} {D' : List Mp}
    (ho : onlyIn [] wr Y) (hg : Y.grownBy w' v11.ownBlock) (hr : ∀ q, v11'.ownBlock = some q → v11.ownBlock = some q ∨ q = Y.heap.size) (hM : OwnM [g, b] w' w.heap.size v11' D') :
    PSt w g b n v t T lv v11' D' (w'.setCell ⟨b, 11, none⟩ v11') := by
  have hown := h.own
  have hnot : ∀ q, q < w.heap.size → some q ≠ v11.ownBlock := fun q hq e => by have := hown q e.symm; omega
  have hset : w'.grownBy (w'.setCell ⟨b, 11, none⟩ v11') (some b) := grown_setCell (grown_refl w' (some b)) 11 v11'
  have hso : onlyIn [g, b] w' (w'.setCell ⟨b, 11, none⟩ v11') := onlyIn.of_grown hset (by simp)
  have ho2 : onlyIn [g, b] wr Y := ho.more (by simp)
  have k1 := onlyIn_reveil (S1 := [g, b] ++ v11.ownBlock.toList) ho2 fun x hx => List.mem_append_left _ hx
  have k2 := grown_reveil (S := [g, b]) (v := v11) (v' := v11') hg hr
  have k3 := onlyIn_reveil (S1 := [g, b] ++ v11'.ownBlock.toList) hso fun x hx => List.mem_append_left _ hx
  refine ⟨?_, ?_, ?_, ?_, ?_, ?_⟩
  · simpa using ((ho.blk h.blk (by simp)).grown hg (hnot b (by omega))).put 11 v11'
  · exact ((((((h.tr.reveil k1).more ho.2.2.2.1).reveil k2).more hg.size).reveil k3)).more hset.size
  · exact hM.kept hso (fun q hq hx => by
      rcases hr q hq with e | e
      · have := hown q e; simp at hx; omega
      · have := ho.2.2.2.1; have := h.oi.2.2.2.1; simp at hx; omega)
  · exact ((((((h.lit.reveil k1).more ho.2.2.2.1).reveil k2).more hg.size).reveil k3)).more hset.size
  · obtain ⟨i, h1, h2⟩ := h.src
    exact ⟨i, h1, ((ho.blk h2 (by simp)).grown hg (hnot g (by omega))).far (by simp; omega) _⟩
  · have oX := h.oi.trans ho2
    exact onlyIn.trans ⟨hg.os.trans oX.1, hg.tape.trans oX.2.1, hg.output.trans oX.2.2.1, Nat.le_trans oX.2.2.2.1 hg.size, fun q hq hl => (hg.block q (by have := oX.2.2.2.1; omega) (hnot q (by omega))).trans (oX.2.2.2.2 q hq hl)⟩ hso
/-- The whole of the tables. -/
theorem PSt.tab (h : PSt w g b n v t T lv v11 D wr) (hgb : g < b) (hb : b < w.heap.size) : TabR (veil [g, b] wr) wr.heap.size { t with c11 := v11 } { T with prototypes := D } := by
  have hk : ∀ (p : Addr) (x : Value), p.block < wr.heap.size → p.block ∉ [g, b] ++ v11.ownBlock.toList → wr.cell? p = some x → p.block ∉ [g, b] ∧ wr.cell? p = some x := fun p x _ hn hx => ⟨fun h => hn (List.mem_append_left _ h), hx⟩
  have hm := h.om.mapps (by intro x hx; simp at hx; omega)
  rw [veil_size] at hm
  have ht := h.tr.reveil hk
  exact ⟨ht.r0, ht.r1, ht.r2, ht.r3, ht.r4, ht.r5, ht.r6, ht.r7, ht.r8, ht.r9, ht.r10, hm⟩
end
end Go.Proofs.YtkdhldhbjomiaaaDoor
/-
  A region that draws its order, whose first operations can come up in one order alone: they are walked one by one; what is left is quiet.
-/
namespace Go.Proofs.YtkdhldhbjomiaaaDoor
open Go.RowKit

theorem wpAny_one {P : Program} {ops : Array Oper} {Q : Exit → Act → World → Prop} {md : Region.Mode} {fuel : Nat} {listed : Array Bool} {a : Act} {w : World} (i : Nat) (o : Oper) (hr : Region.ready md ops listed = [i]) (ho : ops[i]? = some o)
    (h : ∀ K : Act → World → Prop, (∀ a w, wpAny P md ops Q fuel (listed.setIfInBounds i true) a w → K a w) → if Region.wanted o (yielded ops a.tmps) = true then o.wp P a w K Q else K (a.put o.dst undef) w) :
    wpAny P md ops Q (fuel + 1) listed a w := by
  refine ⟨fun h0 => absurd (hr.symm.trans h0) (by simp), fun j hj => ?_⟩
  rw [hr, List.mem_singleton] at hj
  subst hj
  have h1 := h _ (fun _ _ h => h)
  unfold wpOp
  rw [ho]
  simp only
  split
  · rename_i hw; rw [if_pos hw] at h1; exact .inl h1
  · rename_i hw; rw [if_neg hw] at h1; exact h1

theorem wpAny_below {P : Program} {ops : Array Oper} {Q : Exit → Act → World → Prop} {listed : Array Bool} {a : Act} {w : World} {n : Nat} (k : Nat) (l : List Oper) (hl : l = ops.toList.drop k) (hn : l.length = n) (hs : Region.noSelect ops = true) (hB : Region.lexFrom .any ops n k listed = true)
    (h : wpQuiet P ops (fun w' => ∃ p : Regrown, w' = Go.Sort.grow (redrawn w p.d) p.os) (fun a' => ∀ w', (∃ p : Regrown, w' = Go.Sort.grow (redrawn w p.d) p.os) → Q .normal a' w') l a) : wpAny P .any ops Q n listed a w := by
  subst hn
  refine wpAny_of_quiet (C := fun w' => ∃ p : Regrown, w' = Go.Sort.grow (redrawn w p.d) p.os) (Q := fun a' => ∀ w', (∃ p : Regrown, w' = Go.Sort.grow (redrawn w p.d) p.os) → Q .normal a' w') (fun _ w' hw' h => h w' hw') _ _ _ _ ⟨⟨w.drawn, #[]⟩, by rw [Go.Sort.grow_empty]; rfl⟩ ?_
  refine wpAnyQ_lex hs l k _ _ (fun j => ?_) hB h
  subst hl
  simp [List.getElem?_drop]
end Go.Proofs.YtkdhldhbjomiaaaDoor
