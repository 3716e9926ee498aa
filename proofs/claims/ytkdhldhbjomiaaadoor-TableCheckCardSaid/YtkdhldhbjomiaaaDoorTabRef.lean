/-
  The walks through the reference's value, find, Class, Joining, Ignorable, Status, Excluded, and through table.Excluded.
-/
import Derived.Test.YtkdhldhbjomiaaaDoorTabR1
import Derived.Test.YtkdhldhbjomiaaaDoorTabProps
namespace Go.Proofs.YtkdhldhbjomiaaaDoor
open Go.RowKit ND

theorem value_go {l : List Sp} {k : Nat} {s : Sp} {c R : Int} (hx : l[k]? = some s) (h : valueL (l.drop k) c = R) (h1 : ¬(s.1 ≤ c ∧ c ≤ s.2.1)) : valueL (l.drop (k + 1)) c = R := by
  rw [drop_of_get hx, valueL, if_neg h1] at h; exact h
theorem value_hit {l : List Sp} {k : Nat} {s : Sp} {c R : Int} (hx : l[k]? = some s) (h : valueL (l.drop k) c = R) (h1 : s.1 ≤ c ∧ c ≤ s.2.1) : R = s.2.2 := by
  rw [drop_of_get hx, valueL, if_pos h1] at h; exact h.symm
theorem value_end {l : List Sp} {k : Nat} {c R : Int} (hk : l.length ≤ k) (h : valueL (l.drop k) c = R) : R = 0 := by
  rw [List.drop_eq_nil_of_le hk] at h; exact h.symm

set_option maxRecDepth 100000 in
set_option maxHeartbeats 1000000 in
theorem refValue_any (v : Value) (xs : List Sp) (c : Int) (w : World) (hv : Spans w w.heap.size v xs) :
    Calls Tryd.prog 119 #[v, .int .i64 c] w fun e w' => e = .returned (.int .i64 (valueL xs c)) ∧ Below w.heap.size w w' := by
  obtain ⟨A, cp, rfl, hc1, hc2, _, hcell⟩ := hv
  have HC := Lib.hid hcell
  have hlm : xs.length ≤ 9223372036854775807 := by unfold maxLen at hc2; omega
  clear hcell hc1 hc2
  obtain ⟨R, hR⟩ : ∃ R, R = valueL xs c := ⟨_, rfl⟩
  rw [← hR]
  have HR : Hid (valueL (xs.drop 0) c = R) := Lib.hid hR.symm
  clear hR
  go_enter Tryd.func119, Tryd.ntmps119
  go_wp2_with fail
  go_loopw [9] (fun i wr => ∃ (j : Nat), j ≤ xs.length ∧ i = .int .i64 j ∧ Hid (valueL (xs.drop j) c = R) ∧ Below w.heap.size w wr) (fun i _ => xs.length - (intOf i).toNat)
  case atStart => exact ⟨0, by omega, rfl, HR, Below.refl _ _⟩
  case round =>
    obtain ⟨j, hj, rfl, HS, hbel⟩ := hrel
    clear HR
    by_cases hjl : j < xs.length
    · obtain ⟨⟨f, t, x⟩, hxj, _⟩ := get_el hjl
      obtain ⟨aj, rfl, ha, d0, d1, d2⟩ := HC.out j _ hxj
      simp only at d0 d1 d2
      obtain ⟨e0, e1, e2⟩ := span_cells hbel ha d0 d1 d2
      have HX := Lib.hid hxj
      clear d0 d1 d2 hxj ha
      have r0 : (0 : Int) ≤ (j : Int) := by omega
      have r1 : (j : Int) < (xs.length : Int) := by omega
      by_cases h1 : f ≤ c
      · by_cases h2 : c ≤ t
        · have HN := Lib.hid (value_hit HX.out HS.out ⟨h1, h2⟩)
          go_wp2_with fail
          go_ret
          rw [HN.out]
          exact ⟨rfl, hbel.alloc hbel.size _⟩
        · have HN := Lib.hid (value_go HX.out HS.out (fun h => h2 h.2))
          have p1 : decide (c ≤ t) = false := decide_eq_false h2
          clear h2
          go_wp2_with fail
          go_roundw
          case rel => exact ⟨j + 1, by omega, by go_num, HN, hbel.alloc hbel.size _⟩
          case measure => simp [intOf]; omega
      · have HN := Lib.hid (value_go HX.out HS.out (fun h => h1 h.1))
        have p1 : decide (f ≤ c) = false := decide_eq_false h1
        clear h1
        go_wp2_with fail
        go_roundw
        case rel => exact ⟨j + 1, by omega, by go_num, HN, hbel.alloc hbel.size _⟩
        case measure => simp [intOf]; omega
    · have HN := Lib.hid (value_end (by omega) HS.out)
      go_wp2_with fail
      go_ret
      rw [HN.out]
      exact ⟨rfl, hbel⟩

theorem find_go {l : List Mp} {k : Nat} {m : Mp} {c : Int} {R : List Int} (hx : l[k]? = some m) (h : findL (l.drop k) c = R) (h1 : m.1 ≠ c) : findL (l.drop (k + 1)) c = R := by
  rw [drop_of_get hx, findL, if_neg h1] at h; exact h
theorem find_hit {l : List Mp} {k : Nat} {m : Mp} {c : Int} {R : List Int} (hx : l[k]? = some m) (h : findL (l.drop k) c = R) (h1 : m.1 = c) : R = m.2 := by
  rw [drop_of_get hx, findL, if_pos h1] at h; exact h.symm
theorem find_end {l : List Mp} {k : Nat} {c : Int} {R : List Int} (hk : l.length ≤ k) (h : findL (l.drop k) c = R) : R = [] := by
  rw [List.drop_eq_nil_of_le hk] at h; exact h.symm
/-- A sequence comes back. -/
def RetInts (w : World) (ys : List Int) (e : Ending) (w' : World) : Prop := ∃ v, e = .returned v ∧ Ints w' w'.heap.size .i64 v ys ∧ Below w.heap.size w w'

set_option maxRecDepth 100000 in
set_option maxHeartbeats 1000000 in
theorem refFind_any (v : Value) (xs : List Mp) (c : Int) (w : World) (hv : Mapps w w.heap.size v xs) :
    Calls Tryd.prog 47 #[v, .int .i64 c] w (RetInts w (findL xs c)) := by
  obtain ⟨A, cp, rfl, hc1, hc2, _, hcell⟩ := hv
  have HC := Lib.hid hcell
  have hlm : xs.length ≤ 9223372036854775807 := by unfold maxLen at hc2; omega
  clear hcell hc1 hc2
  obtain ⟨R, hR⟩ : ∃ R, R = findL xs c := ⟨_, rfl⟩
  rw [← hR]
  have HR : Hid (findL (xs.drop 0) c = R) := Lib.hid hR.symm
  clear hR
  go_enter Tryd.func47, Tryd.ntmps47
  go_wp2_with fail
  go_loopw [9] (fun i wr => ∃ (j : Nat), j ≤ xs.length ∧ i = .int .i64 j ∧ Hid (findL (xs.drop j) c = R) ∧ Below w.heap.size w wr) (fun i _ => xs.length - (intOf i).toNat)
  case atStart => exact ⟨0, by omega, rfl, HR, Below.refl _ _⟩
  case round =>
    obtain ⟨j, hj, rfl, HS, hbel⟩ := hrel
    clear HR
    by_cases hjl : j < xs.length
    · obtain ⟨⟨f, to⟩, hxj, _⟩ := get_el hjl
      obtain ⟨aj, sv, rfl, ha, d0, d1, hto⟩ := HC.out j _ hxj
      simp only at d0 d1 hto
      obtain ⟨A', c', rfl, _⟩ := id hto
      obtain ⟨e0, e1⟩ := map_cells hbel ha d0 d1
      have HX := Lib.hid hxj
      have HTO := Lib.hid (((hto.below hbel).more hbel.size).later ((Below.refl _ _).alloc (Nat.le_refl _) (.cells #[.int .i64 f, .slice A' to.length c'] 54)))
      clear d0 d1 hxj ha hto
      have r0 : (0 : Int) ≤ (j : Int) := by omega
      have r1 : (j : Int) < (xs.length : Int) := by omega
      by_cases h1 : f = c
      · have HN := Lib.hid (find_hit HX.out HS.out h1)
        have p1 : (f == c) = true := by rw [beq_iff_eq]; exact h1
        clear h1
        go_wp2_with fail
        go_ret
        rw [HN.out]
        exact ⟨_, rfl, HTO.out, hbel.alloc hbel.size _⟩
      · have HN := Lib.hid (find_go HX.out HS.out h1)
        have p1 : (f == c) = false := by rw [beq_eq_false_iff_ne]; exact h1
        clear h1 HTO
        go_wp2_with fail
        go_roundw
        case rel => exact ⟨j + 1, by omega, by go_num, HN, hbel.alloc hbel.size _⟩
        case measure => simp [intOf]; omega
    · have HN := Lib.hid (find_end (by omega) HS.out)
      go_wp2_with fail
      go_ret
      rw [HN.out]
      exact ⟨_, rfl, Ints.none_, hbel⟩

set_option maxRecDepth 100000 in
set_option maxHeartbeats 400000 in
theorem refClass_any (t : Tv) (T : Tab) (c : Int) (w : World) (ht : TabR w w.heap.size t T) :
    Calls Tryd.prog 66 #[t.val, .int .i64 c] w fun e w' => e = .returned (.int .i64 (T.classOf c)) ∧ Below w.heap.size w w' := by
  have HR := Lib.hid (fun o : Obj => ht.r1.later ((Below.refl _ _).alloc (Nat.le_refl _) o))
  clear ht
  go_enter Tryd.func66, Tryd.ntmps66
  go_wp2_with fail
  refine (refValue_any t.c1 T.cls c _ (HR.out _)).mono ?_
  rintro e w1 ⟨rfl, b1⟩
  go_wp2_with fail
  go_ret
  exact ⟨rfl, below_next ((Below.refl _ _).alloc (Nat.le_refl _) _) b1⟩

set_option maxRecDepth 100000 in
set_option maxHeartbeats 400000 in
theorem refIgnorable_any (t : Tv) (T : Tab) (c : Int) (w : World) (ht : TabR w w.heap.size t T) :
    Calls Tryd.prog 49 #[t.val, .int .i64 c] w fun e w' => e = .returned (.bool (T.ignB c)) ∧ Below w.heap.size w w' := by
  have HR := Lib.hid (fun o : Obj => ht.r6.later ((Below.refl _ _).alloc (Nat.le_refl _) o))
  clear ht
  go_enter Tryd.func49, Tryd.ntmps49
  go_wp2_with fail
  refine (refValue_any t.c6 T.ignorable c _ (HR.out _)).mono ?_
  rintro e w1 ⟨rfl, b1⟩
  go_wp2_with fail
  go_ret
  exact ⟨rfl, below_next ((Below.refl _ _).alloc (Nat.le_refl _) _) b1⟩

theorem status_ref {T : Tab} (h : GoodS T.status) (c : Int) : T.statusOf c = if nameB c = true ∨ c = 46 ∨ sylB c = true then 1 else if 65 ≤ c ∧ c ≤ 90 then 3 else valueL T.status c := by
  unfold Tab.statusOf
  rw [propL_ref h.1 h.2.2]
  simp only [nameB_iff, sylB_iff]
  have hz : resB c = true → valueL T.status c = 0 := value_res h.2.2
  by_cases hr : resB c = true ∧ surB c = false
  · rw [if_pos hr]
    have h0 := hz hr.1
    obtain ⟨h1, h2⟩ := hr
    rw [resB_iff] at h1
    have h2' : ¬(55296 ≤ c ∧ c ≤ 57343) := by unfold surB at h2; rw [decide_eq_false_iff_not] at h2; exact h2
    clear hz h2
    unfold fixC
    repeat' split
    all_goals try simp only [h0]
    all_goals omega
  · rw [if_neg hr]
    have h1 : ¬(97 ≤ c ∧ c ≤ 122 ∨ 48 ≤ c ∧ c ≤ 57 ∨ c = 45) ∧ c ≠ 46 ∧ ¬(44032 ≤ c ∧ c ≤ 55203) ∧ ¬(65 ≤ c ∧ c ≤ 90) := by
      by_cases hs : surB c = false
      · have hr' : resB c = false := by
          cases hh : resB c
          · rfl
          · exact absurd ⟨hh, hs⟩ hr
        rw [resB_not] at hr'
        omega
      · have hs' : surB c = true := by simpa using hs
        rw [surB_iff] at hs'
        omega
    rw [if_neg (by omega), if_neg h1.2.2.2]

set_option maxRecDepth 100000 in
set_option maxHeartbeats 1000000 in
theorem refStatus_any (t : Tv) (T : Tab) (c : Int) (w : World) (ht : TabR w w.heap.size t T) (hg : GoodS T.status) :
    Calls Tryd.prog 70 #[t.val, .int .i64 c] w fun e w' => e = .returned (.int .i64 (T.statusOf c)) ∧ Below w.heap.size w w' := by
  have HR := Lib.hid (fun o : Obj => ht.r5.later ((Below.refl _ _).alloc (Nat.le_refl _) o))
  have HN := Lib.hid (fun W => latin_any c W)
  have HS := Lib.hid (fun W => refSyl_any c W)
  rw [status_ref hg]
  clear ht hg
  cases hn : nameB c
  · rw [hn] at HN
    by_cases h46 : c = 46
    · subst h46
      rw [if_pos (.inr (.inl rfl))]
      clear hn
      go_enter Tryd.func70, Tryd.ntmps70
      go_wp2_with fail
      refine (HN.out _).mono ?_
      rintro e w1 ⟨rfl, rfl⟩
      go_wp2_with fail
      go_ret
      exact ⟨rfl, (Below.refl _ _).alloc (Nat.le_refl _) _⟩
    · have hb : (c == 46) = false := by rw [beq_eq_false_iff_ne]; exact h46
      cases hs : sylB c
      · rw [hs] at HS
        rw [if_neg (by
          rintro (h | h | h)
          · cases h
          · exact h46 h
          · cases h)]
        by_cases hA : 65 ≤ c ∧ c ≤ 90
        · rw [if_pos hA]
          obtain ⟨a1, a2⟩ := hA
          clear hn hs h46
          go_enter Tryd.func70, Tryd.ntmps70
          go_wp2_with fail
          refine (HN.out _).mono ?_
          rintro e w1 ⟨rfl, rfl⟩
          go_wp2_with fail
          refine (HS.out _).mono ?_
          rintro e w1 ⟨rfl, rfl⟩
          go_wp2_with fail
          go_ret
          exact ⟨rfl, (Below.refl _ _).alloc (Nat.le_refl _) _⟩
        · rw [if_neg hA]
          rcases show c < 65 ∨ (65 ≤ c ∧ 90 < c) by omega with a1 | ⟨a1, a2⟩
          all_goals
            clear hn hs h46 hA
            go_enter Tryd.func70, Tryd.ntmps70
            go_wp2_with fail
            refine (HN.out _).mono ?_
            rintro e w1 ⟨rfl, rfl⟩
            go_wp2_with fail
            refine (HS.out _).mono ?_
            rintro e w1 ⟨rfl, rfl⟩
            go_wp2_with fail
            refine (refValue_any t.c5 T.status c _ (HR.out _)).mono ?_
            rintro e w1 ⟨rfl, b1⟩
            go_wp2_with fail
            go_ret
            exact ⟨rfl, below_next ((Below.refl _ _).alloc (Nat.le_refl _) _) b1⟩
      · rw [hs] at HS
        rw [if_pos (.inr (.inr rfl))]
        clear hn hs h46
        go_enter Tryd.func70, Tryd.ntmps70
        go_wp2_with fail
        refine (HN.out _).mono ?_
        rintro e w1 ⟨rfl, rfl⟩
        go_wp2_with fail
        refine (HS.out _).mono ?_
        rintro e w1 ⟨rfl, rfl⟩
        go_wp2_with fail
        go_ret
        exact ⟨rfl, (Below.refl _ _).alloc (Nat.le_refl _) _⟩
  · rw [hn] at HN
    rw [if_pos (.inl rfl)]
    clear hn
    go_enter Tryd.func70, Tryd.ntmps70
    go_wp2_with fail
    refine (HN.out _).mono ?_
    rintro e w1 ⟨rfl, rfl⟩
    go_wp2_with fail
    go_ret
    exact ⟨rfl, (Below.refl _ _).alloc (Nat.le_refl _) _⟩

theorem mem_go {xs : List Int} {k : Nat} {x c : Int} {R : Bool} (hx : xs[k]? = some x) (h : decide (c ∈ xs.drop k) = R) (h1 : x ≠ c) : decide (c ∈ xs.drop (k + 1)) = R := by
  rw [drop_of_get hx] at h
  rw [← h, decide_eq_decide, List.mem_cons]
  exact ⟨.inr, fun h => h.resolve_left (fun e => h1 e.symm)⟩
theorem mem_hit {xs : List Int} {k : Nat} {x c : Int} {R : Bool} (hx : xs[k]? = some x) (h : decide (c ∈ xs.drop k) = R) (h1 : x = c) : R = true := by
  rw [drop_of_get hx] at h
  rw [← h, decide_eq_true_eq, h1]; exact List.mem_cons_self
theorem mem_end {xs : List Int} {k : Nat} {c : Int} {R : Bool} (hk : xs.length ≤ k) (h : decide (c ∈ xs.drop k) = R) : R = false := by
  rw [List.drop_eq_nil_of_le hk] at h; rw [← h]; rfl

set_option maxRecDepth 100000 in
set_option maxHeartbeats 1000000 in
theorem refExcluded_any (t : Tv) (T : Tab) (c : Int) (w : World) (ht : TabR w w.heap.size t T) :
    Calls Tryd.prog 72 #[t.val, .int .i64 c] w fun e w' => e = .returned (.bool (T.excB c)) ∧ Below w.heap.size w w' := by
  obtain ⟨A0, A1, A2, A3, A4, A5, A6, A7, A8, A9, A10, A11, k0, k1, k2, k3, k4, k5, k6, k7, k8, k9, k10, k11, rfl⟩ := ht.shape
  obtain ⟨A, cp, hA, hc1, hc2, _, hcell⟩ := ht.r10
  cases hA
  have HC := Lib.hid hcell
  have hlm : T.excluded.length ≤ 9223372036854775807 := by unfold maxLen at hc2; omega
  clear hcell hc1 hc2 ht
  obtain ⟨R, hR⟩ : ∃ R, R = T.excB c := ⟨_, rfl⟩
  rw [← hR]
  have HR : Hid (decide (c ∈ T.excluded.drop 0) = R) := Lib.hid hR.symm
  clear hR
  go_enter Tryd.func72, Tryd.ntmps72
  go_wp2_with fail
  go_loop [10] (fun i => ∃ (j : Nat), j ≤ T.excluded.length ∧ i = .int .i64 j ∧ Hid (decide (c ∈ T.excluded.drop j) = R)) (fun i => T.excluded.length - (intOf i).toNat)
  case atStart => exact ⟨0, by omega, rfl, HR⟩
  case round =>
    obtain ⟨j, hj, rfl, HS⟩ := hrel
    clear HR
    by_cases hjl : j < T.excluded.length
    · obtain ⟨x, hxj, _⟩ := get_el hjl
      obtain ⟨aj, rfl, ha, d0⟩ := HC.out j _ hxj
      have e0 := fun o : Obj => (World.cell?_alloc_lt w o (aj.add j) (World.block_lt_of_cell? _ _ d0)).trans d0
      have HX := Lib.hid hxj
      clear hxj ha d0
      have r0 : (0 : Int) ≤ (j : Int) := by omega
      have r1 : (j : Int) < (T.excluded.length : Int) := by omega
      by_cases h1 : x = c
      · have HN := Lib.hid (mem_hit HX.out HS.out h1)
        have p1 : (x == c) = true := by rw [beq_iff_eq]; exact h1
        clear h1
        go_wp2_with fail
        go_ret
        rw [HN.out]
        exact ⟨rfl, (Below.refl _ _).alloc (Nat.le_refl _) _⟩
      · have HN := Lib.hid (mem_go HX.out HS.out h1)
        have p1 : (x == c) = false := by rw [beq_eq_false_iff_ne]; exact h1
        clear h1
        go_wp2_with fail
        go_round
        case rel => exact ⟨j + 1, by omega, by go_num, HN⟩
        case measure => simp [intOf]; omega
    · have HN := Lib.hid (mem_end (by omega) HS.out)
      go_wp2_with fail
      go_ret
      rw [HN.out]
      exact ⟨rfl, (Below.refl _ _).alloc (Nat.le_refl _) _⟩
end Go.Proofs.YtkdhldhbjomiaaaDoor
