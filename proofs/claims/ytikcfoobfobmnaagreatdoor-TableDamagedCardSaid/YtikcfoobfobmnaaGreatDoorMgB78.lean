/-
  Merged texts: lemmas and walks that the last text of this claim leans on.
-/
import Derived.Test.YtikcfoobfobmnaaGreatDoorMgB76
import Derived.Test.YtikcfoobfobmnaaGreatDoorMgB77
import Derived.Test.YtikcfoobfobmnaaGreatDoorMgB71
/-
  The walks through the reference's value, find, Class, Joining, Ignorable, Status, Excluded, and through table.Excluded.
-/
namespace Go.Proofs.YtikcfoobfobmnaaGreatDoor
open Go.RowKit ND

theorem value_go {l : List Sp} {k : Nat} {s : Sp} {c R : Int} (hx : l[k]? = some s) (h : valueL (l.drop k) c = R) (h1 : ¬(s.1 ≤ c ∧ c ≤ s.2.1)) : valueL (l.drop (k + 1)) c = R := by
  rw [drop_of_get hx, valueL, if_neg h1] at h; exact h
theorem value_hit {l : List Sp} {k : Nat} {s : Sp} {c R : Int} (hx : l[k]? = some s) (h : valueL (l.drop k) c = R) (h1 : s.1 ≤ c ∧ c ≤ s.2.1) : R = s.2.2 := by
  rw [drop_of_get hx, valueL, if_pos h1] at h; exact h.symm
theorem value_end {l : List Sp} {k : Nat} {c R : Int} (hk : l.length ≤ k) (h : valueL (l.drop k) c = R) : R = 0 := by
  rw [List.drop_eq_nil_of_le hk] at h; exact h.symm

set_option maxRecDepth 100000 in
set_option maxHeartbeats 1000000 in
theorem refValue_any (v : Value) (xs : List Sp) (c : Int) (w : World) (hv : Spans w w.heap.size v xs) :
    Calls Tryz.prog 87 #[v, .int .i64 c] w fun e w' => e = .returned (.int .i64 (valueL xs c)) ∧ Below w.heap.size w w' := by
  obtain ⟨A, cp, rfl, hc1, hc2, _, hcell⟩ := hv
  have HC := Lib.hid hcell
  have hlm : xs.length ≤ 9223372036854775807 := by unfold maxLen at hc2; omega
  clear hcell hc1 hc2
  obtain ⟨R, hR⟩ : ∃ R, R = valueL xs c := ⟨_, rfl⟩
  rw [← hR]
  have HR : Hid (valueL (xs.drop 0) c = R) := Lib.hid hR.symm
  clear hR
  go_enter Tryz.func87, Tryz.ntmps87
  go_wp2_with fail
  go_loopw [9] (fun i wr => ∃ (j : Nat), j ≤ xs.length ∧ i = .int .i64 j ∧ Hid (valueL (xs.drop j) c = R) ∧ Below w.heap.size w wr) (fun i _ => xs.length - (intOf i).toNat)
  case atStart => exact ⟨0, by omega, rfl, HR, Below.refl _ _⟩
  case round =>
    obtain ⟨j, hj, rfl, HS, hbel⟩ := hrel
    clear HR
    by_cases hjl : j < xs.length
    · obtain ⟨⟨f, t, x⟩, hxj, _⟩ := get_el hjl
      obtain ⟨aj, rfl, ha, d0, d1, d2⟩ := HC.out j _ hxj
      simp only at d0 d1 d2
      obtain ⟨e0, e1, e2⟩ := span_cells hbel ha d0 d1 d2
      have HX := Lib.hid hxj
      clear d0 d1 d2 hxj ha
      have r0 : (0 : Int) ≤ (j : Int) := by omega
      have r1 : (j : Int) < (xs.length : Int) := by omega
      by_cases h1 : f ≤ c
      · by_cases h2 : c ≤ t
        · have HN := Lib.hid (value_hit HX.out HS.out ⟨h1, h2⟩)
          go_wp2_with fail
          go_ret
          rw [HN.out]
          exact ⟨rfl, hbel.alloc hbel.size _⟩
        · have HN := Lib.hid (value_go HX.out HS.out (fun h => h2 h.2))
          have p1 : decide (c ≤ t) = false := decide_eq_false h2
          clear h2
          go_wp2_with fail
          go_roundw
          case rel => exact ⟨j + 1, by omega, by go_num, HN, hbel.alloc hbel.size _⟩
          case measure => simp [intOf]; omega
      · have HN := Lib.hid (value_go HX.out HS.out (fun h => h1 h.1))
        have p1 : decide (f ≤ c) = false := decide_eq_false h1
        clear h1
        go_wp2_with fail
        go_roundw
        case rel => exact ⟨j + 1, by omega, by go_num, HN, hbel.alloc hbel.size _⟩
        case measure => simp [intOf]; omega
    · have HN := Lib.hid (value_end (by omega) HS.out)
      go_wp2_with fail
      go_ret
      rw [HN.out]
      exact ⟨rfl, hbel⟩

theorem find_go {l : List Mp} {k : Nat} {m : Mp} {c : Int} {R : List Int} (hx : l[k]? = some m) (h : findL (l.drop k) c = R) (h1 : m.1 ≠ c) : findL (l.drop (k + 1)) c = R := by
  rw [drop_of_get hx, findL, if_neg h1] at h; exact h
theorem find_hit {l : List Mp} {k : Nat} {m : Mp} {c : Int} {R : List Int} (hx : l[k]? = some m) (h : findL (l.drop k) c = R) (h1 : m.1 = c) : R = m.2 := by
  rw [drop_of_get hx, findL, if_pos h1] at h; exact h.symm
theorem find_end {l : List Mp} {k : Nat} {c : Int} {R : List Int} (hk : l.length ≤ k) (h : findL (l.drop k) c = R) : R = [] := by
  rw [List.drop_eq_nil_of_le hk] at h; exact h.symm
/-- A sequence comes back. -/
def RetInts (w : World) (ys : List Int) (e : Ending) (w' : World) : Prop := ∃ v, e = .returned v ∧ Ints w' w'.heap.size .i64 v ys ∧ Below w.heap.size w w'

set_option maxRecDepth 100000 in
set_option maxHeartbeats 1000000 in
theorem refFind_any (v : Value) (xs : List Mp) (c : Int) (w : World) (hv : Mapps w w.heap.size v xs) :
    Calls Tryz.prog 49 #[v, .int .i64 c] w (RetInts w (findL xs c)) := by
  obtain ⟨A, cp, rfl, hc1, hc2, _, hcell⟩ := hv
  have HC := Lib.hid hcell
  have hlm : xs.length ≤ 9223372036854775807 := by unfold maxLen at hc2; omega
  clear hcell hc1 hc2
  obtain ⟨R, hR⟩ : ∃ R, R = findL xs c := ⟨_, rfl⟩
  rw [← hR]
  have HR : Hid (findL (xs.drop 0) c = R) := Lib.hid hR.symm
  clear hR
  go_enter Tryz.func49, Tryz.ntmps49
  go_wp2_with fail
  go_loopw [9] (fun i wr => ∃ (j : Nat), j ≤ xs.length ∧ i = .int .i64 j ∧ Hid (findL (xs.drop j) c = R) ∧ Below w.heap.size w wr) (fun i _ => xs.length - (intOf i).toNat)
  case atStart => exact ⟨0, by omega, rfl, HR, Below.refl _ _⟩
  case round =>
    obtain ⟨j, hj, rfl, HS, hbel⟩ := hrel
    clear HR
    by_cases hjl : j < xs.length
    · obtain ⟨⟨f, tg⟩, hxj, _⟩ := get_el hjl
      obtain ⟨aj, sv, rfl, ha, d0, d1, hto⟩ := HC.out j _ hxj
      simp only at d0 d1 hto
      obtain ⟨A', c', rfl, _⟩ := id hto
      obtain ⟨e0, e1⟩ := map_cells hbel ha d0 d1
      have HX := Lib.hid hxj
      have HTO := Lib.hid (((hto.below hbel).more hbel.size).later ((Below.refl _ _).alloc (Nat.le_refl _) (.cells #[.int .i64 f, .slice A' tg.length c'] 51)))
      clear d0 d1 hxj ha hto
      have r0 : (0 : Int) ≤ (j : Int) := by omega
      have r1 : (j : Int) < (xs.length : Int) := by omega
      by_cases h1 : f = c
      · have HN := Lib.hid (find_hit HX.out HS.out h1)
        have p1 : (f == c) = true := by rw [beq_iff_eq]; exact h1
        clear h1
        go_wp2_with fail
        go_ret
        rw [HN.out]
        exact ⟨_, rfl, HTO.out, hbel.alloc hbel.size _⟩
      · have HN := Lib.hid (find_go HX.out HS.out h1)
        have p1 : (f == c) = false := by rw [beq_eq_false_iff_ne]; exact h1
        clear h1 HTO
        go_wp2_with fail
        go_roundw
        case rel => exact ⟨j + 1, by omega, by go_num, HN, hbel.alloc hbel.size _⟩
        case measure => simp [intOf]; omega
    · have HN := Lib.hid (find_end (by omega) HS.out)
      go_wp2_with fail
      go_ret
      rw [HN.out]
      exact ⟨_, rfl, Ints.none_, hbel⟩

set_option maxRecDepth 100000 in
set_option maxHeartbeats 400000 in
theorem refClass_any (t : Tv) (T : Tab) (c : Int) (w : World) (ht : TabR w w.heap.size t T) :
    Calls Tryz.prog 86 #[t.val, .int .i64 c] w fun e w' => e = .returned (.int .i64 (T.classOf c)) ∧ Below w.heap.size w w' := by
  have HR := Lib.hid (fun o : Obj => ht.r1.later ((Below.refl _ _).alloc (Nat.le_refl _) o))
  clear ht
  go_enter Tryz.func86, Tryz.ntmps86
  go_wp2_with fail
  refine (refValue_any t.c1 T.cls c _ (HR.out _)).mono ?_
  rintro e w1 ⟨rfl, b1⟩
  go_wp2_with fail
  go_ret
  exact ⟨rfl, below_next ((Below.refl _ _).alloc (Nat.le_refl _) _) b1⟩

set_option maxRecDepth 100000 in
set_option maxHeartbeats 400000 in
theorem refIgnorable_any (t : Tv) (T : Tab) (c : Int) (w : World) (ht : TabR w w.heap.size t T) :
    Calls Tryz.prog 51 #[t.val, .int .i64 c] w fun e w' => e = .returned (.bool (T.ignB c)) ∧ Below w.heap.size w w' := by
  have HR := Lib.hid (fun o : Obj => ht.r6.later ((Below.refl _ _).alloc (Nat.le_refl _) o))
  clear ht
  go_enter Tryz.func51, Tryz.ntmps51
  go_wp2_with fail
  refine (refValue_any t.c6 T.ignorable c _ (HR.out _)).mono ?_
  rintro e w1 ⟨rfl, b1⟩
  go_wp2_with fail
  go_ret
  exact ⟨rfl, below_next ((Below.refl _ _).alloc (Nat.le_refl _) _) b1⟩

theorem status_ref {T : Tab} (h : GoodS T.status) (c : Int) : T.statusOf c = if nameB c = true ∨ c = 46 ∨ sylB c = true then 1 else if 65 ≤ c ∧ c ≤ 90 then 3 else valueL T.status c := by
  unfold Tab.statusOf
  rw [propL_ref h.1 h.2.2]
  simp only [nameB_iff, sylB_iff]
  have hz : resB c = true → valueL T.status c = 0 := value_res h.2.2
  by_cases hr : resB c = true ∧ surB c = false
  · rw [if_pos hr]
    have h0 := hz hr.1
    obtain ⟨h1, h2⟩ := hr
    rw [resB_iff] at h1
    have h2' : ¬(55296 ≤ c ∧ c ≤ 57343) := by unfold surB at h2; rw [decide_eq_false_iff_not] at h2; exact h2
    clear hz h2
    unfold fixC
    repeat' split
    all_goals try simp only [h0]
    all_goals omega
  · rw [if_neg hr]
    have h1 : ¬(97 ≤ c ∧ c ≤ 122 ∨ 48 ≤ c ∧ c ≤ 57 ∨ c = 45) ∧ c ≠ 46 ∧ ¬(44032 ≤ c ∧ c ≤ 55203) ∧ ¬(65 ≤ c ∧ c ≤ 90) := by
      by_cases hs : surB c = false
      · have hr' : resB c = false := by
          cases hh : resB c
          · rfl
          · exact absurd ⟨hh, hs⟩ hr
        rw [resB_not] at hr'
        omega
      · have hs' : surB c = true := by simpa using hs
        rw [surB_iff] at hs'
        omega
    rw [if_neg (by omega), if_neg h1.2.2.2]

set_option maxRecDepth 100000 in
set_option maxHeartbeats 1000000 in
theorem refStatus_any (t : Tv) (T : Tab) (c : Int) (w : World) (ht : TabR w w.heap.size t T) (hg : GoodS T.status) :
    Calls Tryz.prog 82 #[t.val, .int .i64 c] w fun e w' => e = .returned (.int .i64 (T.statusOf c)) ∧ Below w.heap.size w w' := by
  have HR := Lib.hid (fun o : Obj => ht.r5.later ((Below.refl _ _).alloc (Nat.le_refl _) o))
  have HN := Lib.hid (fun W => latin_any c W)
  have HS := Lib.hid (fun W => refSyl_any c W)
  rw [status_ref hg]
  clear ht hg
  cases hn : nameB c
  · rw [hn] at HN
    by_cases h46 : c = 46
    · subst h46
      rw [if_pos (.inr (.inl rfl))]
      clear hn
      go_enter Tryz.func82, Tryz.ntmps82
      go_wp2_with fail
      refine (HN.out _).mono ?_
      rintro e w1 ⟨rfl, rfl⟩
      go_wp2_with fail
      go_ret
      exact ⟨rfl, (Below.refl _ _).alloc (Nat.le_refl _) _⟩
    · have hb : (c == 46) = false := by rw [beq_eq_false_iff_ne]; exact h46
      cases hs : sylB c
      · rw [hs] at HS
        rw [if_neg (by
          rintro (h | h | h)
          · cases h
          · exact h46 h
          · cases h)]
        by_cases hA : 65 ≤ c ∧ c ≤ 90
        · rw [if_pos hA]
          obtain ⟨a1, a2⟩ := hA
          clear hn hs h46
          go_enter Tryz.func82, Tryz.ntmps82
          go_wp2_with fail
          refine (HN.out _).mono ?_
          rintro e w1 ⟨rfl, rfl⟩
          go_wp2_with fail
          refine (HS.out _).mono ?_
          rintro e w1 ⟨rfl, rfl⟩
          go_wp2_with fail
          go_ret
          exact ⟨rfl, (Below.refl _ _).alloc (Nat.le_refl _) _⟩
        · rw [if_neg hA]
          rcases show c < 65 ∨ (65 ≤ c ∧ 90 < c) by omega with a1 | ⟨a1, a2⟩
          all_goals
            clear hn hs h46 hA
            go_enter Tryz.func82, Tryz.ntmps82
            go_wp2_with fail
            refine (HN.out _).mono ?_
            rintro e w1 ⟨rfl, rfl⟩
            go_wp2_with fail
            refine (HS.out _).mono ?_
            rintro e w1 ⟨rfl, rfl⟩
            go_wp2_with fail
            refine (refValue_any t.c5 T.status c _ (HR.out _)).mono ?_
            rintro e w1 ⟨rfl, b1⟩
            go_wp2_with fail
            go_ret
            exact ⟨rfl, below_next ((Below.refl _ _).alloc (Nat.le_refl _) _) b1⟩
      · rw [hs] at HS
        rw [if_pos (.inr (.inr rfl))]
        clear hn hs h46
        go_enter Tryz.func82, Tryz.ntmps82
        go_wp2_with fail
        refine (HN.out _).mono ?_
        rintro e w1 ⟨rfl, rfl⟩
        go_wp2_with fail
        refine (HS.out _).mono ?_
        rintro e w1 ⟨rfl, rfl⟩
        go_wp2_with fail
        go_ret
        exact ⟨rfl, (Below.refl _ _).alloc (Nat.le_refl _) _⟩
  · rw [hn] at HN
    rw [if_pos (.inl rfl)]
    clear hn
    go_enter Tryz.func82, Tryz.ntmps82
    go_wp2_with fail
    refine (HN.out _).mono ?_
    rintro e w1 ⟨rfl, rfl⟩
    go_wp2_with fail
    go_ret
    exact ⟨rfl, (Below.refl _ _).alloc (Nat.le_refl _) _⟩

theorem mem_go {xs : List Int} {k : Nat} {x c : Int} {R : Bool} (hx : xs[k]? = some x) (h : decide (c ∈ xs.drop k) = R) (h1 : x ≠ c) : decide (c ∈ xs.drop (k + 1)) = R := by
  rw [drop_of_get hx] at h
  rw [← h, decide_eq_decide, List.mem_cons]
  exact ⟨.inr, fun h => h.resolve_left (fun e => h1 e.symm)⟩
theorem mem_hit {xs : List Int} {k : Nat} {x c : Int} {R : Bool} (hx : xs[k]? = some x) (h : decide (c ∈ xs.drop k) = R) (h1 : x = c) : R = true := by
  rw [drop_of_get hx] at h
  rw [← h, decide_eq_true_eq, h1]; exact List.mem_cons_self
theorem mem_end {xs : List Int} {k : Nat} {c : Int} {R : Bool} (hk : xs.length ≤ k) (h : decide (c ∈ xs.drop k) = R) : R = false := by
  rw [List.drop_eq_nil_of_le hk] at h; rw [← h]; rfl

set_option maxRecDepth 100000 in
set_option maxHeartbeats 1000000 in
theorem refExcluded_any (t : Tv) (T : Tab) (c : Int) (w : World) (ht : TabR w w.heap.size t T) :
    Calls Tryz.prog 85 #[t.val, .int .i64 c] w fun e w' => e = .returned (.bool (T.excB c)) ∧ Below w.heap.size w w' := by
  obtain ⟨A0, A1, A2, A3, A4, A5, A6, A7, A8, A9, A10, A11, k0, k1, k2, k3, k4, k5, k6, k7, k8, k9, k10, k11, rfl⟩ := ht.shape
  obtain ⟨A, cp, hA, hc1, hc2, _, hcell⟩ := ht.r10
  cases hA
  have HC := Lib.hid hcell
  have hlm : T.excluded.length ≤ 9223372036854775807 := by unfold maxLen at hc2; omega
  clear hcell hc1 hc2 ht
  obtain ⟨R, hR⟩ : ∃ R, R = T.excB c := ⟨_, rfl⟩
  rw [← hR]
  have HR : Hid (decide (c ∈ T.excluded.drop 0) = R) := Lib.hid hR.symm
  clear hR
  go_enter Tryz.func85, Tryz.ntmps85
  go_wp2_with fail
  go_loop [10] (fun i => ∃ (j : Nat), j ≤ T.excluded.length ∧ i = .int .i64 j ∧ Hid (decide (c ∈ T.excluded.drop j) = R)) (fun i => T.excluded.length - (intOf i).toNat)
  case atStart => exact ⟨0, by omega, rfl, HR⟩
  case round =>
    obtain ⟨j, hj, rfl, HS⟩ := hrel
    clear HR
    by_cases hjl : j < T.excluded.length
    · obtain ⟨x, hxj, _⟩ := get_el hjl
      obtain ⟨aj, rfl, ha, d0⟩ := HC.out j _ hxj
      have e0 := fun o : Obj => (World.cell?_alloc_lt w o (aj.add j) (World.block_lt_of_cell? _ _ d0)).trans d0
      have HX := Lib.hid hxj
      clear hxj ha d0
      have r0 : (0 : Int) ≤ (j : Int) := by omega
      have r1 : (j : Int) < (T.excluded.length : Int) := by omega
      by_cases h1 : x = c
      · have HN := Lib.hid (mem_hit HX.out HS.out h1)
        have p1 : (x == c) = true := by rw [beq_iff_eq]; exact h1
        clear h1
        go_wp2_with fail
        go_ret
        rw [HN.out]
        exact ⟨rfl, (Below.refl _ _).alloc (Nat.le_refl _) _⟩
      · have HN := Lib.hid (mem_go HX.out HS.out h1)
        have p1 : (x == c) = false := by rw [beq_eq_false_iff_ne]; exact h1
        clear h1
        go_wp2_with fail
        go_round
        case rel => exact ⟨j + 1, by omega, by go_num, HN⟩
        case measure => simp [intOf]; omega
    · have HN := Lib.hid (mem_end (by omega) HS.out)
      go_wp2_with fail
      go_ret
      rw [HN.out]
      exact ⟨rfl, (Below.refl _ _).alloc (Nat.le_refl _) _⟩
end Go.Proofs.YtikcfoobfobmnaaGreatDoor
/-
  The walk through one property of table.
-/
namespace Go.Proofs.YtikcfoobfobmnaaGreatDoor
open Go.RowKit ND

set_option maxRecDepth 100000 in
set_option maxHeartbeats 400000 in
theorem ownStatus (W : World) (q : Int × Int × Int × Int) : Calls Tryz.prog 65 #[fixV q] W fun e W' => e = .returned (.int .i64 (q.2.2.2)) ∧ Below W.heap.size W W' := by
  unfold fixV
  go_enter Tryz.func65, Tryz.ntmps65
  go_wp2_with fail
  go_ret
  exact ⟨rfl, (Below.refl _ _).alloc (Nat.le_refl _) _⟩

set_option maxRecDepth 100000 in
set_option maxHeartbeats 400000 in
theorem status_any (t : Tv) (T : Tab) (c lo hi : Int) (w : World) (ht : TabR w w.heap.size t T) (hs : okS lo hi (-1) T.status = true) (hlen : T.status.length ≤ 256) :
    Calls Tryz.prog 30 #[t.val, .int .i64 c] w fun e w' => e = .returned (.int .i64 (T.statusOf c)) ∧ Below w.heap.size w w' := by
  have HP := Lib.hid (fun W (h : Spans W W.heap.size t.c5 T.status) => pick_prop 65 (fun q => q.2.2.2) t.c5 T.status c lo hi W (enters_of Tryz.func65 (by kernel_rfl) rfl) ownStatus h hs hlen)
  have hr := ht.r5
  have HR := Lib.hid (fun o : Obj => hr.later ((Below.refl _ _).alloc (Nat.le_refl _) o))
  clear hr ht hs hlen
  go_enter Tryz.func30, Tryz.ntmps30
  go_wp2_with fail
  refine (HP.out _ (HR.out _)).mono ?_
  rintro e w1 ⟨rfl, b1⟩
  go_wp2_with fail
  go_ret
  exact ⟨rfl, below_next ((Below.refl _ _).alloc (Nat.le_refl _) _) b1⟩
end Go.Proofs.YtikcfoobfobmnaaGreatDoor
/-
  The walks through table.mapped and the reference's mapped: rule 5.
-/
namespace Go.Proofs.YtikcfoobfobmnaaGreatDoor
open Go.RowKit ND

theorem count_go {l : List Sp} {k : Nat} {s : Sp} {n R : Int} (hx : l[k]? = some s) (h : n + mapCount (l.drop k) = R) : (s.2.2 = 3 → n + (s.2.1 - s.1 + 1) + mapCount (l.drop (k + 1)) = R) ∧ (s.2.2 ≠ 3 → n + mapCount (l.drop (k + 1)) = R) := by
  rw [drop_of_get hx, mapCount] at h
  constructor
  · intro h3; rw [if_pos h3] at h; omega
  · intro h3; rw [if_neg h3] at h; omega
theorem count_end {l : List Sp} {k : Nat} {n R : Int} (hk : l.length ≤ k) (h : n + mapCount (l.drop k) = R) : R = n := by
  rw [List.drop_eq_nil_of_le hk] at h; unfold mapCount at h; omega
def elOk (T : Tab) (c : Int) : Bool := okStat (T.statusOf c)
theorem mapOk_no {T : Tab} {c : Int} {tg : List Int} (h : T.statusOf c ≠ 3) : T.mapOk (c, tg) = false := by unfold Tab.mapOk; rw [decide_eq_false h]; rfl
theorem mapOk_yes {T : Tab} {c : Int} {tg : List Int} (h : T.statusOf c = 3) : T.mapOk (c, tg) = tg.all (elOk T) := by unfold Tab.mapOk; rw [decide_eq_true h]; rfl
theorem stat_ways (s : Int) : (okStat s = true ∧ (s != 1) = false) ∨ (okStat s = true ∧ (s != 1) = true ∧ (s != 4) = false) ∨ (okStat s = false ∧ (s != 1) = true ∧ (s != 4) = true) := by
  unfold okStat
  simp only [decide_eq_true_eq, decide_eq_false_iff_not, bne_iff_ne, ne_eq, bne_eq_false_iff_eq]
  omega

set_option maxRecDepth 100000 in
set_option maxHeartbeats 4000000 in
theorem mapped_any (t : Tv) (T : Tab) (w : World) (ht : TabR w w.heap.size t T) (hg : GoodS T.status) :
    Calls Tryz.prog 59 #[t.val] w fun e w' => e = .returned (.bool T.rule5) ∧ Below w.heap.size w w' := by
  obtain ⟨tc, htc⟩ : ∃ tc, tc = t.cells := ⟨_, rfl⟩
  have HST := Lib.hid (fun c W (h : TabR W W.heap.size t T) => status_any t T c 0 1114111 W h hg.1 hg.2.1)
  have HT := Lib.hid (fun W (h : Below w.heap.size w W) => ht.later h)
  have hsp := ht.r5
  have hmp := ht.r8
  obtain ⟨A0, A1, A2, A3, A4, A5, A6, A7, A8, A9, A10, A11, k0, k1, k2, k3, k4, k5, k6, k7, k8, k9, k10, k11, rfl⟩ := ht.shape
  clear ht
  have HTC := Lib.hid htc
  clear htc
  obtain ⟨A, cp, hA, hc1, hc2, _, hcell⟩ := hsp
  cases hA
  have HC := Lib.hid hcell
  have hlm : T.status.length ≤ 256 := hg.2.1
  obtain ⟨B, cq, hB, hd1, hd2, _, hcell2⟩ := hmp
  cases hB
  have HM := Lib.hid hcell2
  have hln : T.maps.length ≤ 9223372036854775807 := by unfold maxLen at hd2; omega
  have HEL := Lib.hid (fun i a (h : T.status[i]? = some a) => okS_el hg.1 h)
  clear hcell hc1 hc2 hcell2 hd1 hd2 hg
  obtain ⟨R, hR⟩ : ∃ R, R = T.rule5 := ⟨_, rfl⟩
  rw [← hR]
  obtain ⟨N, hN⟩ : ∃ N, N = mapCount T.status := ⟨_, rfl⟩
  obtain ⟨Rm, hRm⟩ : ∃ Rm, Rm = T.maps.all T.mapOk := ⟨_, rfl⟩
  have HN0 : Hid (0 + mapCount (T.status.drop 0) = N) := Lib.hid (by rw [hN, Int.zero_add]; rfl)
  have HM0 : Hid ((T.maps.drop 0).all T.mapOk = Rm) := Lib.hid hRm.symm
  have HRR : Hid (R = (decide (N = (T.maps.length : Int)) && Rm)) := Lib.hid (by rw [hR, hN, hRm]; rfl)
  clear hR hN hRm
  go_enter Tryz.func59, Tryz.ntmps59
  go_wp2_with fail
  go_loopw [3, 14] (fun n i wr => ∃ (j : Nat) (m : Int), j ≤ T.status.length ∧ i = .int .i64 j ∧ n = .int .i64 m ∧ 0 ≤ m ∧ m ≤ 1114112 * (j : Int) ∧ Hid (m + mapCount (T.status.drop j) = N) ∧ Below w.heap.size w wr ∧ Hid (Blk wr w.heap.size 29 tc)) (fun _ i _ => T.status.length - (intOf i).toNat)
  case atStart => exact ⟨0, 0, by omega, rfl, rfl, by omega, by omega, HN0, (Below.refl _ _).alloc (Nat.le_refl _) _, Lib.hid (by rw [HTC.out]; exact Blk.new _ _ _)⟩
  case round =>
    obtain ⟨j, m, hj, rfl, rfl, hm0, hm1, HS, hbel, HB⟩ := hrel
    clear HN0
    by_cases hjl : j < T.status.length
    · obtain ⟨⟨f, t, x⟩, hxj, _⟩ := get_el hjl
      obtain ⟨aj, rfl, ha, d0, d1, d2⟩ := HC.out j _ hxj
      simp only at d0 d1 d2
      obtain ⟨e0, e1, e2⟩ := span_cells hbel ha d0 d1 d2
      have hel := HEL.out j _ hxj
      simp only at hel
      have hcg := count_go hxj HS.out
      simp only at hcg
      have HCG := Lib.hid hcg
      have HB' := Lib.hid (HB.out.alloc (.cells #[.int .i64 f, .int .i64 t, .int .i64 x] 61))
      clear d0 d1 d2 hxj ha hcg HB
      have r0 : (0 : Int) ≤ (j : Int) := by omega
      have r1 : (j : Int) < (T.status.length : Int) := by omega
      by_cases hx3 : x = 3
      · have HNX := Lib.hid (HCG.out.1 hx3)
        have p1 : (x == 3) = true := by rw [beq_iff_eq]; exact hx3
        clear hx3 HCG
        go_wp2_with fail
        go_roundw
        case rel => exact ⟨j + 1, m + (t - f + 1), by omega, by go_num, rfl, by omega, by omega, HNX, hbel.alloc hbel.size _, HB'⟩
        case measure => simp [intOf]; omega
      · have HNX := Lib.hid (HCG.out.2 hx3)
        have p1 : (x == 3) = false := by rw [beq_eq_false_iff_ne]; exact hx3
        clear hx3 HCG
        go_wp2_with fail
        go_roundw
        case rel => exact ⟨j + 1, m, by omega, by go_num, rfl, by omega, by omega, HNX, hbel.alloc hbel.size _, HB'⟩
        case measure => simp [intOf]; omega
    · have hNm := count_end (by omega) HS.out
      obtain ⟨x0, x1, x2, x3, x4, x5, x6, x7, x8, x9, x10, x11⟩ := (show Blk _ _ _ #[_, _, _, _, _, _, _, _, _, _, _, _] from by have h := HB.out; rw [HTC.out] at h; exact h).tab
      have HBT := Lib.hid HB.out
      clear HS HC HEL HB
      by_cases hne : m = (T.maps.length : Int)
      · have p1 : (m != (T.maps.length : Int)) = false := by rw [bne_eq_false_iff_eq]; exact hne
        have HR2 : Hid (R = Rm) := Lib.hid (by rw [HRR.out, hNm, decide_eq_true hne, Bool.true_and])
        clear hne hNm HRR
        go_wp2_with fail
        clear x0 x1 x2 x3 x4 x5 x6 x7 x8 x9 x10 x11
        go_loopw [38] (fun i wr => ∃ (j : Nat), j ≤ T.maps.length ∧ i = .int .i64 j ∧ Hid ((T.maps.drop j).all T.mapOk = Rm) ∧ Below w.heap.size w wr ∧ Hid (Blk wr w.heap.size 29 tc)) (fun i _ => T.maps.length - (intOf i).toNat)
        case atStart => exact ⟨0, by omega, rfl, HM0, hbel, HBT⟩
        case round =>
          obtain ⟨j, hj, rfl, HS, hbel, HB⟩ := hrel
          clear HM0 HBT
          by_cases hjl : j < T.maps.length
          · obtain ⟨⟨cc, tg⟩, hxj, _⟩ := get_el hjl
            obtain ⟨aj, sv, rfl, ha, d0, d1, hto⟩ := HM.out j _ hxj
            simp only at d0 d1 hto
            obtain ⟨A', c', rfl, he1, he2, _, hcl⟩ := id hto
            have HTO := Lib.hid hcl
            have hlt : tg.length ≤ 9223372036854775807 := by unfold maxLen at he2; omega
            obtain ⟨e0, e1⟩ := map_cells hbel ha d0 d1
            have HX := Lib.hid hxj
            have HTR := Lib.hid (fun o => HT.out _ (hbel.alloc hbel.size o))
            have HB' := Lib.hid (HB.out.alloc (.cells #[.int .i64 cc, .slice A' tg.length c'] 51))
            obtain ⟨x0, x1, x2, x3, x4, x5, x6, x7, x8, x9, x10, x11⟩ := (show Blk _ _ _ #[_, _, _, _, _, _, _, _, _, _, _, _] from by have h := HB'.out; rw [HTC.out] at h; exact h).tab
            clear d0 d1 hxj ha hto hcl he1 he2 HB
            have r0 : (0 : Int) ≤ (j : Int) := by omega
            have r1 : (j : Int) < (T.maps.length : Int) := by omega
            have HS1 := Lib.hid (HST.out cc)
            by_cases hs3 : T.statusOf cc = 3
            · have HOK := Lib.hid (mapOk_yes (T := T) (tg := tg) hs3)
              have p2 : (T.statusOf cc != 3) = false := by rw [bne_eq_false_iff_eq]; exact hs3
              obtain ⟨Rt, hRt⟩ : ∃ Rt, Rt = tg.all (elOk T) := ⟨_, rfl⟩
              have HO : Hid ((tg.drop 0).all (elOk T) = Rt) := Lib.hid hRt.symm
              have HOK2 : Hid (T.mapOk (cc, tg) = Rt) := Lib.hid (HOK.out.trans hRt.symm)
              clear hs3 HOK hRt
              go_wp2_with fail
              refine (HS1.out _ (HTR.out _)).mono ?_
              rintro e w2 ⟨rfl, b2⟩
              have hbel2 := below_next (hbel.alloc hbel.size (.cells #[.int .i64 cc, .slice A' tg.length c'] 51)) b2
              have HB2 := Lib.hid (HB'.out.later b2)
              have d1 := ((Blk.new wr 51 #[.int .i64 cc, .slice A' tg.length c']).later b2).at_ (i := 1) (u := .slice A' tg.length c') rfl
              clear HB' b2 hbel e0 e1 x0 x1 x2 x3 x4 x5 x6 x7 x8 x9 x10 x11
              go_wp2_with fail
              clear d1
              go_loopw [50] (fun i wr => ∃ (q : Nat), q ≤ tg.length ∧ i = .int .i64 q ∧ Hid ((tg.drop q).all (elOk T) = Rt) ∧ Below w.heap.size w wr ∧ Hid (Blk wr w.heap.size 29 tc)) (fun i _ => tg.length - (intOf i).toNat)
              case atStart => exact ⟨0, by omega, rfl, HO, hbel2, HB2⟩
              case round =>
                obtain ⟨q, hq, rfl, HSq, hbelq, HBq⟩ := hrel
                clear HO HB2 hbel2
                by_cases hql : q < tg.length
                · obtain ⟨y, hyq, _⟩ := get_el hql
                  obtain ⟨ay, rfl, hay, d0⟩ := HTO.out q _ hyq
                  have e0 := (hbelq.cell (p := ay.add q) (by rw [block_of_add]; exact hay)).trans d0
                  have HXq := Lib.hid hyq
                  obtain ⟨x0, x1, x2, x3, x4, x5, x6, x7, x8, x9, x10, x11⟩ := (show Blk _ _ _ #[_, _, _, _, _, _, _, _, _, _, _, _] from by have h := HBq.out; rw [HTC.out] at h; exact h).tab
                  clear d0 hyq hay
                  have s0 : (0 : Int) ≤ (q : Int) := by omega
                  have s1 : (q : Int) < (tg.length : Int) := by omega
                  have HS2 := Lib.hid (HST.out y)
                  have HTq := Lib.hid (HT.out _ hbelq)
                  rcases stat_ways (T.statusOf y) with ⟨ho, u0⟩ | ⟨ho, u0, u1⟩ | ⟨ho, u0, u1⟩
                  · have HNX := Lib.hid (each_go HXq.out HSq.out ho)
                    clear ho
                    go_wp2_with fail
                    refine (HS2.out _ HTq.out).mono ?_
                    rintro e w2 ⟨rfl, b2⟩
                    have HB3 := Lib.hid (HBq.out.later b2)
                    clear HBq x0 x1 x2 x3 x4 x5 x6 x7 x8 x9 x10 x11 e0
                    go_wp2_with fail
                    go_roundw
                    case rel => exact ⟨q + 1, by omega, by go_num, HNX, below_next hbelq b2, HB3⟩
                    case measure => simp [intOf]; omega
                  · have HNX := Lib.hid (each_go HXq.out HSq.out ho)
                    clear ho
                    go_wp2_with fail
                    refine (HS2.out _ HTq.out).mono ?_
                    rintro e w2 ⟨rfl, b2⟩
                    have HB3 := Lib.hid (HBq.out.later b2)
                    clear HBq x0 x1 x2 x3 x4 x5 x6 x7 x8 x9 x10 x11 e0
                    go_wp2_with fail
                    go_roundw
                    case rel => exact ⟨q + 1, by omega, by go_num, HNX, below_next hbelq b2, HB3⟩
                    case measure => simp [intOf]; omega
                  · have HNX := Lib.hid (each_no HXq.out HSq.out ho)
                    clear ho
                    go_wp2_with fail
                    refine (HS2.out _ HTq.out).mono ?_
                    rintro e w2 ⟨rfl, b2⟩
                    clear HBq x0 x1 x2 x3 x4 x5 x6 x7 x8 x9 x10 x11 e0
                    go_wp2_with fail
                    go_ret
                    rw [HR2.out, each_no HX.out HS.out (HOK2.out.trans HNX.out)]
                    exact ⟨rfl, below_next hbelq b2⟩
                · have HNX := Lib.hid (each_go HX.out HS.out (HOK2.out.trans (each_end (by omega) HSq.out)))
                  go_wp2_with fail
                  go_roundw
                  case rel => exact ⟨j + 1, by omega, by go_num, HNX, hbelq, HBq⟩
                  case measure => simp [intOf]; omega
            · have HNX := Lib.hid (each_no HX.out HS.out (mapOk_no (tg := tg) hs3))
              have p2 : (T.statusOf cc != 3) = true := by rw [bne_iff_ne]; exact hs3
              clear hs3
              go_wp2_with fail
              refine (HS1.out _ (HTR.out _)).mono ?_
              rintro e w2 ⟨rfl, b2⟩
              clear x0 x1 x2 x3 x4 x5 x6 x7 x8 x9 x10 x11 e0 e1
              go_wp2_with fail
              go_ret
              rw [HR2.out, HNX.out]
              exact ⟨rfl, below_next (hbel.alloc hbel.size _) b2⟩
          · have HNX := Lib.hid (each_end (by omega) HS.out)
            go_wp2_with fail
            go_ret
            rw [HR2.out, HNX.out]
            exact ⟨rfl, hbel⟩
      · have p1 : (m != (T.maps.length : Int)) = true := by rw [bne_iff_ne]; exact hne
        have HR2 : Hid (R = false) := Lib.hid (by rw [HRR.out, hNm, decide_eq_false hne, Bool.false_and])
        clear hne hNm HRR
        go_wp2_with fail
        go_ret
        rw [HR2.out]
        exact ⟨rfl, hbel⟩

set_option maxRecDepth 100000 in
set_option maxHeartbeats 4000000 in
theorem refMapped_any (t : Tv) (T : Tab) (w : World) (ht : TabR w w.heap.size t T) (hg : GoodS T.status) :
    Calls Tryz.prog 47 #[t.val] w fun e w' => e = .returned (.bool T.rule5) ∧ Below w.heap.size w w' := by
  obtain ⟨tc, htc⟩ : ∃ tc, tc = t.cells := ⟨_, rfl⟩
  have HST := Lib.hid (fun c W (h : TabR W W.heap.size t T) => refStatus_any t T c W h hg)
  have HT := Lib.hid (fun W (h : Below w.heap.size w W) => ht.later h)
  have hsp := ht.r5
  have hmp := ht.r8
  obtain ⟨A0, A1, A2, A3, A4, A5, A6, A7, A8, A9, A10, A11, k0, k1, k2, k3, k4, k5, k6, k7, k8, k9, k10, k11, rfl⟩ := ht.shape
  clear ht
  have HTC := Lib.hid htc
  clear htc
  obtain ⟨A, cp, hA, hc1, hc2, _, hcell⟩ := hsp
  cases hA
  have HC := Lib.hid hcell
  have hlm : T.status.length ≤ 256 := hg.2.1
  obtain ⟨B, cq, hB, hd1, hd2, _, hcell2⟩ := hmp
  cases hB
  have HM := Lib.hid hcell2
  have hln : T.maps.length ≤ 9223372036854775807 := by unfold maxLen at hd2; omega
  have HEL := Lib.hid (fun i a (h : T.status[i]? = some a) => okS_el hg.1 h)
  clear hcell hc1 hc2 hcell2 hd1 hd2 hg
  obtain ⟨R, hR⟩ : ∃ R, R = T.rule5 := ⟨_, rfl⟩
  rw [← hR]
  obtain ⟨N, hN⟩ : ∃ N, N = mapCount T.status := ⟨_, rfl⟩
  obtain ⟨Rm, hRm⟩ : ∃ Rm, Rm = T.maps.all T.mapOk := ⟨_, rfl⟩
  have HN0 : Hid (0 + mapCount (T.status.drop 0) = N) := Lib.hid (by rw [hN, Int.zero_add]; rfl)
  have HM0 : Hid ((T.maps.drop 0).all T.mapOk = Rm) := Lib.hid hRm.symm
  have HRR : Hid (R = (decide (N = (T.maps.length : Int)) && Rm)) := Lib.hid (by rw [hR, hN, hRm]; rfl)
  clear hR hN hRm
  go_enter Tryz.func47, Tryz.ntmps47
  go_wp2_with fail
  go_loopw [3, 14] (fun n i wr => ∃ (j : Nat) (m : Int), j ≤ T.status.length ∧ i = .int .i64 j ∧ n = .int .i64 m ∧ 0 ≤ m ∧ m ≤ 1114112 * (j : Int) ∧ Hid (m + mapCount (T.status.drop j) = N) ∧ Below w.heap.size w wr ∧ Hid (Blk wr w.heap.size 29 tc)) (fun _ i _ => T.status.length - (intOf i).toNat)
  case atStart => exact ⟨0, 0, by omega, rfl, rfl, by omega, by omega, HN0, (Below.refl _ _).alloc (Nat.le_refl _) _, Lib.hid (by rw [HTC.out]; exact Blk.new _ _ _)⟩
  case round =>
    obtain ⟨j, m, hj, rfl, rfl, hm0, hm1, HS, hbel, HB⟩ := hrel
    clear HN0
    by_cases hjl : j < T.status.length
    · obtain ⟨⟨f, t, x⟩, hxj, _⟩ := get_el hjl
      obtain ⟨aj, rfl, ha, d0, d1, d2⟩ := HC.out j _ hxj
      simp only at d0 d1 d2
      obtain ⟨e0, e1, e2⟩ := span_cells hbel ha d0 d1 d2
      have hel := HEL.out j _ hxj
      simp only at hel
      have hcg := count_go hxj HS.out
      simp only at hcg
      have HCG := Lib.hid hcg
      have HB' := Lib.hid (HB.out.alloc (.cells #[.int .i64 f, .int .i64 t, .int .i64 x] 61))
      clear d0 d1 d2 hxj ha hcg HB
      have r0 : (0 : Int) ≤ (j : Int) := by omega
      have r1 : (j : Int) < (T.status.length : Int) := by omega
      by_cases hx3 : x = 3
      · have HNX := Lib.hid (HCG.out.1 hx3)
        have p1 : (x == 3) = true := by rw [beq_iff_eq]; exact hx3
        clear hx3 HCG
        go_wp2_with fail
        go_roundw
        case rel => exact ⟨j + 1, m + (t - f + 1), by omega, by go_num, rfl, by omega, by omega, HNX, hbel.alloc hbel.size _, HB'⟩
        case measure => simp [intOf]; omega
      · have HNX := Lib.hid (HCG.out.2 hx3)
        have p1 : (x == 3) = false := by rw [beq_eq_false_iff_ne]; exact hx3
        clear hx3 HCG
        go_wp2_with fail
        go_roundw
        case rel => exact ⟨j + 1, m, by omega, by go_num, rfl, by omega, by omega, HNX, hbel.alloc hbel.size _, HB'⟩
        case measure => simp [intOf]; omega
    · have hNm := count_end (by omega) HS.out
      obtain ⟨x0, x1, x2, x3, x4, x5, x6, x7, x8, x9, x10, x11⟩ := (show Blk _ _ _ #[_, _, _, _, _, _, _, _, _, _, _, _] from by have h := HB.out; rw [HTC.out] at h; exact h).tab
      have HBT := Lib.hid HB.out
      clear HS HC HEL HB
      by_cases hne : m = (T.maps.length : Int)
      · have p1 : (m != (T.maps.length : Int)) = false := by rw [bne_eq_false_iff_eq]; exact hne
        have HR2 : Hid (R = Rm) := Lib.hid (by rw [HRR.out, hNm, decide_eq_true hne, Bool.true_and])
        clear hne hNm HRR
        go_wp2_with fail
        clear x0 x1 x2 x3 x4 x5 x6 x7 x8 x9 x10 x11
        go_loopw [38] (fun i wr => ∃ (j : Nat), j ≤ T.maps.length ∧ i = .int .i64 j ∧ Hid ((T.maps.drop j).all T.mapOk = Rm) ∧ Below w.heap.size w wr ∧ Hid (Blk wr w.heap.size 29 tc)) (fun i _ => T.maps.length - (intOf i).toNat)
        case atStart => exact ⟨0, by omega, rfl, HM0, hbel, HBT⟩
        case round =>
          obtain ⟨j, hj, rfl, HS, hbel, HB⟩ := hrel
          clear HM0 HBT
          by_cases hjl : j < T.maps.length
          · obtain ⟨⟨cc, tg⟩, hxj, _⟩ := get_el hjl
            obtain ⟨aj, sv, rfl, ha, d0, d1, hto⟩ := HM.out j _ hxj
            simp only at d0 d1 hto
            obtain ⟨A', c', rfl, he1, he2, _, hcl⟩ := id hto
            have HTO := Lib.hid hcl
            have hlt : tg.length ≤ 9223372036854775807 := by unfold maxLen at he2; omega
            obtain ⟨e0, e1⟩ := map_cells hbel ha d0 d1
            have HX := Lib.hid hxj
            have HTR := Lib.hid (fun o => HT.out _ (hbel.alloc hbel.size o))
            have HB' := Lib.hid (HB.out.alloc (.cells #[.int .i64 cc, .slice A' tg.length c'] 51))
            obtain ⟨x0, x1, x2, x3, x4, x5, x6, x7, x8, x9, x10, x11⟩ := (show Blk _ _ _ #[_, _, _, _, _, _, _, _, _, _, _, _] from by have h := HB'.out; rw [HTC.out] at h; exact h).tab
            clear d0 d1 hxj ha hto hcl he1 he2 HB
            have r0 : (0 : Int) ≤ (j : Int) := by omega
            have r1 : (j : Int) < (T.maps.length : Int) := by omega
            have HS1 := Lib.hid (HST.out cc)
            by_cases hs3 : T.statusOf cc = 3
            · have HOK := Lib.hid (mapOk_yes (T := T) (tg := tg) hs3)
              have p2 : (T.statusOf cc != 3) = false := by rw [bne_eq_false_iff_eq]; exact hs3
              obtain ⟨Rt, hRt⟩ : ∃ Rt, Rt = tg.all (elOk T) := ⟨_, rfl⟩
              have HO : Hid ((tg.drop 0).all (elOk T) = Rt) := Lib.hid hRt.symm
              have HOK2 : Hid (T.mapOk (cc, tg) = Rt) := Lib.hid (HOK.out.trans hRt.symm)
              clear hs3 HOK hRt
              go_wp2_with fail
              refine (HS1.out _ (HTR.out _)).mono ?_
              rintro e w2 ⟨rfl, b2⟩
              have hbel2 := below_next (hbel.alloc hbel.size (.cells #[.int .i64 cc, .slice A' tg.length c'] 51)) b2
              have HB2 := Lib.hid (HB'.out.later b2)
              have d1 := ((Blk.new wr 51 #[.int .i64 cc, .slice A' tg.length c']).later b2).at_ (i := 1) (u := .slice A' tg.length c') rfl
              clear HB' b2 hbel e0 e1 x0 x1 x2 x3 x4 x5 x6 x7 x8 x9 x10 x11
              go_wp2_with fail
              clear d1
              go_loopw [50] (fun i wr => ∃ (q : Nat), q ≤ tg.length ∧ i = .int .i64 q ∧ Hid ((tg.drop q).all (elOk T) = Rt) ∧ Below w.heap.size w wr ∧ Hid (Blk wr w.heap.size 29 tc)) (fun i _ => tg.length - (intOf i).toNat)
              case atStart => exact ⟨0, by omega, rfl, HO, hbel2, HB2⟩
              case round =>
                obtain ⟨q, hq, rfl, HSq, hbelq, HBq⟩ := hrel
                clear HO HB2 hbel2
                by_cases hql : q < tg.length
                · obtain ⟨y, hyq, _⟩ := get_el hql
                  obtain ⟨ay, rfl, hay, d0⟩ := HTO.out q _ hyq
                  have e0 := (hbelq.cell (p := ay.add q) (by rw [block_of_add]; exact hay)).trans d0
                  have HXq := Lib.hid hyq
                  obtain ⟨x0, x1, x2, x3, x4, x5, x6, x7, x8, x9, x10, x11⟩ := (show Blk _ _ _ #[_, _, _, _, _, _, _, _, _, _, _, _] from by have h := HBq.out; rw [HTC.out] at h; exact h).tab
                  clear d0 hyq hay
                  have s0 : (0 : Int) ≤ (q : Int) := by omega
                  have s1 : (q : Int) < (tg.length : Int) := by omega
                  have HS2 := Lib.hid (HST.out y)
                  have HTq := Lib.hid (HT.out _ hbelq)
                  rcases stat_ways (T.statusOf y) with ⟨ho, u0⟩ | ⟨ho, u0, u1⟩ | ⟨ho, u0, u1⟩
                  · have HNX := Lib.hid (each_go HXq.out HSq.out ho)
                    clear ho
                    go_wp2_with fail
                    refine (HS2.out _ HTq.out).mono ?_
                    rintro e w2 ⟨rfl, b2⟩
                    have HB3 := Lib.hid (HBq.out.later b2)
                    clear HBq x0 x1 x2 x3 x4 x5 x6 x7 x8 x9 x10 x11 e0
                    go_wp2_with fail
                    go_roundw
                    case rel => exact ⟨q + 1, by omega, by go_num, HNX, below_next hbelq b2, HB3⟩
                    case measure => simp [intOf]; omega
                  · have HNX := Lib.hid (each_go HXq.out HSq.out ho)
                    clear ho
                    go_wp2_with fail
                    refine (HS2.out _ HTq.out).mono ?_
                    rintro e w2 ⟨rfl, b2⟩
                    have HB3 := Lib.hid (HBq.out.later b2)
                    clear HBq x0 x1 x2 x3 x4 x5 x6 x7 x8 x9 x10 x11 e0
                    go_wp2_with fail
                    go_roundw
                    case rel => exact ⟨q + 1, by omega, by go_num, HNX, below_next hbelq b2, HB3⟩
                    case measure => simp [intOf]; omega
                  · have HNX := Lib.hid (each_no HXq.out HSq.out ho)
                    clear ho
                    go_wp2_with fail
                    refine (HS2.out _ HTq.out).mono ?_
                    rintro e w2 ⟨rfl, b2⟩
                    clear HBq x0 x1 x2 x3 x4 x5 x6 x7 x8 x9 x10 x11 e0
                    go_wp2_with fail
                    go_ret
                    rw [HR2.out, each_no HX.out HS.out (HOK2.out.trans HNX.out)]
                    exact ⟨rfl, below_next hbelq b2⟩
                · have HNX := Lib.hid (each_go HX.out HS.out (HOK2.out.trans (each_end (by omega) HSq.out)))
                  go_wp2_with fail
                  go_roundw
                  case rel => exact ⟨j + 1, by omega, by go_num, HNX, hbelq, HBq⟩
                  case measure => simp [intOf]; omega
            · have HNX := Lib.hid (each_no HX.out HS.out (mapOk_no (tg := tg) hs3))
              have p2 : (T.statusOf cc != 3) = true := by rw [bne_iff_ne]; exact hs3
              clear hs3
              go_wp2_with fail
              refine (HS1.out _ (HTR.out _)).mono ?_
              rintro e w2 ⟨rfl, b2⟩
              clear x0 x1 x2 x3 x4 x5 x6 x7 x8 x9 x10 x11 e0 e1
              go_wp2_with fail
              go_ret
              rw [HR2.out, HNX.out]
              exact ⟨rfl, below_next (hbel.alloc hbel.size _) b2⟩
          · have HNX := Lib.hid (each_end (by omega) HS.out)
            go_wp2_with fail
            go_ret
            rw [HR2.out, HNX.out]
            exact ⟨rfl, hbel⟩
      · have p1 : (m != (T.maps.length : Int)) = true := by rw [bne_iff_ne]; exact hne
        have HR2 : Hid (R = false) := Lib.hid (by rw [HRR.out, hNm, decide_eq_false hne, Bool.false_and])
        clear hne hNm HRR
        go_wp2_with fail
        go_ret
        rw [HR2.out]
        exact ⟨rfl, hbel⟩
end Go.Proofs.YtikcfoobfobmnaaGreatDoor
