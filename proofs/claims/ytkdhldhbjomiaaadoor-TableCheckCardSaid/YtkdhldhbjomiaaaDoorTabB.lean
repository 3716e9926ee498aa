/-
  The walks through the small functions on code points, of table and of its reference.
-/
import Derived.Test.YtkdhldhbjomiaaaDoorMore
import Derived.Test.YtkdhldhbjomiaaaDoorTabP
namespace Go.Proofs.YtkdhldhbjomiaaaDoor
open Go.RowKit ND

set_option maxHeartbeats 400000 in
theorem syl_any (c : Int) (w : World) : Calls Tryd.prog 107 #[.int .i64 c] w fun e w' => e = .returned (.bool (sylB c)) ∧ w = w' := by
  go_enter Tryd.func107, Tryd.ntmps107
  go_wp2
  all_goals go_ret
  all_goals refine ⟨ret_bool (bool_eq ?_), rfl⟩
  all_goals rw [sylB_iff]
  all_goals simp
  all_goals omega
set_option maxHeartbeats 400000 in
theorem jamo_any (c : Int) (w : World) : Calls Tryd.prog 108 #[.int .i64 c] w fun e w' => e = .returned (.bool (jamoB c)) ∧ w = w' := by
  go_enter Tryd.func108, Tryd.ntmps108
  go_wp2
  all_goals go_ret
  all_goals refine ⟨ret_bool (bool_eq ?_), rfl⟩
  all_goals rw [jamoB_iff]
  all_goals simp
  all_goals omega
set_option maxHeartbeats 400000 in
theorem sur_any (c : Int) (w : World) : Calls Tryd.prog 134 #[.int .i64 c] w fun e w' => e = .returned (.bool (surB c)) ∧ w = w' := by
  go_enter Tryd.func134, Tryd.ntmps134
  go_wp2
  all_goals go_ret
  all_goals refine ⟨ret_bool (bool_eq ?_), rfl⟩
  all_goals rw [surB_iff]
  all_goals simp
  all_goals omega
set_option maxHeartbeats 400000 in
theorem name_any (c : Int) (w : World) : Calls Tryd.prog 104 #[.int .i64 c] w fun e w' => e = .returned (.bool (nameB c)) ∧ w = w' := by
  go_enter Tryd.func104, Tryd.ntmps104
  go_wp2
  all_goals go_ret
  all_goals refine ⟨ret_bool (bool_eq ?_), rfl⟩
  all_goals rw [nameB_iff]
  all_goals simp
  all_goals omega
set_option maxHeartbeats 400000 in
theorem refSyl_any (c : Int) (w : World) : Calls Tryd.prog 50 #[.int .i64 c] w fun e w' => e = .returned (.bool (sylB c)) ∧ w = w' := by
  go_enter Tryd.func50, Tryd.ntmps50
  go_wp2
  all_goals go_ret
  all_goals refine ⟨ret_bool (bool_eq ?_), rfl⟩
  all_goals rw [sylB_iff]
  all_goals simp
  all_goals omega
set_option maxHeartbeats 400000 in
theorem refJamo_any (c : Int) (w : World) : Calls Tryd.prog 117 #[.int .i64 c] w fun e w' => e = .returned (.bool (jamoB c)) ∧ w = w' := by
  go_enter Tryd.func117, Tryd.ntmps117
  go_wp2
  all_goals go_ret
  all_goals refine ⟨ret_bool (bool_eq ?_), rfl⟩
  all_goals rw [jamoB_iff]
  all_goals simp
  all_goals omega
set_option maxHeartbeats 400000 in
theorem latin_any (c : Int) (w : World) : Calls Tryd.prog 115 #[.int .i64 c] w fun e w' => e = .returned (.bool (nameB c)) ∧ w = w' := by
  go_enter Tryd.func115, Tryd.ntmps115
  go_wp2
  all_goals go_ret
  all_goals refine ⟨ret_bool (bool_eq ?_), rfl⟩
  all_goals rw [nameB_iff]
  all_goals simp
  all_goals omega

theorem resB_parts {c : Int} {a b d : Bool} (h1 : surB c = a) (h2 : sylB c = b) (h3 : jamoB c = d) : resB c = (decide (0 ≤ c ∧ c ≤ 127) || a || b || d) := by
  subst h1 h2 h3
  rw [Bool.eq_iff_iff, resB_iff]
  simp only [Bool.or_eq_true, decide_eq_true_eq, surB_iff, sylB_iff, jamoB_iff]
  omega

set_option maxHeartbeats 400000 in
theorem reserved_any (c : Int) (w : World) : Calls Tryd.prog 122 #[.int .i64 c] w fun e w' => e = .returned (.bool (resB c)) ∧ w = w' := by
  have h1 := Lib.hid (fun W => sur_any c W)
  have h2 := Lib.hid (fun W => syl_any c W)
  have h3 := Lib.hid (fun W => jamo_any c W)
  rw [resB_parts rfl rfl rfl]
  generalize surB c = b1 at *
  generalize sylB c = b2 at *
  generalize jamoB c = b3 at *
  rcases show (0 ≤ c ∧ c ≤ 127) ∨ ((c < 0 ∨ 127 < c) ∧ ¬(0 ≤ c ∧ c ≤ 127)) by omega with h | ⟨h, h'⟩
  · have hd : decide (0 ≤ c ∧ c ≤ 127) = true := decide_eq_true h
    rw [hd]
    obtain ⟨y0, y1⟩ := h
    go_enter Tryd.func122, Tryd.ntmps122
    go_wp2_with fail
    go_ret
    exact ⟨by simp, rfl⟩
  · have hd : decide (0 ≤ c ∧ c ≤ 127) = false := decide_eq_false h'
    rw [hd]
    clear h' hd
    rcases h with h | h
    all_goals
      cases b1
      · cases b2
        · go_enter Tryd.func122, Tryd.ntmps122
          go_wp2_with fail
          refine (h1.out _).mono ?_
          rintro e w' ⟨rfl, rfl⟩
          go_wp2_with fail
          refine (h2.out _).mono ?_
          rintro e w' ⟨rfl, rfl⟩
          go_wp2_with fail
          refine (h3.out _).mono ?_
          rintro e w' ⟨rfl, rfl⟩
          go_wp2_with fail
          go_ret
          exact ⟨by simp; try (intro h; omega), rfl⟩
        · go_enter Tryd.func122, Tryd.ntmps122
          go_wp2_with fail
          refine (h1.out _).mono ?_
          rintro e w' ⟨rfl, rfl⟩
          go_wp2_with fail
          refine (h2.out _).mono ?_
          rintro e w' ⟨rfl, rfl⟩
          go_wp2_with fail
          go_ret
          exact ⟨by simp, rfl⟩
      · go_enter Tryd.func122, Tryd.ntmps122
        go_wp2_with fail
        refine (h1.out _).mono ?_
        rintro e w' ⟨rfl, rfl⟩
        go_wp2_with fail
        go_ret
        exact ⟨by simp, rfl⟩

set_option maxHeartbeats 400000 in
theorem refReserved_any (c : Int) (w : World) : Calls Tryd.prog 114 #[.int .i64 c] w fun e w' => e = .returned (.bool (resB c)) ∧ w = w' := by
  have h2 := Lib.hid (fun W => refSyl_any c W)
  have h3 := Lib.hid (fun W => refJamo_any c W)
  rw [resB_parts rfl rfl rfl]
  generalize hb1 : surB c = b1
  generalize sylB c = b2 at *
  generalize jamoB c = b3 at *
  have hs : (b1 = true ∧ 55296 ≤ c ∧ c ≤ 57343) ∨ (b1 = false ∧ (c < 55296 ∨ 57343 < c)) := by
    subst hb1
    unfold surB
    by_cases h : 55296 ≤ c ∧ c ≤ 57343
    · exact .inl ⟨decide_eq_true h, h⟩
    · exact .inr ⟨decide_eq_false h, by omega⟩
  clear hb1
  rcases show (0 ≤ c ∧ c ≤ 127) ∨ ((c < 0 ∨ 127 < c) ∧ ¬(0 ≤ c ∧ c ≤ 127)) by omega with h | ⟨h, h'⟩
  · have hd : decide (0 ≤ c ∧ c ≤ 127) = true := decide_eq_true h
    rw [hd]
    obtain ⟨y0, y1⟩ := h
    go_enter Tryd.func114, Tryd.ntmps114
    go_wp2_with fail
    go_ret
    exact ⟨by simp, rfl⟩
  · have hd : decide (0 ≤ c ∧ c ≤ 127) = false := decide_eq_false h'
    rw [hd]
    clear h' hd
    rcases hs with ⟨rfl, y0, y1⟩ | ⟨rfl, hs⟩
    · have h1 : 127 < c := by omega
      clear h
      go_enter Tryd.func114, Tryd.ntmps114
      go_wp2_with fail
      go_ret
      exact ⟨by simp; try omega, rfl⟩
    · have hw : c < 0 ∨ (127 < c ∧ c < 55296) ∨ 57343 < c := by omega
      clear h hs
      rcases hw with h | ⟨h, hs⟩ | h
      all_goals
        cases b2
        · go_enter Tryd.func114, Tryd.ntmps114
          go_wp2_with fail
          refine (h2.out _).mono ?_
          rintro e w' ⟨rfl, rfl⟩
          go_wp2_with fail
          refine (h3.out _).mono ?_
          rintro e w' ⟨rfl, rfl⟩
          go_wp2_with fail
          go_ret
          exact ⟨by simp; try omega, rfl⟩
        · go_enter Tryd.func114, Tryd.ntmps114
          go_wp2_with fail
          refine (h2.out _).mono ?_
          rintro e w' ⟨rfl, rfl⟩
          go_wp2_with fail
          go_ret
          exact ⟨by simp; try omega, rfl⟩

/-- What a key may be behind another one. -/
def pointB (last c : Int) : Bool := decide (last < c ∧ c ≤ 1114111) && !resB c
set_option maxHeartbeats 400000 in
theorem point_any (last c : Int) (w : World) : Calls Tryd.prog 103 #[.int .i64 last, .int .i64 c] w fun e w' => e = .returned (.bool (pointB last c)) ∧ w = w' := by
  have h1 := Lib.hid (fun W => reserved_any c W)
  unfold pointB
  generalize resB c = b1 at *
  rcases show (last < c ∧ c ≤ 1114111) ∨ (c ≤ last ∧ ¬(last < c ∧ c ≤ 1114111)) ∨ (last < c ∧ 1114111 < c ∧ ¬(last < c ∧ c ≤ 1114111)) by omega with h | ⟨h, h'⟩ | ⟨h, h0, h'⟩
  · have hd : decide (last < c ∧ c ≤ 1114111) = true := decide_eq_true h
    rw [hd]
    clear hd
    obtain ⟨y0, y1⟩ := h
    go_enter Tryd.func103, Tryd.ntmps103
    go_wp2_with fail
    refine (h1.out _).mono ?_
    rintro e w' ⟨rfl, rfl⟩
    go_wp2_with fail
    go_ret
    exact ⟨by simp, rfl⟩
  · have hd : decide (last < c ∧ c ≤ 1114111) = false := decide_eq_false h'
    rw [hd]
    clear hd h'
    go_enter Tryd.func103, Tryd.ntmps103
    go_wp2_with fail
    go_ret
    exact ⟨by simp, rfl⟩
  · have hd : decide (last < c ∧ c ≤ 1114111) = false := decide_eq_false h'
    rw [hd]
    clear hd h'
    go_enter Tryd.func103, Tryd.ntmps103
    go_wp2_with fail
    go_ret
    exact ⟨by simp, rfl⟩
end Go.Proofs.YtkdhldhbjomiaaaDoor
