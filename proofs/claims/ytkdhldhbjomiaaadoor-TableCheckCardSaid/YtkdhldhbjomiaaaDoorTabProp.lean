/-
  The walks through table.fixed, table.pick and the properties of a code point.
-/
import Derived.Test.YtkdhldhbjomiaaaDoorTabFind2
import Derived.Test.YtkdhldhbjomiaaaDoorTabB
import Derived.Test.YtkdhldhbjomiaaaDoorScal
namespace Go.Proofs.YtkdhldhbjomiaaaDoor
open Go.RowKit ND

def fixV (q : Int × Int × Int × Int) : Value := .agg #[.int .i64 q.1, .int .i64 q.2.1, .int .i64 q.2.2.1, .int .i64 q.2.2.2]

/-- The ways through fixed at a reserved code point. -/
theorem fix_ways (c : Int) (h : resB c = true) :
    (97 ≤ c ∧ c ≤ 122 ∧ fixC c = (1, 0, 3, 1)) ∨ (65 ≤ c ∧ c ≤ 90 ∧ fixC c = (1, 0, 3, 3)) ∨ (48 ≤ c ∧ c ≤ 57 ∧ fixC c = (3, 4, 1, 1)) ∨ (c = 45 ∧ fixC c = (5, 5, 1, 1)) ∨ (c = 46 ∧ fixC c = (5, 6, 1, 1)) ∨ (c = 32 ∧ fixC c = (7, 11, 1, 0)) ∨
    (0 ≤ c ∧ c < 32 ∧ fixC c = (8, 11, 1, 0)) ∨ (c = 127 ∧ fixC c = (8, 11, 1, 0)) ∨
    (c < 127 ∧ 32 < c ∧ (c == 45) = false ∧ (c == 46) = false ∧ (c < 48 ∨ 57 < c ∧ c < 65 ∨ 90 < c ∧ c < 97 ∨ 122 < c) ∧ fixC c = (5, 8, 1, 0)) ∨
    (44032 ≤ c ∧ sylB c = true ∧ fixC c = (1, 0, 9, 1)) ∨ (128 ≤ c ∧ sylB c = false ∧ jamoB c = true ∧ fixC c = (1, 0, 9, 0)) ∨ (55296 ≤ c ∧ sylB c = false ∧ jamoB c = false ∧ fixC c = (0, 0, 0, 0)) := by
  have h' := (resB_iff c).1 h
  have e1 : (sylB c = true ↔ 44032 ≤ c ∧ c ≤ 55203) := sylB_iff c
  have e2 := jamoB_iff c
  have e1' : sylB c = false ↔ ¬(44032 ≤ c ∧ c ≤ 55203) := by rw [← e1]; simp
  have e2' : jamoB c = false ↔ ¬(4352 ≤ c ∧ c ≤ 4370 ∨ 4449 ≤ c ∧ c ≤ 4469 ∨ 4520 ≤ c ∧ c ≤ 4546) := by rw [← e2]; simp
  rw [e1, e1', e2, e2', beq_eq_false_iff_ne, beq_eq_false_iff_ne]
  unfold fixC
  by_cases a1 : 97 ≤ c ∧ c ≤ 122
  · exact .inl ⟨a1.1, a1.2, if_pos a1⟩
  rw [if_neg a1]
  by_cases a2 : 65 ≤ c ∧ c ≤ 90
  · exact .inr (.inl ⟨a2.1, a2.2, if_pos a2⟩)
  rw [if_neg a2]
  by_cases a3 : 48 ≤ c ∧ c ≤ 57
  · exact .inr (.inr (.inl ⟨a3.1, a3.2, if_pos a3⟩))
  rw [if_neg a3]
  by_cases a4 : c = 45
  · exact .inr (.inr (.inr (.inl ⟨a4, if_pos a4⟩)))
  rw [if_neg a4]
  by_cases a5 : c = 46
  · exact .inr (.inr (.inr (.inr (.inl ⟨a5, if_pos a5⟩))))
  rw [if_neg a5]
  by_cases a6 : c = 32
  · exact .inr (.inr (.inr (.inr (.inr (.inl ⟨a6, if_pos a6⟩)))))
  rw [if_neg a6]
  by_cases a7 : c < 32 ∨ c = 127
  · rw [if_pos a7]
    rcases a7 with a7 | a7
    · exact .inr (.inr (.inr (.inr (.inr (.inr (.inl ⟨by omega, a7, rfl⟩))))))
    · exact .inr (.inr (.inr (.inr (.inr (.inr (.inr (.inl ⟨a7, rfl⟩)))))))
  rw [if_neg a7]
  by_cases a8 : c < 127
  · rw [if_pos a8]
    exact .inr (.inr (.inr (.inr (.inr (.inr (.inr (.inr (.inl ⟨a8, by omega, a4, a5, by omega, rfl⟩))))))))
  rw [if_neg a8]
  by_cases a9 : 44032 ≤ c ∧ c ≤ 55203
  · rw [if_pos a9]
    exact .inr (.inr (.inr (.inr (.inr (.inr (.inr (.inr (.inr (.inl ⟨a9.1, a9, rfl⟩)))))))))
  rw [if_neg a9]
  by_cases a10 : 4352 ≤ c ∧ c ≤ 4370 ∨ 4449 ≤ c ∧ c ≤ 4469 ∨ 4520 ≤ c ∧ c ≤ 4546
  · rw [if_pos a10]
    exact .inr (.inr (.inr (.inr (.inr (.inr (.inr (.inr (.inr (.inr (.inl ⟨by omega, a9, a10, rfl⟩))))))))))
  rw [if_neg a10]
  exact .inr (.inr (.inr (.inr (.inr (.inr (.inr (.inr (.inr (.inr (.inr ⟨by omega, a9, a10, rfl⟩))))))))))

set_option maxRecDepth 100000 in
set_option maxHeartbeats 1000000 in
theorem fixed_any (c : Int) (h : resB c = true) (w : World) : Calls Tryd.prog 123 #[.int .i64 c] w fun e w' => e = .returned (fixV (fixC c)) ∧ Below w.heap.size w w' := by
  have h1 := Lib.hid (fun W => syl_any c W)
  have h2 := Lib.hid (fun W => jamo_any c W)
  have hb := ((Below.refl w.heap.size w).alloc (Nat.le_refl _) (.cells #[.int .i64 0, .int .i64 0, .int .i64 0, .int .i64 0] 73))
  rcases fix_ways c h with ⟨y0, y1, hf⟩ | ⟨y0, y1, hf⟩ | ⟨y0, y1, hf⟩ | ⟨rfl, hf⟩ | ⟨rfl, hf⟩ | ⟨rfl, hf⟩ | ⟨y0, y1, hf⟩ | ⟨rfl, hf⟩ | ⟨y0, y1, y2, y3, y4, hf⟩ | ⟨y0, y1, hf⟩ | ⟨y0, y1, y2, hf⟩ | ⟨y0, y1, y2, hf⟩
  · rw [hf]
    clear hf h
    go_enter Tryd.func123, Tryd.ntmps123
    go_wp2_with fail
    refine bodyPost_ret (v := .agg #[.int .i64 1, .int .i64 0, .int .i64 3, .int .i64 1]) (by simp [results, Tryd.results123, go_sem]) rfl ⟨rfl, ?_⟩
    repeat (first | exact Below.refl _ _ | refine Below.setCell ?_ (by simp) _ | refine Below.alloc ?_ (by simp) _)
  · rw [hf]
    clear hf h
    go_enter Tryd.func123, Tryd.ntmps123
    go_wp2_with fail
    refine bodyPost_ret (v := .agg #[.int .i64 1, .int .i64 0, .int .i64 3, .int .i64 3]) (by simp [results, Tryd.results123, go_sem]) rfl ⟨rfl, ?_⟩
    repeat (first | exact Below.refl _ _ | refine Below.setCell ?_ (by simp) _ | refine Below.alloc ?_ (by simp) _)
  · rw [hf]
    clear hf h
    go_enter Tryd.func123, Tryd.ntmps123
    go_wp2_with fail
    refine bodyPost_ret (v := .agg #[.int .i64 3, .int .i64 4, .int .i64 1, .int .i64 1]) (by simp [results, Tryd.results123, go_sem]) rfl ⟨rfl, ?_⟩
    repeat (first | exact Below.refl _ _ | refine Below.setCell ?_ (by simp) _ | refine Below.alloc ?_ (by simp) _)
  · rw [hf]
    clear hf h
    go_enter Tryd.func123, Tryd.ntmps123
    go_wp2_with fail
    refine bodyPost_ret (v := .agg #[.int .i64 5, .int .i64 5, .int .i64 1, .int .i64 1]) (by simp [results, Tryd.results123, go_sem]) rfl ⟨rfl, ?_⟩
    repeat (first | exact Below.refl _ _ | refine Below.setCell ?_ (by simp) _ | refine Below.alloc ?_ (by simp) _)
  · rw [hf]
    clear hf h
    go_enter Tryd.func123, Tryd.ntmps123
    go_wp2_with fail
    refine bodyPost_ret (v := .agg #[.int .i64 5, .int .i64 6, .int .i64 1, .int .i64 1]) (by simp [results, Tryd.results123, go_sem]) rfl ⟨rfl, ?_⟩
    repeat (first | exact Below.refl _ _ | refine Below.setCell ?_ (by simp) _ | refine Below.alloc ?_ (by simp) _)
  · rw [hf]
    clear hf h
    go_enter Tryd.func123, Tryd.ntmps123
    go_wp2_with fail
    refine bodyPost_ret (v := .agg #[.int .i64 7, .int .i64 11, .int .i64 1, .int .i64 0]) (by simp [results, Tryd.results123, go_sem]) rfl ⟨rfl, ?_⟩
    repeat (first | exact Below.refl _ _ | refine Below.setCell ?_ (by simp) _ | refine Below.alloc ?_ (by simp) _)
  · rw [hf]
    clear hf h
    go_enter Tryd.func123, Tryd.ntmps123
    go_wp2_with fail
    refine bodyPost_ret (v := .agg #[.int .i64 8, .int .i64 11, .int .i64 1, .int .i64 0]) (by simp [results, Tryd.results123, go_sem]) rfl ⟨rfl, ?_⟩
    repeat (first | exact Below.refl _ _ | refine Below.setCell ?_ (by simp) _ | refine Below.alloc ?_ (by simp) _)
  · rw [hf]
    clear hf h
    go_enter Tryd.func123, Tryd.ntmps123
    go_wp2_with fail
    refine bodyPost_ret (v := .agg #[.int .i64 8, .int .i64 11, .int .i64 1, .int .i64 0]) (by simp [results, Tryd.results123, go_sem]) rfl ⟨rfl, ?_⟩
    repeat (first | exact Below.refl _ _ | refine Below.setCell ?_ (by simp) _ | refine Below.alloc ?_ (by simp) _)
  · rw [hf]
    clear hf h
    have q3 : (c == 32) = false := by rw [beq_eq_false_iff_ne]; omega
    have q4 : (c == 127) = false := by rw [beq_eq_false_iff_ne]; omega
    rcases y4 with y4 | ⟨y4, y5⟩ | ⟨y4, y5⟩ | y4
    all_goals
      go_enter Tryd.func123, Tryd.ntmps123
      go_wp2_with fail
      refine bodyPost_ret (v := .agg #[.int .i64 5, .int .i64 8, .int .i64 1, .int .i64 0]) (by simp [results, Tryd.results123, go_sem]) rfl ⟨rfl, ?_⟩
      repeat (first | exact Below.refl _ _ | refine Below.setCell ?_ (by simp) _ | refine Below.alloc ?_ (by simp) _)
  · rw [hf]
    clear hf h
    have q1 : (c == 45) = false := by rw [beq_eq_false_iff_ne]; omega
    have q2 : (c == 46) = false := by rw [beq_eq_false_iff_ne]; omega
    have q3 : (c == 32) = false := by rw [beq_eq_false_iff_ne]; omega
    have q4 : (c == 127) = false := by rw [beq_eq_false_iff_ne]; omega
    have h1' := Lib.hid h1.out
    rw [y1] at h1'
    clear y1
    go_enter Tryd.func123, Tryd.ntmps123
    go_wp2_with fail
    refine (h1'.out _).mono ?_
    rintro e w' ⟨rfl, rfl⟩
    go_wp2_with fail
    refine bodyPost_ret (v := .agg #[.int .i64 1, .int .i64 0, .int .i64 9, .int .i64 1]) (by simp [results, Tryd.results123, go_sem]) rfl ⟨rfl, ?_⟩
    repeat (first | exact Below.refl _ _ | refine Below.setCell ?_ (by simp) _ | refine Below.alloc ?_ (by simp) _)
  · rw [hf]
    clear hf h
    have q1 : (c == 45) = false := by rw [beq_eq_false_iff_ne]; omega
    have q2 : (c == 46) = false := by rw [beq_eq_false_iff_ne]; omega
    have q3 : (c == 32) = false := by rw [beq_eq_false_iff_ne]; omega
    have q4 : (c == 127) = false := by rw [beq_eq_false_iff_ne]; omega
    have h1' := Lib.hid h1.out
    rw [y1] at h1'
    have h2' := Lib.hid h2.out
    rw [y2] at h2'
    clear y1 y2
    go_enter Tryd.func123, Tryd.ntmps123
    go_wp2_with fail
    refine (h1'.out _).mono ?_
    rintro e w' ⟨rfl, rfl⟩
    go_wp2_with fail
    refine (h2'.out _).mono ?_
    rintro e w' ⟨rfl, rfl⟩
    go_wp2_with fail
    refine bodyPost_ret (v := .agg #[.int .i64 1, .int .i64 0, .int .i64 9, .int .i64 0]) (by simp [results, Tryd.results123, go_sem]) rfl ⟨rfl, ?_⟩
    repeat (first | exact Below.refl _ _ | refine Below.setCell ?_ (by simp) _ | refine Below.alloc ?_ (by simp) _)
  · rw [hf]
    clear hf h
    have q1 : (c == 45) = false := by rw [beq_eq_false_iff_ne]; omega
    have q2 : (c == 46) = false := by rw [beq_eq_false_iff_ne]; omega
    have q3 : (c == 32) = false := by rw [beq_eq_false_iff_ne]; omega
    have q4 : (c == 127) = false := by rw [beq_eq_false_iff_ne]; omega
    have h1' := Lib.hid h1.out
    rw [y1] at h1'
    have h2' := Lib.hid h2.out
    rw [y2] at h2'
    clear y1 y2
    go_enter Tryd.func123, Tryd.ntmps123
    go_wp2_with fail
    refine (h1'.out _).mono ?_
    rintro e w' ⟨rfl, rfl⟩
    go_wp2_with fail
    refine (h2'.out _).mono ?_
    rintro e w' ⟨rfl, rfl⟩
    go_wp2_with fail
    refine bodyPost_ret (v := .agg #[.int .i64 0, .int .i64 0, .int .i64 0, .int .i64 0]) (by simp [results, Tryd.results123, go_sem]) rfl ⟨rfl, ?_⟩
    repeat (first | exact Below.refl _ _ | refine Below.setCell ?_ (by simp) _ | refine Below.alloc ?_ (by simp) _)
end Go.Proofs.YtkdhldhbjomiaaaDoor
