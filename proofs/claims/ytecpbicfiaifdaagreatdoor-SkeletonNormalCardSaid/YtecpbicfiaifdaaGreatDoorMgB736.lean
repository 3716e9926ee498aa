/-
  Merged texts: lemmas and walks that the last text of this claim leans on.
-/
import Derived.Test.YtecpbicfiaifdaaGreatDoorMgB730
import Derived.Test.YtecpbicfiaifdaaGreatDoorMgB725
import Derived.Test.YtecpbicfiaifdaaGreatDoorMgB717
import Derived.Test.YtecpbicfiaifdaaGreatDoorMgB78
import Derived.Test.YtecpbicfiaifdaaGreatDoorMgB721
import Derived.Test.YtecpbicfiaifdaaGreatDoorMgB728
/-
  The walks through the reference's Kind, HangulCompose and pair.
-/
namespace Go.Proofs.YtecpbicfiaifdaaGreatDoor
open Go.RowKit ND

/-- The kind of a code point, as the Hangul chapter has it. -/
def kindZ (c : Int) : Int :=
  if 4352 ≤ c ∧ c ≤ 4370 then 1 else if 4449 ≤ c ∧ c ≤ 4469 then 2 else if 4520 ≤ c ∧ c ≤ 4546 then 3
  else if ¬ (44032 ≤ c ∧ c ≤ 55203) then 0 else if (c - 44032) % 28 = 0 then 4 else 5
theorem kind_inv (c : Int) : (kindZ c = 1 ↔ 4352 ≤ c ∧ c ≤ 4370) ∧ (kindZ c = 2 ↔ 4449 ≤ c ∧ c ≤ 4469) ∧ (kindZ c = 3 ↔ 4520 ≤ c ∧ c ≤ 4546) ∧ (kindZ c = 4 ↔ 44032 ≤ c ∧ c ≤ 55203 ∧ (c - 44032) % 28 = 0) := by
  unfold kindZ
  refine ⟨?_, ?_, ?_, ?_⟩ <;> (repeat' split) <;> omega
set_option maxRecDepth 100000 in
set_option maxHeartbeats 2000000 in
theorem refKind_any (c : Int) (w : World) : Calls Tryz.prog 94 #[.int .i64 c] w fun e w' => e = .returned (.int .i64 (kindZ c)) ∧ w = w' := by
  have HY := Lib.hid (refSyl_any c)
  rcases show (c < 4352) ∨ (4352 ≤ c ∧ c ≤ 4370) ∨ (4370 < c ∧ c < 4449) ∨ (4449 ≤ c ∧ c ≤ 4469) ∨ (4469 < c ∧ c < 4520) ∨ (4520 ≤ c ∧ c ≤ 4546) ∨ (4546 < c ∧ c < 44032) ∨ (55203 < c) ∨ (44032 ≤ c ∧ c ≤ 55203) by omega with g1 | ⟨g1, g2⟩ | ⟨g1, g2⟩ | ⟨g1, g2⟩ | ⟨g1, g2⟩ | ⟨g1, g2⟩ | ⟨g1, g2⟩ | g1 | ⟨g1, g2⟩
  · have e : kindZ c = 0 := by unfold kindZ; repeat (first | rw [if_pos (by omega)] | rw [if_neg (by omega)])
    rw [e]
    clear e
    have hs : sylB c = false := by unfold sylB; rw [decide_eq_false_iff_not]; omega
    rw [hs] at HY
    clear hs
    go_enter Tryz.func94, Tryz.ntmps94
    go_wp2_with (go_at_call 92; refine (HY.out _).mono ?_; rintro e w2 ⟨rfl, rfl⟩)
    go_ret
    exact ⟨rfl, rfl⟩
  · have e : kindZ c = 1 := by unfold kindZ; repeat (first | rw [if_pos (by omega)] | rw [if_neg (by omega)])
    rw [e]
    clear e
    go_enter Tryz.func94, Tryz.ntmps94
    go_wp2_with fail
    go_ret
    exact ⟨rfl, rfl⟩
  · have e : kindZ c = 0 := by unfold kindZ; repeat (first | rw [if_pos (by omega)] | rw [if_neg (by omega)])
    rw [e]
    clear e
    have hs : sylB c = false := by unfold sylB; rw [decide_eq_false_iff_not]; omega
    rw [hs] at HY
    clear hs
    go_enter Tryz.func94, Tryz.ntmps94
    go_wp2_with (go_at_call 92; refine (HY.out _).mono ?_; rintro e w2 ⟨rfl, rfl⟩)
    go_ret
    exact ⟨rfl, rfl⟩
  · have e : kindZ c = 2 := by unfold kindZ; repeat (first | rw [if_pos (by omega)] | rw [if_neg (by omega)])
    rw [e]
    clear e
    go_enter Tryz.func94, Tryz.ntmps94
    go_wp2_with fail
    go_ret
    exact ⟨rfl, rfl⟩
  · have e : kindZ c = 0 := by unfold kindZ; repeat (first | rw [if_pos (by omega)] | rw [if_neg (by omega)])
    rw [e]
    clear e
    have hs : sylB c = false := by unfold sylB; rw [decide_eq_false_iff_not]; omega
    rw [hs] at HY
    clear hs
    go_enter Tryz.func94, Tryz.ntmps94
    go_wp2_with (go_at_call 92; refine (HY.out _).mono ?_; rintro e w2 ⟨rfl, rfl⟩)
    go_ret
    exact ⟨rfl, rfl⟩
  · have e : kindZ c = 3 := by unfold kindZ; repeat (first | rw [if_pos (by omega)] | rw [if_neg (by omega)])
    rw [e]
    clear e
    go_enter Tryz.func94, Tryz.ntmps94
    go_wp2_with fail
    go_ret
    exact ⟨rfl, rfl⟩
  · have e : kindZ c = 0 := by unfold kindZ; repeat (first | rw [if_pos (by omega)] | rw [if_neg (by omega)])
    rw [e]
    clear e
    have hs : sylB c = false := by unfold sylB; rw [decide_eq_false_iff_not]; omega
    rw [hs] at HY
    clear hs
    go_enter Tryz.func94, Tryz.ntmps94
    go_wp2_with (go_at_call 92; refine (HY.out _).mono ?_; rintro e w2 ⟨rfl, rfl⟩)
    go_ret
    exact ⟨rfl, rfl⟩
  · have e : kindZ c = 0 := by unfold kindZ; repeat (first | rw [if_pos (by omega)] | rw [if_neg (by omega)])
    rw [e]
    clear e
    have hs : sylB c = false := by unfold sylB; rw [decide_eq_false_iff_not]; omega
    rw [hs] at HY
    clear hs
    go_enter Tryz.func94, Tryz.ntmps94
    go_wp2_with (go_at_call 92; refine (HY.out _).mono ?_; rintro e w2 ⟨rfl, rfl⟩)
    go_ret
    exact ⟨rfl, rfl⟩
  · have hs : sylB c = true := by rw [sylB_iff]; omega
    rw [hs] at HY
    clear hs
    have m1 : IntKind.i64.wrap (c - 44032) = c - 44032 := IntWalk.i64_in _ (by omega)
    have m2 : IntKind.i64.wrap ((c - 44032).tmod 28) = (c - 44032) % 28 := by rw [Int.tmod_eq_emod_of_nonneg (by omega)]; exact IntWalk.i64_in _ (by omega)
    have m3 : (c - 44032).tmod 28 = (c - 44032) % 28 := Int.tmod_eq_emod_of_nonneg (by omega)
    by_cases hz : (c - 44032) % 28 = 0
    · have e : kindZ c = 4 := by unfold kindZ; repeat (first | rw [if_pos (by omega)] | rw [if_neg (by omega)])
      rw [e]
      clear e
      have z1 : ((c - 44032) % 28 == 0) = true := by simpa using hz
      go_enter Tryz.func94, Tryz.ntmps94
      go_wp2_with (go_at_call 92; refine (HY.out _).mono ?_; rintro e w2 ⟨rfl, rfl⟩)
      go_ret
      exact ⟨rfl, rfl⟩
    · have e : kindZ c = 5 := by unfold kindZ; repeat (first | rw [if_pos (by omega)] | rw [if_neg (by omega)])
      rw [e]
      clear e
      have z1 : ((c - 44032) % 28 == 0) = false := by simpa using hz
      go_enter Tryz.func94, Tryz.ntmps94
      go_wp2_with (go_at_call 92; refine (HY.out _).mono ?_; rintro e w2 ⟨rfl, rfl⟩)
      go_ret
      exact ⟨rfl, rfl⟩

/-- What HangulCompose composes two code points into. -/
def hcR (a b : Int) : Int × Bool := if 4352 ≤ a ∧ a ≤ 4370 ∧ 4449 ≤ b ∧ b ≤ 4469 then (44032 + (21 * (a - 4352) + b - 4449) * 28, true) else if (44032 ≤ a ∧ a ≤ 55203 ∧ (a - 44032) % 28 = 0) ∧ 4520 ≤ b ∧ b ≤ 4546 then (a + b - 4519, true) else (0, false)
def pairGo (T : Tab) (a b : Int) : List Mp → Int × Bool
  | [] => (0, false)
  | m :: r => if m.2 = [a, b] ∧ T.comp m.1 = true then (m.1, true) else pairGo T a b r
/-- What pair makes of two code points. -/
def pairR (T : Tab) (a b : Int) : Int × Bool := if (hcR a b).2 = true then hcR a b else pairGo T a b T.decomps
theorem hcR_ok {T : Tab} (h : T.check = 0) {a b : Int} (hc : (hcR a b).2 = true) : PairOk T a b (hcR a b).1 := by
  unfold hcR at hc ⊢
  split at hc
  · rename_i h1
    rw [if_pos h1]
    exact pair_lv h ⟨h1.1, h1.2.1⟩ ⟨h1.2.2.1, h1.2.2.2⟩
  · rename_i h1
    split at hc
    · rename_i h2
      rw [if_neg h1, if_pos h2]
      exact pair_lvt h h2.1 h2.2
    · cases hc
theorem pairGo_ok {T : Tab} (h : T.check = 0) {a b : Int} (hb : findL T.decomps b = []) : ∀ l : List Mp, (∀ m ∈ l, m ∈ T.decomps) → (pairGo T a b l).2 = true → PairOk T a b (pairGo T a b l).1 := by
  intro l
  induction l with
  | nil => intro _ hc; cases hc
  | cons m r ih =>
    intro hm hc
    rw [pairGo] at hc ⊢
    by_cases h1 : m.2 = [a, b] ∧ T.comp m.1 = true
    · rw [if_pos h1]; exact pair_dec h (hm m List.mem_cons_self) h1.1 h1.2 hb
    · rw [if_neg h1] at hc ⊢; exact ih (fun x hx => hm x (List.mem_cons_of_mem _ hx)) hc
theorem pairR_ok {T : Tab} (h : T.check = 0) {a b : Int} (hb : findL T.decomps b = []) (hc : (pairR T a b).2 = true) : PairOk T a b (pairR T a b).1 := by
  unfold pairR at hc ⊢
  by_cases h1 : (hcR a b).2 = true
  · rw [if_pos h1]; exact hcR_ok h h1
  · rw [if_neg h1] at hc ⊢; exact pairGo_ok h hb _ (fun _ hm => hm) hc
theorem pairGo_hit {T : Tab} {a b : Int} {l : List Mp} {j : Nat} {m : Mp} {R : Int × Bool} (hx : l[j]? = some m) (h : pairGo T a b (l.drop j) = R) (h1 : m.2 = [a, b] ∧ T.comp m.1 = true) : R = (m.1, true) := by
  rw [drop_of_get hx, pairGo, if_pos h1] at h; exact h.symm
theorem pairGo_go {T : Tab} {a b : Int} {l : List Mp} {j : Nat} {m : Mp} {R : Int × Bool} (hx : l[j]? = some m) (h : pairGo T a b (l.drop j) = R) (h1 : ¬ (m.2 = [a, b] ∧ T.comp m.1 = true)) : pairGo T a b (l.drop (j + 1)) = R := by
  rw [drop_of_get hx, pairGo, if_neg h1] at h; exact h
theorem pairGo_end {T : Tab} {a b : Int} {l : List Mp} {j : Nat} {R : Int × Bool} (hj : l.length ≤ j) (h : pairGo T a b (l.drop j) = R) : R = (0, false) := by
  rw [List.drop_eq_nil_of_le hj] at h; exact h.symm
def RetPb (w : World) (r : Int × Bool) (e : Ending) (w' : World) : Prop := e = .returned (.tuple #[.int .i64 r.1, .bool r.2]) ∧ Below w.heap.size w w'
set_option maxRecDepth 100000 in
set_option maxHeartbeats 2000000 in
theorem refHc_any (a b : Int) (w : World) : Calls Tryz.prog 73 #[.int .i64 a, .int .i64 b] w fun e w' => e = .returned (.tuple #[.int .i64 (hcR a b).1, .bool (hcR a b).2]) ∧ w = w' := by
  have HK := Lib.hid (fun x W => refKind_any x W)
  obtain ⟨ia1, _, _, ia4⟩ := kind_inv a
  obtain ⟨_, ib2, ib3, _⟩ := kind_inv b
  obtain ⟨kk, hkk⟩ : ∃ kk, kindZ = kk := ⟨_, rfl⟩
  rw [hkk] at HK ia1 ia4 ib2 ib3
  clear hkk
  by_cases a1 : kk a = 1
  · have ha := ia1.1 a1
    have z1 : (kk a == 1) = true := beq_iff_eq.2 a1
    by_cases b2 : kk b = 2
    · have hb := ib2.1 b2
      have z2 : (kk b == 2) = true := beq_iff_eq.2 b2
      clear a1 b2
      have e : hcR a b = (44032 + (21 * (a - 4352) + b - 4449) * 28, true) := by unfold hcR; rw [if_pos ⟨ha.1, ha.2, hb.1, hb.2⟩]
      rw [e]
      obtain ⟨a5, a6⟩ := ha
      obtain ⟨b5, b6⟩ := hb
      clear e ia1 ia4 ib2 ib3
      go_enter Tryz.func73, Tryz.ntmps73
      go_wp2_with (go_at_call 94; refine (HK.out _ _).mono ?_; rintro e w2 ⟨rfl, rfl⟩)
      go_ret2
      exact ⟨rfl, rfl⟩
    · have z2 : (kk b == 2) = false := by simpa using b2
      have z3 : (kk a == 4) = false := by rw [a1]; rfl
      have hnb : ¬ (4449 ≤ b ∧ b ≤ 4469) := fun h => b2 (ib2.2 h)
      clear a1 b2
      have e : hcR a b = (0, false) := by unfold hcR; rw [if_neg (fun h => hnb ⟨h.2.2.1, h.2.2.2⟩), if_neg (by omega)]
      rw [e]
      clear e ia1 ia4 ib2 ib3
      clear ha hnb
      go_enter Tryz.func73, Tryz.ntmps73
      go_wp2_with (go_at_call 94; refine (HK.out _ _).mono ?_; rintro e w2 ⟨rfl, rfl⟩)
      go_ret2
      exact ⟨rfl, rfl⟩
  · have z1 : (kk a == 1) = false := by simpa using a1
    have hna : ¬ (4352 ≤ a ∧ a ≤ 4370) := fun h => a1 (ia1.2 h)
    by_cases a4 : kk a = 4
    · have ha := ia4.1 a4
      have z4 : (kk a == 4) = true := beq_iff_eq.2 a4
      by_cases b3 : kk b = 3
      · have hb := ib3.1 b3
        have z3 : (kk b == 3) = true := beq_iff_eq.2 b3
        clear a1 a4 b3
        have e : hcR a b = (a + b - 4519, true) := by unfold hcR; rw [if_neg (by omega), if_pos ⟨ha, hb⟩]
        rw [e]
        obtain ⟨a5, a6, _⟩ := ha
        obtain ⟨b5, b6⟩ := hb
        clear hna
        clear e ia1 ia4 ib2 ib3
        go_enter Tryz.func73, Tryz.ntmps73
        go_wp2_with (go_at_call 94; refine (HK.out _ _).mono ?_; rintro e w2 ⟨rfl, rfl⟩)
        go_ret2
        exact ⟨rfl, rfl⟩
      · have z3 : (kk b == 3) = false := by simpa using b3
        have hnb : ¬ (4520 ≤ b ∧ b ≤ 4546) := fun h => b3 (ib3.2 h)
        clear a1 a4 b3
        have e : hcR a b = (0, false) := by unfold hcR; rw [if_neg (by omega), if_neg (fun h => hnb h.2)]
        rw [e]
        clear e ia1 ia4 ib2 ib3
        clear ha hna hnb
        go_enter Tryz.func73, Tryz.ntmps73
        go_wp2_with (go_at_call 94; refine (HK.out _ _).mono ?_; rintro e w2 ⟨rfl, rfl⟩)
        go_ret2
        exact ⟨rfl, rfl⟩
    · have z4 : (kk a == 4) = false := by simpa using a4
      have hna2 : ¬ (44032 ≤ a ∧ a ≤ 55203 ∧ (a - 44032) % 28 = 0) := fun h => a4 (ia4.2 h)
      clear a1 a4
      have e : hcR a b = (0, false) := by unfold hcR; rw [if_neg (fun h => hna ⟨h.1, h.2.1⟩), if_neg (fun h => hna2 h.1)]
      rw [e]
      clear e ia1 ia4 ib2 ib3
      clear hna hna2
      go_enter Tryz.func73, Tryz.ntmps73
      go_wp2_with (go_at_call 94; refine (HK.out _ _).mono ?_; rintro e w2 ⟨rfl, rfl⟩)
      go_ret2
      exact ⟨rfl, rfl⟩

theorem comp_any (t : Tv) (T : Tab) (hck : T.check = 0) (c : Int) (w : World) (ht : TabR w w.heap.size t T) :
    Calls Tryz.prog 74 #[t.val, .int .i64 c] w fun e w' => e = .returned (.bool (T.comp c)) ∧ Below w.heap.size w w' :=
  refComposable_any t T (shape_of hck) (sized_of hck).nd (Ends.of (shape_of hck).ld (rules_of hck).2.2.2.2.2.1) T.decomps.length c w ht ((decOk_of hck).fin c)
set_option maxRecDepth 100000 in
set_option maxHeartbeats 4000000 in
theorem refPair_any (t : Tv) (T : Tab) (a b : Int) (w : World) (ht : TabR w w.heap.size t T) (hck : T.check = 0) :
    Calls Tryz.prog 51 #[t.val, .int .i64 a, .int .i64 b] w (RetPb w (pairR T a b)) := by
  have HB0 : Hid (Below w.heap.size w (w.alloc (.cells t.cells 26))) := Lib.hid ((Below.refl _ _).alloc (Nat.le_refl _) _)
  have HT : Hid (Tbl (w.alloc (.cells t.cells 26)) w.heap.size t T) := Lib.hid ⟨Blk.new _ _ _, ht.later HB0.out⟩
  have HH := Lib.hid (refHc_any a b)
  obtain ⟨R, hR⟩ : ∃ R, pairR T a b = R := ⟨_, rfl⟩
  rw [hR]
  unfold pairR at hR
  have HCO := Lib.hid (fun c W (h : TabR W W.heap.size t T) => comp_any t T hck c W h)
  clear ht hck
  obtain ⟨⟨cz, ok⟩, hhc⟩ : ∃ r, hcR a b = r := ⟨_, rfl⟩
  rw [hhc] at HH hR
  clear hhc
  go_enter Tryz.func51, Tryz.ntmps51
  go_upto_region 1 with fail
  generalize w.alloc (.cells t.cells 26) = w1 at *
  go_upto_region 2 with (go_at_call 73; refine (HH.out _).mono ?_; rintro e w2 ⟨rfl, rfl⟩)
  cases ok with
  | true =>
    simp only [if_true] at hR
    subst hR
    clear HH
    go_wp2_with fail
    go_ret2
    exact ⟨rfl, HB0.out⟩
  | false =>
    simp only [Bool.false_eq_true, if_false] at hR
    have HG : Hid (pairGo T a b (T.decomps.drop 0) = R) := Lib.hid hR
    clear HH hR
    obtain ⟨A9, c9, h9, hc1, hc2, _, hcell⟩ := HT.out.2.r9
    have hlm : T.decomps.length ≤ 9223372036854775807 := by unfold maxLen at hc2; omega
    have HC := Lib.hid hcell
    clear hcell hc1 hc2
    obtain ⟨tb, htb⟩ : ∃ tb, w.heap.size = tb := ⟨_, rfl⟩
    rw [htb] at HT
    simp only [htb]
    obtain ⟨x0, x1, x2, x3, x4, x5, x6, x7, x8, x9, x10, x11⟩ := HT.out.1.tab
    rw [h9] at x9
    have HH9 := Lib.hid h9
    clear h9
    go_wp2_with fail
    clear x0 x1 x2 x3 x4 x5 x6 x7 x8 x9 x10 x11
    go_loopw [23] (fun si wr => ∃ (j : Nat), j ≤ T.decomps.length ∧ si = .int .i64 j ∧ Hid (pairGo T a b (T.decomps.drop j) = R) ∧ Hid (Below w1.heap.size w1 wr)) (fun si _ => T.decomps.length - (intOf si).toNat)
    case atStart => exact ⟨0, by omega, rfl, HG, Lib.hid (Below.refl _ _)⟩
    case round =>
      clear HG
      obtain ⟨j, hj, rfl, HS, HBr⟩ := hrel
      by_cases hlt : j < T.decomps.length
      · obtain ⟨⟨f, tg⟩, hxj, hxm⟩ := get_el hlt
        obtain ⟨aj, sv, rfl, ha, d0, d1, hto⟩ := HC.out j _ hxj
        simp only at d0 d1 hto
        obtain ⟨A2, c2, rfl, _⟩ := id hto
        obtain ⟨e0, e1⟩ := map_cells HBr.out ha d0 d1
        have HXJ := Lib.hid hxj
        have HTw := Lib.hid (HT.out.later HBr.out)
        have HTI := Lib.hid ((hto.below HBr.out).more HBr.out.size)
        clear d0 d1 hxj ha hto hxm
        have r0 : (0 : Int) ≤ (j : Int) := by omega
        have r1 : (j : Int) < (T.decomps.length : Int) := by omega
        by_cases h2 : tg.length = 2
        · obtain ⟨p, q, rfl⟩ : ∃ p q, tg = [p, q] := by
            match tg, h2 with
            | [p, q], _ => exact ⟨p, q, rfl⟩
          obtain ⟨_, _, hve, _, _, _, hc2⟩ := HTI.out
          cases hve
          obtain ⟨ad, rfl, had, g0⟩ := hc2 0 p rfl
          obtain ⟨_, hAs, _, g1⟩ := hc2 1 q rfl
          cases hAs
          have bl := (Below.refl wr.heap.size wr).alloc (Nat.le_refl _) (.cells #[.int .i64 f, .slice (some ad) 2 c2] 71)
          have n0 : (wr.alloc (.cells #[.int .i64 f, .slice (some ad) 2 c2] 71)).cell? ad = some (.int .i64 p) := (bl.cell had).trans g0
          have n1 : (wr.alloc (.cells #[.int .i64 f, .slice (some ad) 2 c2] 71)).cell? { block := ad.block, off := ad.off + 1, spot := none } = some (.int .i64 q) := (bl.cell (p := { block := ad.block, off := ad.off + 1, spot := none }) had).trans g1
          have HBK := Lib.hid (Blk.new wr 71 #[.int .i64 f, .slice (some ad) 2 c2])
          have HBn := Lib.hid (below_then HBr.out (Nat.le_refl _) bl)
          have HTr := Lib.hid (HTw.out.later bl)
          have m0 := HBK.out.cell 0
          have m1 := HBK.out.cell 1
          simp only [List.length_cons, List.length_nil, Nat.zero_add, Nat.reduceAdd] at e0 e1
          clear hc2 h2 g0 g1 bl HTI HTw
          by_cases hp : p = a
          · subst hp
            by_cases hq : q = b
            · subst hq
              obtain ⟨cb, hcb⟩ : ∃ cb, T.comp f = cb := ⟨_, rfl⟩
              have HCx := Lib.hid (HCO.out f _ HTr.out.2)
              rw [hcb] at HCx
              obtain ⟨x0, x1, x2, x3, x4, x5, x6, x7, x8, x9, x10, x11⟩ := HTr.out.1.tab
              cases cb with
              | true =>
                have HR := Lib.hid (pairGo_hit HXJ.out HS.out ⟨rfl, hcb⟩)
                clear hcb
                go_upto_region 7 with fail
                go_wp2_with (go_at_call 74; refine HCx.out.mono ?_; rintro e w5 ⟨rfl, b5⟩; have k5 := (HBK.out.later b5).cell 0)
                go_ret2
                rw [HR.out]
                exact ⟨rfl, below_next HB0.out (below_then HBn.out (Nat.le_refl _) b5)⟩
              | false =>
                have HN := Lib.hid (pairGo_go HXJ.out HS.out (by rintro ⟨_, h⟩; rw [hcb] at h; cases h))
                clear hcb
                go_wp2_with (go_at_call 74; refine HCx.out.mono ?_; rintro e w5 ⟨rfl, b5⟩)
                go_roundw
                case rel => exact ⟨j + 1, by omega, by go_num, HN, Lib.hid (below_then HBn.out (Nat.le_refl _) b5)⟩
                case measure => simp [intOf]; omega
            · have z : (q == b) = false := by simpa using hq
              have HN := Lib.hid (pairGo_go HXJ.out HS.out (by rintro ⟨h, _⟩; simp at h; exact hq h))
              go_wp2_with fail
              go_roundw
              case rel => exact ⟨j + 1, by omega, by go_num, HN, HBn⟩
              case measure => simp [intOf]; omega
          · have z : (p == a) = false := by simpa using hp
            have HN := Lib.hid (pairGo_go HXJ.out HS.out (by rintro ⟨h, _⟩; simp at h; exact hp h.1))
            go_wp2_with fail
            go_roundw
            case rel => exact ⟨j + 1, by omega, by go_num, HN, HBn⟩
            case measure => simp [intOf]; omega
        · have z : ((tg.length : Int) == 2) = false := by rw [beq_eq_false_iff_ne]; omega
          have HN := Lib.hid (pairGo_go HXJ.out HS.out (by rintro ⟨h, _⟩; exact h2 (by rw [show tg = [a, b] from h]; rfl)))
          have HBn := Lib.hid (below_then HBr.out (Nat.le_refl _) ((Below.refl wr.heap.size wr).alloc (Nat.le_refl _) (.cells #[.int .i64 f, .slice A2 tg.length c2] 71)))
          clear h2 HTI HTw
          go_wp2_with fail
          go_roundw
          case rel => exact ⟨j + 1, by omega, by go_num, HN, HBn⟩
          case measure => simp [intOf]; omega
      · have HR := Lib.hid (pairGo_end (by omega) HS.out)
        go_wp2_with fail
        go_ret2
        rw [HR.out]
        exact ⟨rfl, below_next HB0.out HBr.out⟩
end Go.Proofs.YtecpbicfiaifdaaGreatDoor
/-
  The state of the loop that composes, in plain Lean.
-/
namespace Go.Proofs.YtecpbicfiaifdaaGreatDoor
open Go.RowKit ND

/-- What has been composed up to i. -/
def CSt (T : Tab) (d : List Int) (i : Nat) (acc : List Int) : Prop := ∃ pre rest, acc = pre ++ rest ∧ CInv T d i pre rest
section
variable {T : Tab} {d acc : List Int} {i : Nat} {c : Int}
theorem CSt.start (T : Tab) (d : List Int) : CSt T d 0 [] := ⟨[], [], rfl, CInv.start T d⟩
theorem CSt.len (h : CSt T d i acc) : acc.length ≤ i := by
  obtain ⟨pre, rest, rfl, h⟩ := h; exact h.len
theorem CSt.push (h : CSt T d i acc) (hck : T.check = 0) (hd : NfdIn T d) (hc : d[i]? = some c) : CSt T d (i + 1) (acc ++ [c]) := by
  obtain ⟨pre, rest, rfl, h⟩ := h
  by_cases h0 : T.classOf c = 0
  · exact ⟨pre ++ rest ++ [c], [], by simp, h.app0 hd hc h0⟩
  · have := (cls_range hck c).1
    exact ⟨pre, rest ++ [c], by simp, h.app1 hd hc (by omega)⟩
theorem CSt.set (h : CSt T d i acc) (hc : d[i]? = some c) {m : Nat} {z x : Int} (hz : acc[m]? = some z) (h0 : T.classOf z = 0) (hn : ∀ j y, m + 1 ≤ j → acc[j]? = some y → T.classOf y ≠ 0) (hx : PairOk T z c x) (hr : ∀ r, m + 1 < acc.length → acc[acc.length - 1]? = some r → T.classOf r < T.classOf c) : CSt T d (i + 1) (acc.set m x) := by
  obtain ⟨pre, rest, rfl, h⟩ := h
  obtain ⟨p, rfl, hp⟩ := h.at_ hz h0 fun j y hj => hn j y hj
  subst hp
  refine ⟨p ++ [x], rest, by simp, h.comp hc hx fun r hl => ?_⟩
  have hne : rest ≠ [] := by rintro rfl; simp at hl
  have hlp := List.length_pos_iff.2 hne
  refine hr r (by simp; omega) ?_
  rw [List.getLast?_eq_getElem?] at hl
  rw [List.getElem?_append_right (by simp; omega)]
  rw [← hl]
  congr 1
  simp
  omega
theorem CSt.done {l : List Int} (h : CSt T d i acc) (hi : d.length ≤ i) (hd : d = nfdL T l) : nfdL T acc = nfdL T l ∧ acc.all scalarB = true := by
  obtain ⟨pre, rest, rfl, h⟩ := h; exact ⟨h.done hi hd, h.sc⟩
end
end Go.Proofs.YtecpbicfiaifdaaGreatDoor
/-
  The walk through the reference's NFC.
-/
namespace Go.Proofs.YtecpbicfiaifdaaGreatDoor
open Go.RowKit ND

/-- What NFC hands back: a sequence with the same normalization form D. -/
def RetNfc (w : World) (T : Tab) (l : List Int) (e : Ending) (w' : World) : Prop := ∃ v cs, e = .returned (.tuple #[v, .int .i64 0]) ∧ w'.ownsRow w.heap.size 3 1 v cs.length (cs.map (Value.int .i64)) ∧ (nfdL T cs = nfdL T l ∧ cs.all scalarB = true ∧ cs.length ≤ (nfdL T l).length) ∧ Below w.heap.size w w'
set_option maxRecDepth 100000 in
set_option maxHeartbeats 8000000 in
theorem refNfc_any (t : Tv) (T : Tab) (v : Value) (xs : List Int) (w : World) (ht : TabR w w.heap.size t T) (hv : Ints w w.heap.size .i64 v xs) (hck : T.check = 0) (hs : xs.all scalarB = true) (hr : nfdR T (accE T xs) xs = (nfdL T xs, 0)) (hl : (nfdL T xs).length ≤ 4096) :
    Calls Tryz.prog 15 #[t.val, v] w (RetNfc w T xs) := by
  obtain ⟨A, c, rfl, _⟩ := id hv
  have HB0 : Hid (Below w.heap.size w (w.alloc (.cells t.cells 26))) := Lib.hid ((Below.refl _ _).alloc (Nat.le_refl _) _)
  have HT : Hid (Tbl (w.alloc (.cells t.cells 26)) w.heap.size t T) := Lib.hid ⟨Blk.new _ _ _, ht.later HB0.out⟩
  have HV := Lib.hid (hv.later HB0.out)
  clear ht hv
  have H1 := Lib.hid (refNfd_any t T _ xs _ HT.out.2 HV.out)
  rw [hr] at H1
  have HIN := Lib.hid (NfdIn.of hck hs)
  have HC : Hid (∀ (b : Nat) (W : World) (x : Int), Tbl W b t T → Calls Tryz.prog 23 #[.agg #[t.c0, t.c1, t.c2, t.c3, t.c4, t.c5, t.c6, t.c7, t.c8, t.c9, t.c10, t.c11], .int .i64 x] W fun e W' => e = .returned (.int .i64 (T.classOf x)) ∧ Below W.heap.size W W') := Lib.hid fun b W x h => refClass_any t T x W h.2
  have HP : Hid (∀ (b : Nat) (W : World) (x y : Int), Tbl W b t T → Calls Tryz.prog 51 #[.agg #[t.c0, t.c1, t.c2, t.c3, t.c4, t.c5, t.c6, t.c7, t.c8, t.c9, t.c10, t.c11], .int .i64 x, .int .i64 y] W (RetPb W (pairR T x y))) := Lib.hid fun b W x y h => refPair_any t T x y W h.2 hck
  have HPO := Lib.hid (fun a b hb hc => pairR_ok (T := T) hck (a := a) (b := b) hb hc)
  have HPU0 := Lib.hid (fun i acc c (h : CSt T (nfdL T xs) i acc) hc => h.push hck HIN.out (c := c) hc)
  have HEND := Lib.hid (fun i acc (h : CSt T (nfdL T xs) i acc) hi => h.done hi rfl)
  obtain ⟨dl, hdl⟩ : ∃ dl, nfdL T xs = dl := ⟨_, rfl⟩
  unfold RetNfc
  rw [hdl] at H1 HIN HPU0 HEND hl ⊢
  clear hck hs hr hdl
  go_enter Tryz.func15, Tryz.ntmps15
  go_upto_region 1 with fail
  generalize w.alloc (.cells t.cells 26) = w1 at *
  obtain ⟨x0, x1, x2, x3, x4, x5, x6, x7, x8, x9, x10, x11⟩ := HT.out.1.tab
  go_upto_region 2 with (go_at_call 14; refine H1.out.mono ?_; rintro e w2 ⟨u2, rfl, ho2, b2⟩; obtain ⟨A2, c2, rfl, _⟩ := id (Ints.of_own ho2); have HD2 := Lib.hid (Ints.of_own ho2); clear ho2)
  clear x0 x1 x2 x3 x4 x5 x6 x7 x8 x9 x10 x11
  obtain ⟨tb, htb⟩ : ∃ tb, w.heap.size = tb := ⟨_, rfl⟩
  have HT2 : Hid (Tbl w2 tb t T) := Lib.hid (htb ▸ HT.out.later b2)
  have HB2 := Lib.hid (below_next HB0.out b2)
  simp only [htb]
  clear HT HV HB0 b2 H1
  obtain ⟨i0, hi, hz0, hz1, hz2⟩ := info_parts Tryz.infoInt'
  go_wp2_with fail
  go_loopw [26, 8] (fun si so wr => ∃ (k : Nat) (acc : List Int) (A9 : Option Addr) (c9 : Nat), k ≤ dl.length ∧ si = .int .i64 k ∧ so = .slice A9 acc.length c9 ∧ Hid (CSt T dl k acc) ∧ Hid (wr.ownsRow w2.heap.size 3 1 (.slice A9 acc.length c9) acc.length (acc.map (Value.int .i64))) ∧ Hid (Below w2.heap.size w2 wr)) (fun i _ _ => dl.length - (intOf i).toNat)
  case atStart => exact ⟨0, [], none, 0, by omega, rfl, rfl, Lib.hid (CSt.start T dl), Lib.hid (World.ownsRow_nil _ _ _ _), Lib.hid (Below.refl _ _)⟩
  case round =>
    obtain ⟨k, acc, A9, c9, hk, rfl, rfl, HS, HOs, HBs⟩ := hrel
    have hal := HS.out.len
    by_cases hlt : k < dl.length
    · obtain ⟨x, hxk, hxm⟩ := get_of hlt
      obtain ⟨_, _, hve, _, _, _, hcell⟩ := HD2.out
      cases hve
      obtain ⟨ad, rfl, ha, hce⟩ := hcell k x hxk
      have e1 := (HBs.out.cell (p := ad.add k) (by rw [block_of_add]; exact ha)).trans hce
      have HX := Lib.hid hxk
      have HXD := Lib.hid ((HIN.out.dn x hxm).1)
      have HPU := Lib.hid (HPU0.out k acc x HS.out HX.out)
      have k0 : (0 : Int) ≤ (k : Int) := by omega
      have k1 : (k : Int) < (dl.length : Int) := by omega
      clear hcell hxk ha hce hxm
      go_wp2_with fail
      go_loopw [11] (fun s11 wr => ∃ (m : Nat) (z : Int), m ≤ acc.length ∧ s11 = .int .i64 z ∧ z = (m : Int) - 1 ∧ Hid (∀ j y, m ≤ j → acc[j]? = some y → T.classOf y ≠ 0) ∧ Hid (wr.ownsRow w2.heap.size 3 1 (.slice A9 acc.length c9) acc.length (acc.map (Value.int .i64))) ∧ Hid (Below w2.heap.size w2 wr)) (fun s11 _ => (intOf s11 + 1).toNat)
      case atStart => exact ⟨acc.length, (acc.length : Int) - 1, Nat.le_refl _, by go_num, rfl, Lib.hid (fun j y hj hy => by rw [List.getElem?_eq_none hj] at hy; cases hy), HOs, HBs⟩
      case round =>
        clear HOs HBs e1
        obtain ⟨m, z, hm, rfl, hz, HN, HOr, HBr⟩ := hrel
        have HTr := Lib.hid (HT2.out.later HBr.out)
        cases m with
        | zero =>
          obtain rfl : z = -1 := by omega
          clear hz
          go_upto_region 9 with fail
          refine wp_region_quiet_below (by kernel_rfl) (by kernel_rfl) ?_
          repeat (go_big_quiet_step (fail))
          refine wpQuiet_nil ?_
          rintro _ ⟨⟨dq, osq⟩, rfl⟩
          have bq := below_regrown wr dq osq
          have HO5 := Lib.hid (own_later HOr.out bq)
          have HB5 := Lib.hid (below_then HBr.out (Nat.le_refl _) bq)
          clear HTr HOr HBr bq
          generalize Go.Sort.grow (redrawn wr dq) osq = w5 at *
          go_upto_region 11 with fail
          refine wp_region_quiet_below (by kernel_rfl) (by kernel_rfl) ?_
          repeat (go_big_quiet_step (fail))
          refine wpQuiet_nil ?_
          rintro _ ⟨⟨dq, osq⟩, rfl⟩
          have bq := below_regrown w5 dq osq
          have HO7 := Lib.hid (own_later HO5.out bq)
          have HB7 := Lib.hid (below_then HB5.out (Nat.le_refl _) bq)
          clear HO5 HB5 bq
          generalize Go.Sort.grow (redrawn w5 dq) osq = w5 at *
          have HO5 := HO7
          have HB5 := HB7
          clear HO7 HB7
          go_upto_region 16 with fail
          go_wp2_with (at_builtin; refine wpList_append_ints (by rfl) (.tmp 86) (.tmp 88) rfl Tryz.underlying22 hi hz0 hz1 hz2 (w5.heap.size + 1) w2.heap.size (.slice A9 acc.length c9) acc (.slice (some ⟨w5.heap.size, 0, none⟩) 1 1) [x] rfl (HO5.out.alloc _) rfl (by have h := Ints.of_own (own_new w5 3 [x] (by simp)); simpa using h) (by simp; omega) (by have := HB5.out.size; simp; omega) ?_; intro v6 w6 ho6 hg6 _; obtain ⟨A6, c6, rfl, _⟩ := id (Ints.of_own ho6); have HO6 := Lib.hid ho6; have HB6 := Lib.hid ((HB5.out.alloc HB5.out.size (.cells #[.int .i64 x] 3)).grown hg6 (by have := HB5.out.size; simp; omega) (fun q hq => (HO5.out.lt q hq).1)); clear ho6 hg6)
          go_roundw
          case rel => exact ⟨k + 1, acc ++ [x], A6, c6, by omega, by go_num, (by first | (simp; done) | (simp; omega)), HPU, HO6, HB6⟩
          case measure => simp [intOf]; omega
        | succ p =>
          obtain rfl : z = (p : Int) := by omega
          clear hz
          obtain ⟨y, hy⟩ : ∃ y, acc[p]? = some y := ⟨_, List.getElem?_eq_getElem (by omega)⟩
          obtain ⟨gb, cap, e, hgb, _⟩ := HOr.out.form (by omega)
          cases e
          have hcp := (HOr.out.cellAt p (by omega)).trans (by rw [List.getElem?_map, hy]; rfl : (acc.map (Value.int .i64))[p]? = some (.int .i64 y))
          have ep := cell_regrown hcp
          have HY := Lib.hid hy
          have HCy : Hid (∀ V, Below wr.heap.size wr V → Calls Tryz.prog 23 #[.agg #[t.c0, t.c1, t.c2, t.c3, t.c4, t.c5, t.c6, t.c7, t.c8, t.c9, t.c10, t.c11], .int .i64 y] V fun e V' => e = .returned (.int .i64 (T.classOf y)) ∧ Below V.heap.size V V') := Lib.hid fun V hV => HC.out tb V y (HTr.out.later hV)
          have p0 : (0 : Int) ≤ (p : Int) := by omega
          have p1 : (p : Int) < (acc.length : Int) := by omega
          clear hcp hy
          obtain ⟨x0, x1, x2, x3, x4, x5, x6, x7, x8, x9, x10, x11⟩ := HTr.out.1.tabG
          go_upto_region 9 with fail
          refine wp_region_quiet_below (by kernel_rfl) (by kernel_rfl) ?_
          repeat (go_big_quiet_step (first | (go_at_call 23; with_reducible exact quiet_t HCy.out)))
          refine wpQuiet_nil ?_
          rintro _ ⟨⟨dq, osq⟩, rfl⟩
          have bq := below_regrown wr dq osq
          have HO5 := Lib.hid (own_later HOr.out bq)
          have HB5 := Lib.hid (below_then HBr.out (Nat.le_refl _) bq)
          clear HTr HOr HBr bq x0 x1 x2 x3 x4 x5 x6 x7 x8 x9 x10 x11 ep HCy
          generalize Go.Sort.grow (redrawn wr dq) osq = w5 at *
          by_cases h0 : T.classOf y = 0
          · have h1 : (T.classOf y != 0) = false := by rw [bne_eq_false_iff_eq]; exact h0
            have HT5 := Lib.hid (HT2.out.later HB5.out)
            obtain ⟨⟨pc, po⟩, hpr⟩ : ∃ r, pairR T y x = r := ⟨_, rfl⟩
            have HPR := Lib.hid hpr
            have HPOK : Hid (po = true → PairOk T y x pc) := Lib.hid (fun h => by
              have h2 := HPO.out y x HXD.out (by rw [hpr]; exact h)
              rw [hpr] at h2; exact h2)
            clear hpr
            by_cases hpl : p + 1 < acc.length
            · obtain ⟨q, hq⟩ : ∃ q, acc.length = q + 1 := ⟨acc.length - 1, by omega⟩
              obtain ⟨r, hr⟩ : ∃ r, acc[q]? = some r := ⟨_, List.getElem?_eq_getElem (by omega)⟩
              have HRR := Lib.hid hr
              have wq : IntKind.i64.wrap ((acc.length : Int) - 1) = (q : Int) := by rw [IntWalk.i64_in _ (by omega)]; omega
              have wq2 : (acc.length : Int) - 1 = (q : Int) := by omega
              have q0 : (0 : Int) ≤ (q : Int) := by omega
              have q1 : (q : Int) < (acc.length : Int) := by omega
              have q2 : (p : Int) < (q : Int) := by omega
              have q3 : ¬ (p : Int) < 0 := by omega
              clear hr
              have eq := cell_regrown ((HO5.out.cellAt q (by omega)).trans (by rw [List.getElem?_map, HRR.out]; rfl : (acc.map (Value.int .i64))[q]? = some (.int .i64 r)))
              have HCr : Hid (∀ V, Below w5.heap.size w5 V → Calls Tryz.prog 23 #[.agg #[t.c0, t.c1, t.c2, t.c3, t.c4, t.c5, t.c6, t.c7, t.c8, t.c9, t.c10, t.c11], .int .i64 r] V fun e V' => e = .returned (.int .i64 (T.classOf r)) ∧ Below V.heap.size V V') := Lib.hid fun V hV => HC.out tb V r (HT5.out.later hV)
              have HCx : Hid (∀ V, Below w5.heap.size w5 V → Calls Tryz.prog 23 #[.agg #[t.c0, t.c1, t.c2, t.c3, t.c4, t.c5, t.c6, t.c7, t.c8, t.c9, t.c10, t.c11], .int .i64 x] V fun e V' => e = .returned (.int .i64 (T.classOf x)) ∧ Below V.heap.size V V') := Lib.hid fun V hV => HC.out tb V x (HT5.out.later hV)
              obtain ⟨x0, x1, x2, x3, x4, x5, x6, x7, x8, x9, x10, x11⟩ := HT5.out.1.tabG
              go_upto_region 11 with fail
              refine wp_region_quiet_below (by kernel_rfl) (by kernel_rfl) ?_
              repeat (go_big_quiet_step (first | (go_at_call 23; with_reducible exact quiet_t HCr.out) | (go_at_call 23; with_reducible exact quiet_t HCx.out)))
              refine wpQuiet_nil ?_
              rintro _ ⟨⟨dq, osq⟩, rfl⟩
              have bq := below_regrown w5 dq osq
              have HO7 := Lib.hid (own_later HO5.out bq)
              have HB7 := Lib.hid (below_then HB5.out (Nat.le_refl _) bq)
              have HT7 := Lib.hid (HT5.out.later bq)
              clear HO5 HB5 HT5 bq
              generalize Go.Sort.grow (redrawn w5 dq) osq = w5 at *
              have HO5 := HO7
              have HB5 := HB7
              have HT5 := HT7
              clear HO7 HB7 HT7
              clear x0 x1 x2 x3 x4 x5 x6 x7 x8 x9 x10 x11 eq HCr HCx
              by_cases hb : T.classOf x ≤ T.classOf r
              · have hb2 : decide (T.classOf x ≤ T.classOf r) = true := decide_eq_true hb
                clear HPR HPOK hb
                go_upto_region 16 with fail
                go_wp2_with (at_builtin; refine wpList_append_ints (by rfl) (.tmp 86) (.tmp 88) rfl Tryz.underlying22 hi hz0 hz1 hz2 (w5.heap.size + 1) w2.heap.size (.slice (some ⟨gb, 0, none⟩) acc.length c9) acc (.slice (some ⟨w5.heap.size, 0, none⟩) 1 1) [x] rfl (HO5.out.alloc _) rfl (by have h := Ints.of_own (own_new w5 3 [x] (by simp)); simpa using h) (by simp; omega) (by have := HB5.out.size; simp; omega) ?_; intro v6 w6 ho6 hg6 _; obtain ⟨A6, c6, rfl, _⟩ := id (Ints.of_own ho6); have HO6 := Lib.hid ho6; have HB6 := Lib.hid ((HB5.out.alloc HB5.out.size (.cells #[.int .i64 x] 3)).grown hg6 (by have := HB5.out.size; simp; omega) (fun q hq => (HO5.out.lt q hq).1)); clear ho6 hg6)
                go_roundw
                case rel => exact ⟨k + 1, acc ++ [x], A6, c6, by omega, by go_num, (by first | (simp; done) | (simp; omega)), HPU, HO6, HB6⟩
                case measure => simp [intOf]; omega
              · have hb2 : decide (T.classOf x ≤ T.classOf r) = false := decide_eq_false hb
                have HLT : Hid (∀ r', p + 1 < acc.length → acc[acc.length - 1]? = some r' → T.classOf r' < T.classOf x) := Lib.hid (fun r' _ h => by
                  rw [show acc.length - 1 = q by omega, HRR.out] at h
                  cases h; omega)
                clear hb
                have ep := cell_regrown ((HO5.out.cellAt p (by omega)).trans (by rw [List.getElem?_map, HY.out]; rfl : (acc.map (Value.int .i64))[p]? = some (.int .i64 y)))
                have HPx : Hid (∀ V, Below w5.heap.size w5 V → Calls Tryz.prog 51 #[.agg #[t.c0, t.c1, t.c2, t.c3, t.c4, t.c5, t.c6, t.c7, t.c8, t.c9, t.c10, t.c11], .int .i64 y, .int .i64 x] V fun e V' => e = .returned (.tuple #[.int .i64 pc, .bool po]) ∧ Below V.heap.size V V') := Lib.hid fun V hV => by
                  have h := HP.out tb V y x (HT5.out.later hV)
                  rw [HPR.out] at h; exact h
                obtain ⟨x0, x1, x2, x3, x4, x5, x6, x7, x8, x9, x10, x11⟩ := HT5.out.1.tabG
                go_upto_region 13 with fail
                refine wp_region_quiet_below (by kernel_rfl) (by kernel_rfl) ?_
                repeat (go_big_quiet_step (first | (go_at_call 51; with_reducible exact quiet_t HPx.out)))
                refine wpQuiet_nil ?_
                rintro _ ⟨⟨dq, osq⟩, rfl⟩
                have bq := below_regrown w5 dq osq
                have HO7 := Lib.hid (own_later HO5.out bq)
                have HB7 := Lib.hid (below_then HB5.out (Nat.le_refl _) bq)
                have HT7 := Lib.hid (HT5.out.later bq)
                clear HO5 HB5 HT5 bq
                generalize Go.Sort.grow (redrawn w5 dq) osq = w5 at *
                have HO5 := HO7
                have HB5 := HB7
                have HT5 := HT7
                clear HO7 HB7 HT7
                clear x0 x1 x2 x3 x4 x5 x6 x7 x8 x9 x10 x11 ep HPx
                cases po with
                | true =>
                  have HST := Lib.hid (HS.out.set HX.out HY.out h0 HN.out (HPOK.out rfl) HLT.out)
                  have hcp := (HO5.out.cellAt p (by omega)).trans (by rw [List.getElem?_map, HY.out]; rfl : (acc.map (Value.int .i64))[p]? = some (.int .i64 y))
                  have fp := HO5.out.frozenAt p
                  go_wp2_with fail
                  have HO8 : Hid ((w5.setCell ⟨gb, p, none⟩ (.int .i64 pc)).ownsRow w2.heap.size 3 1 (.slice (some ⟨gb, 0, none⟩) acc.length c9) (acc.set p pc).length ((acc.set p pc).map (Value.int .i64))) := by
                    have h := (HO5.out.stored p (.int .i64 pc)).1
                    rw [← List.map_set] at h
                    rw [List.length_set]
                    exact Lib.hid h
                  have HB8 : Hid (Below w2.heap.size w2 (w5.setCell ⟨gb, p, none⟩ (.int .i64 pc))) := Lib.hid (HB5.out.setCell (p := ⟨gb, p, none⟩) hgb _)
                  go_roundw
                  case rel => exact ⟨k + 1, acc.set p pc, _, c9, by omega, by go_num, by rw [List.length_set], HST, (by rw [List.length_set] at HO8 ⊢; exact HO8), HB8⟩
                  case measure => simp [intOf]; omega
                | false =>
                  go_upto_region 16 with fail
                  go_wp2_with (at_builtin; refine wpList_append_ints (by rfl) (.tmp 86) (.tmp 88) rfl Tryz.underlying22 hi hz0 hz1 hz2 (w5.heap.size + 1) w2.heap.size (.slice (some ⟨gb, 0, none⟩) acc.length c9) acc (.slice (some ⟨w5.heap.size, 0, none⟩) 1 1) [x] rfl (HO5.out.alloc _) rfl (by have h := Ints.of_own (own_new w5 3 [x] (by simp)); simpa using h) (by simp; omega) (by have := HB5.out.size; simp; omega) ?_; intro v6 w6 ho6 hg6 _; obtain ⟨A6, c6, rfl, _⟩ := id (Ints.of_own ho6); have HO6 := Lib.hid ho6; have HB6 := Lib.hid ((HB5.out.alloc HB5.out.size (.cells #[.int .i64 x] 3)).grown hg6 (by have := HB5.out.size; simp; omega) (fun q hq => (HO5.out.lt q hq).1)); clear ho6 hg6)
                  go_roundw
                  case rel => exact ⟨k + 1, acc ++ [x], A6, c6, by omega, by go_num, (by first | (simp; done) | (simp; omega)), HPU, HO6, HB6⟩
                  case measure => simp [intOf]; omega
            · have hpe : acc.length = p + 1 := by omega
              have wq : IntKind.i64.wrap ((acc.length : Int) - 1) = (p : Int) := by rw [IntWalk.i64_in _ (by omega)]; omega
              have wq2 : (acc.length : Int) - 1 = (p : Int) := by omega
              have q3 : ¬ (p : Int) < 0 := by omega
              have q4 : ¬ (p : Int) < (p : Int) := by omega
              have HLT : Hid (∀ r', p + 1 < acc.length → acc[acc.length - 1]? = some r' → T.classOf r' < T.classOf x) := Lib.hid (fun r' h => absurd h hpl)
              go_upto_region 11 with fail
              refine wp_region_quiet_below (by kernel_rfl) (by kernel_rfl) ?_
              repeat (go_big_quiet_step (fail))
              refine wpQuiet_nil ?_
              rintro _ ⟨⟨dq, osq⟩, rfl⟩
              have bq := below_regrown w5 dq osq
              have HO7 := Lib.hid (own_later HO5.out bq)
              have HB7 := Lib.hid (below_then HB5.out (Nat.le_refl _) bq)
              have HT7 := Lib.hid (HT5.out.later bq)
              clear HO5 HB5 HT5 bq
              generalize Go.Sort.grow (redrawn w5 dq) osq = w5 at *
              have HO5 := HO7
              have HB5 := HB7
              have HT5 := HT7
              clear HO7 HB7 HT7
              have ep := cell_regrown ((HO5.out.cellAt p (by omega)).trans (by rw [List.getElem?_map, HY.out]; rfl : (acc.map (Value.int .i64))[p]? = some (.int .i64 y)))
              have HPx : Hid (∀ V, Below w5.heap.size w5 V → Calls Tryz.prog 51 #[.agg #[t.c0, t.c1, t.c2, t.c3, t.c4, t.c5, t.c6, t.c7, t.c8, t.c9, t.c10, t.c11], .int .i64 y, .int .i64 x] V fun e V' => e = .returned (.tuple #[.int .i64 pc, .bool po]) ∧ Below V.heap.size V V') := Lib.hid fun V hV => by
                have h := HP.out tb V y x (HT5.out.later hV)
                rw [HPR.out] at h; exact h
              obtain ⟨x0, x1, x2, x3, x4, x5, x6, x7, x8, x9, x10, x11⟩ := HT5.out.1.tabG
              go_upto_region 13 with fail
              refine wp_region_quiet_below (by kernel_rfl) (by kernel_rfl) ?_
              repeat (go_big_quiet_step (first | (go_at_call 51; with_reducible exact quiet_t HPx.out)))
              refine wpQuiet_nil ?_
              rintro _ ⟨⟨dq, osq⟩, rfl⟩
              have bq := below_regrown w5 dq osq
              have HO7 := Lib.hid (own_later HO5.out bq)
              have HB7 := Lib.hid (below_then HB5.out (Nat.le_refl _) bq)
              have HT7 := Lib.hid (HT5.out.later bq)
              clear HO5 HB5 HT5 bq
              generalize Go.Sort.grow (redrawn w5 dq) osq = w5 at *
              have HO5 := HO7
              have HB5 := HB7
              have HT5 := HT7
              clear HO7 HB7 HT7
              clear x0 x1 x2 x3 x4 x5 x6 x7 x8 x9 x10 x11 ep HPx
              cases po with
              | true =>
                have HST := Lib.hid (HS.out.set HX.out HY.out h0 HN.out (HPOK.out rfl) HLT.out)
                have hcp := (HO5.out.cellAt p (by omega)).trans (by rw [List.getElem?_map, HY.out]; rfl : (acc.map (Value.int .i64))[p]? = some (.int .i64 y))
                have fp := HO5.out.frozenAt p
                go_wp2_with fail
                have HO8 : Hid ((w5.setCell ⟨gb, p, none⟩ (.int .i64 pc)).ownsRow w2.heap.size 3 1 (.slice (some ⟨gb, 0, none⟩) acc.length c9) (acc.set p pc).length ((acc.set p pc).map (Value.int .i64))) := by
                  have h := (HO5.out.stored p (.int .i64 pc)).1
                  rw [← List.map_set] at h
                  rw [List.length_set]
                  exact Lib.hid h
                have HB8 : Hid (Below w2.heap.size w2 (w5.setCell ⟨gb, p, none⟩ (.int .i64 pc))) := Lib.hid (HB5.out.setCell (p := ⟨gb, p, none⟩) hgb _)
                go_roundw
                case rel => exact ⟨k + 1, acc.set p pc, _, c9, by omega, by go_num, by rw [List.length_set], HST, (by rw [List.length_set] at HO8 ⊢; exact HO8), HB8⟩
                case measure => simp [intOf]; omega
              | false =>
                go_upto_region 16 with fail
                go_wp2_with (at_builtin; refine wpList_append_ints (by rfl) (.tmp 86) (.tmp 88) rfl Tryz.underlying22 hi hz0 hz1 hz2 (w5.heap.size + 1) w2.heap.size (.slice (some ⟨gb, 0, none⟩) acc.length c9) acc (.slice (some ⟨w5.heap.size, 0, none⟩) 1 1) [x] rfl (HO5.out.alloc _) rfl (by have h := Ints.of_own (own_new w5 3 [x] (by simp)); simpa using h) (by simp; omega) (by have := HB5.out.size; simp; omega) ?_; intro v6 w6 ho6 hg6 _; obtain ⟨A6, c6, rfl, _⟩ := id (Ints.of_own ho6); have HO6 := Lib.hid ho6; have HB6 := Lib.hid ((HB5.out.alloc HB5.out.size (.cells #[.int .i64 x] 3)).grown hg6 (by have := HB5.out.size; simp; omega) (fun q hq => (HO5.out.lt q hq).1)); clear ho6 hg6)
                go_roundw
                case rel => exact ⟨k + 1, acc ++ [x], A6, c6, by omega, by go_num, (by first | (simp; done) | (simp; omega)), HPU, HO6, HB6⟩
                case measure => simp [intOf]; omega
          · have h1 : (T.classOf y != 0) = true := by simpa using h0
            have HN2 : Hid (∀ j y, p ≤ j → acc[j]? = some y → T.classOf y ≠ 0) := Lib.hid (fun j u hj hu => by
              rcases Nat.eq_or_lt_of_le hj with rfl | hj
              · rw [HY.out] at hu; cases hu; exact h0
              · exact HN.out j u hj hu)
            clear h0
            go_wp2_with fail
            go_roundw
            case rel => exact ⟨p, (p : Int) - 1, by omega, by go_num, rfl, HN2, HO5, HB5⟩
            case measure => first | (simp [intOf]; done) | (simp [intOf]; omega)
    · obtain ⟨hE1, hE2⟩ := HEND.out k acc HS.out (by omega)
      have HE := Lib.hid (And.intro hE1 hE2)
      clear hE1 hE2
      go_wp2_with fail
      go_ret2
      exact ⟨_, acc, rfl, row_le HOs.out HB2.out.size, ⟨HE.out.1, HE.out.2, by omega⟩, below_next HB2.out HBs.out⟩
end Go.Proofs.YtecpbicfiaifdaaGreatDoor
