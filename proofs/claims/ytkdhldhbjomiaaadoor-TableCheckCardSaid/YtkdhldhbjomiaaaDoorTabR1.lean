/-
  The walks through table.rows and the reference's small: rule 1.
-/
import Derived.Test.YtkdhldhbjomiaaaDoorTabCols
import Derived.Test.YtkdhldhbjomiaaaDoorMem
namespace Go.Proofs.YtkdhldhbjomiaaaDoor
open Go.RowKit ND

theorem Blk.tab {w : World} {g : Nat} {e : TypeId} {c0 c1 c2 c3 c4 c5 c6 c7 c8 c9 c10 c11 : Value} (h : Blk w g e #[c0, c1, c2, c3, c4, c5, c6, c7, c8, c9, c10, c11]) : w.cell? ⟨g, 0, none⟩ = some c0 ∧ w.cell? ⟨g, 1, none⟩ = some c1 ∧ w.cell? ⟨g, 2, none⟩ = some c2 ∧ w.cell? ⟨g, 3, none⟩ = some c3 ∧ w.cell? ⟨g, 4, none⟩ = some c4 ∧ w.cell? ⟨g, 5, none⟩ = some c5 ∧
    w.cell? ⟨g, 6, none⟩ = some c6 ∧ w.cell? ⟨g, 7, none⟩ = some c7 ∧ w.cell? ⟨g, 8, none⟩ = some c8 ∧ w.cell? ⟨g, 9, none⟩ = some c9 ∧ w.cell? ⟨g, 10, none⟩ = some c10 ∧ w.cell? ⟨g, 11, none⟩ = some c11 :=
  ⟨h.at_ rfl, h.at_ rfl, h.at_ rfl, h.at_ rfl, h.at_ rfl, h.at_ rfl, h.at_ rfl, h.at_ rfl, h.at_ rfl, h.at_ rfl, h.at_ rfl, h.at_ rfl⟩
/-- The step of a conjunction over a list. -/
theorem all_go {α : Type} {f : α → Bool} {xs : List α} {k : Nat} {x : α} {b R : Bool} (hx : xs[k]? = some x) (h : (b && (xs.drop k).all f) = R) {r : Bool} (hr : f x = r) : ((b && r) && (xs.drop (k + 1)).all f) = R := by
  rw [← h, drop_of_get hx, List.all_cons, hr, Bool.and_assoc]
theorem all_done {α : Type} {f : α → Bool} {xs : List α} {k : Nat} {b R : Bool} (hk : xs.length ≤ k) (h : (b && (xs.drop k).all f) = R) : b = R := by
  rw [List.drop_eq_nil_of_le hk] at h; simpa using h
/-- The step of a loop that leaves at the first one that fails. -/
theorem each_go {α : Type} {f : α → Bool} {xs : List α} {k : Nat} {x : α} {R : Bool} (hx : xs[k]? = some x) (h : (xs.drop k).all f = R) (hf : f x = true) : (xs.drop (k + 1)).all f = R := by
  rw [← h, drop_of_get hx, List.all_cons, hf, Bool.true_and]
theorem each_no {α : Type} {f : α → Bool} {xs : List α} {k : Nat} {x : α} {R : Bool} (hx : xs[k]? = some x) (h : (xs.drop k).all f = R) (hf : f x = false) : R = false := by
  rw [← h, drop_of_get hx, List.all_cons, hf, Bool.false_and]
theorem each_end {α : Type} {f : α → Bool} {xs : List α} {k : Nat} {R : Bool} (hk : xs.length ≤ k) (h : (xs.drop k).all f = R) : R = true := by
  rw [← h, List.drop_eq_nil_of_le hk]; rfl

theorem cast_le (n : Nat) : decide ((n : Int) ≤ 256) = decide (n ≤ 256) := by
  by_cases h : n ≤ 256
  · rw [decide_eq_true h, decide_eq_true (by omega)]
  · rw [decide_eq_false h, decide_eq_false (by omega)]
def lenC_ (c : List Sp × Int × Int) : Bool := decide ((c.1.length : Int) ≤ 256)
def lenM_ (c : List Mp) : Bool := decide ((c.length : Int) ≤ 256)
theorem rule1_cast (T : Tab) : T.rule1 = (decide ((T.excluded.length : Int) ≤ 256) && (T.cols.all lenC_ && T.mps.all lenM_)) := by
  have h1 : lenC_ = fun c : List Sp × Int × Int => decide (c.1.length ≤ 256) := funext fun c => cast_le _
  have h2 : lenM_ = fun c : List Mp => decide (c.length ≤ 256) := funext fun c => cast_le _
  rw [h1, h2, cast_le]; rfl

set_option maxRecDepth 100000 in
set_option maxHeartbeats 1000000 in
theorem rows_any (t : Tv) (T : Tab) (w : World) (ht : TabR w w.heap.size t T) :
    Calls Tryd.prog 32 #[t.val] w fun e w' => e = .returned (.bool T.rule1) ∧ Below w.heap.size w w' := by
  obtain ⟨A0, A1, A2, A3, A4, A5, A6, A7, A8, A9, A10, A11, k0, k1, k2, k3, k4, k5, k6, k7, k8, k9, k10, k11, rfl⟩ := ht.shape
  have HR := Lib.hid (fun o : Obj => ht.later ((Below.refl _ _).alloc (Nat.le_refl _) o))
  clear ht
  obtain ⟨R, hR⟩ : ∃ R, R = T.rule1 := ⟨_, rfl⟩
  rw [← hR]
  obtain ⟨R1, hR1⟩ : ∃ R1, R1 = (decide ((T.excluded.length : Int) ≤ 256) && T.cols.all lenC_) := ⟨_, rfl⟩
  have HR1 : Hid ((decide ((T.excluded.length : Int) ≤ 256) && (T.cols.drop 0).all lenC_) = R1) := Lib.hid hR1.symm
  have HRR : Hid ((R1 && (T.mps.drop 0).all lenM_) = R) := Lib.hid (by rw [hR, hR1, rule1_cast, Bool.and_assoc]; rfl)
  clear hR hR1
  go_enter Tryd.func32, Tryd.ntmps32
  go_wp2_with fail
  refine (columns_any _ T _ (HR.out _)).mono ?_
  rintro e w1 ⟨ad, rfl, hc, b1⟩
  have HC := Lib.hid hc.2
  have hca := hc.1
  have HB := Lib.hid ((Blk.new w 26 _).later b1)
  have HT := Lib.hid ((HR.out _).later b1)
  have hbel1 := below_next ((Below.refl _ _).alloc (Nat.le_refl _) _) b1
  clear hc b1 HR
  go_wp2_with fail
  go_loopw [3, 15] (fun o i wr => ∃ (k : Nat) (b : Bool), k ≤ 7 ∧ i = .int .i64 k ∧ o = .bool b ∧ Hid ((b && (T.cols.drop k).all lenC_) = R1) ∧ Below w1.heap.size w1 wr) (fun _ i _ => 7 - (intOf i).toNat)
  case atStart => exact ⟨0, _, by omega, rfl, rfl, HR1, Below.refl _ _⟩
  case round =>
    obtain ⟨k, b, hk, rfl, rfl, HS, hbel⟩ := hrel
    clear HR1
    by_cases hlt : k < 7
    · obtain ⟨⟨l, lo, hi⟩, hxk, _⟩ := get_el (xs := T.cols) (k := k) hlt
      obtain ⟨v, d0, d1, d2, A, c, rfl, _⟩ := HC.out k _ hxk
      simp only at d0 d1 d2
      obtain ⟨e0, e1, e2⟩ := span_cells hbel hca d0 d1 d2
      have HX := Lib.hid hxk
      clear d0 d1 d2 hxk
      have k0 : (0 : Int) ≤ (k : Int) := by omega
      have k1 : (k : Int) < (7 : Int) := by omega
      have HN := Lib.hid (all_go (r := decide ((l.length : Int) ≤ 256)) HX.out HS.out rfl)
      cases b
      all_goals
        go_wp2_with fail
        go_roundw
        case rel => exact ⟨k + 1, _, by omega, by go_num, rfl, HN, hbel.alloc hbel.size _⟩
        case measure => simp [intOf]; omega
    · have HN := Lib.hid (all_done (by show 7 ≤ k; omega) HS.out)
      obtain ⟨x0, x1, x2, x3, x4, x5, x6, x7, x8, x9, x10, x11⟩ := (HB.out.later hbel).tab
      have HT2 := Lib.hid (HT.out.later hbel)
      clear HT HB HC hca HS
      go_wp2_with fail
      refine (mappings_any _ T _ HT2.out).mono ?_
      rintro e w2 ⟨am, rfl, hm, b2⟩
      have HM := Lib.hid hm.2
      have hma := hm.1
      have hbel2 := below_next hbel1 (below_next hbel b2)
      clear hm HT2 hbel hbel1 b2 x0 x1 x2 x3 x4 x5 x6 x7 x8 x9 x10 x11
      have HRR2 : Hid ((b && (T.mps.drop 0).all lenM_) = R) := Lib.hid (by rw [HN.out]; exact HRR.out)
      clear HRR HN
      go_wp2_with fail
      go_loop [3, 30] (fun o i => ∃ (k : Nat) (b : Bool), k ≤ 4 ∧ i = .int .i64 k ∧ o = .bool b ∧ Hid ((b && (T.mps.drop k).all lenM_) = R)) (fun _ i => 4 - (intOf i).toNat)
      case atStart => exact ⟨0, _, by omega, rfl, rfl, HRR2⟩
      case round =>
        obtain ⟨k, b, hk, rfl, rfl, HS⟩ := hrel
        clear HRR2
        by_cases hlt : k < 4
        · obtain ⟨l, hxk, _⟩ := get_el (xs := T.mps) (k := k) hlt
          obtain ⟨v, d0, A, c, rfl, _⟩ := HM.out k _ hxk
          have HX := Lib.hid hxk
          clear hxk
          have k0 : (0 : Int) ≤ (k : Int) := by omega
          have k1 : (k : Int) < (4 : Int) := by omega
          have HN := Lib.hid (all_go (r := decide ((l.length : Int) ≤ 256)) HX.out HS.out rfl)
          cases b
          all_goals
            go_wp2_with fail
            go_round
            case rel => exact ⟨k + 1, _, by omega, by go_num, rfl, HN⟩
            case measure => simp [intOf]; omega
        · have HN := Lib.hid (all_done (by show 4 ≤ k; omega) HS.out)
          go_wp2_with fail
          go_ret
          rw [HN.out]
          exact ⟨rfl, hbel2⟩
end Go.Proofs.YtkdhldhbjomiaaaDoor
