/-
  The walks through table.outside and the reference's clean: a span contains no reserved code point.
-/
import Derived.Test.YtkdhldhbjomiaaaDoorTabB
import Derived.Test.YtkdhldhbjomiaaaDoorTabMem
import Derived.Test.YtkdhldhbjomiaaaDoorGlob
namespace Go.Proofs.YtkdhldhbjomiaaaDoor
open Go.RowKit ND

set_option maxRecDepth 100000 in
set_option maxHeartbeats 400000 in
theorem outside_any (f t x : Int) (w : World) (hg : Glob w) :
    Calls Tryd.prog 102 #[.agg #[.int .i64 f, .int .i64 t, .int .i64 x]] w fun e w' => e = .returned (.bool (outB f t)) ∧ Below w.heap.size w w' := by
  obtain ⟨v, hv, A, c, rfl, _, _, _, hcell⟩ := hg
  have HC := Lib.hid hcell; clear hcell
  have hlen : blocksL.length = 6 := rfl
  rw [hlen] at hv
  clear hlen
  obtain ⟨R, hR⟩ : ∃ R, R = outB f t := ⟨_, rfl⟩
  rw [← hR]
  have HR : Hid (blocksL.all (fun b => apartB f t b.1 b.2.1) = R) := Lib.hid hR.symm
  clear hR
  have h0 : 0 < w.heap.size := World.block_lt_of_cell? _ _ hv
  have hv1 := fun o : Obj => (World.cell?_alloc_lt w o ⟨0, 0, none⟩ h0).trans hv
  have HV := Lib.hid hv
  clear hv
  go_enter Tryd.func102, Tryd.ntmps102
  go_wp2_with fail
  go_loopw [7] (fun i wr => ∃ k : Nat, k ≤ 6 ∧ i = .int .i64 k ∧ Hid ((blocksL.drop k).all (fun b => apartB f t b.1 b.2.1) = R) ∧ Below w.heap.size w wr ∧ Hid (Blk wr w.heap.size 64 #[.int .i64 f, .int .i64 t, .int .i64 x])) (fun i _ => 6 - (intOf i).toNat)
  case atStart => exact ⟨0, by omega, rfl, HR, (Below.refl _ _).alloc (Nat.le_refl _) _, Lib.hid (Blk.new _ _ _)⟩
  case round =>
    obtain ⟨k, hk, rfl, HS, hbel, HB⟩ := hrel
    clear hv1
    by_cases hlt : k < 6
    · obtain ⟨⟨lo, hi, y⟩, hxk, _⟩ := get_el (xs := blocksL) (k := k) hlt
      obtain ⟨ad, rfl, ha, d0, d1, d2⟩ := HC.out k _ hxk
      simp only at d0 d1 d2
      obtain ⟨e0, e1, e2⟩ := span_cells hbel ha d0 d1 d2
      have hb0 := HB.out.lt
      have g0 := fun o : Obj => (World.cell?_alloc_lt wr o ⟨w.heap.size, 0, none⟩ hb0).trans (HB.out.at_ (i := 0) (u := .int .i64 f) rfl)
      have g1 := fun o : Obj => (World.cell?_alloc_lt wr o ⟨w.heap.size, 1, none⟩ hb0).trans (HB.out.at_ (i := 1) (u := .int .i64 t) rfl)
      have HX := Lib.hid hxk
      have HB' := Lib.hid (HB.out.alloc (.cells #[.int .i64 lo, .int .i64 hi, .int .i64 y] 64))
      clear d0 d1 d2 hxk ha HB
      have k0 : (0 : Int) ≤ (k : Int) := by omega
      have k1 : (k : Int) < (6 : Int) := by omega
      rcases apart_ways f t lo hi with ⟨ho, q0⟩ | ⟨ho, q0, q1⟩ | ⟨ho, q0, q1⟩
      · have HN := Lib.hid (show (blocksL.drop (k + 1)).all (fun b => apartB f t b.1 b.2.1) = R by rw [← HS.out, drop_of_get HX.out, List.all_cons, ho, Bool.true_and])
        clear ho
        go_wp2_with fail
        go_roundw
        case rel => exact ⟨k + 1, by omega, by go_num, HN, hbel.alloc hbel.size _, HB'⟩
        case measure => simp [intOf]; omega
      · have HN := Lib.hid (show (blocksL.drop (k + 1)).all (fun b => apartB f t b.1 b.2.1) = R by rw [← HS.out, drop_of_get HX.out, List.all_cons, ho, Bool.true_and])
        clear ho
        go_wp2_with fail
        go_roundw
        case rel => exact ⟨k + 1, by omega, by go_num, HN, hbel.alloc hbel.size _, HB'⟩
        case measure => simp [intOf]; omega
      · have HN := Lib.hid (show R = false by rw [← HS.out, drop_of_get HX.out, List.all_cons, ho, Bool.false_and])
        clear ho
        go_wp2_with fail
        go_ret
        rw [HN.out]
        exact ⟨rfl, hbel.alloc hbel.size _⟩
    · have HN := Lib.hid (show R = true by rw [← HS.out, List.drop_eq_nil_of_le (by show 6 ≤ k; omega)]; rfl)
      go_wp2_with fail
      go_ret
      rw [HN.out]
      exact ⟨rfl, hbel⟩

set_option maxRecDepth 100000 in
set_option maxHeartbeats 1000000 in
theorem clean_any (f t x : Int) (w : World) :
    Calls Tryd.prog 113 #[.agg #[.int .i64 f, .int .i64 t, .int .i64 x]] w fun e w' => e = .returned (.bool (outB f t)) ∧ Below w.heap.size w w' := by
  obtain ⟨R, hR⟩ : ∃ R, R = outB f t := ⟨_, rfl⟩
  rw [← hR]
  have HR : Hid (refBlocks.all (fun b => apartB f t b.1 b.2) = R) := Lib.hid (by rw [outB_ref]; exact hR.symm)
  clear hR
  have i0 : ∀ w, (Instr.index 121 (.agg #[.int .i64 0, .int .i64 127, .int .i64 55296, .int .i64 57343, .int .i64 44032, .int .i64 55203, .int .i64 4352, .int .i64 4370, .int .i64 4449, .int .i64 4469, .int .i64 4520, .int .i64 4546]) (.int .i64 0)).run Tryd.prog w = .ok (.agg #[.int .i64 0, .int .i64 127]) w := fun _ => by kernel_rfl
  have i1 : ∀ w, (Instr.index 121 (.agg #[.int .i64 0, .int .i64 127, .int .i64 55296, .int .i64 57343, .int .i64 44032, .int .i64 55203, .int .i64 4352, .int .i64 4370, .int .i64 4449, .int .i64 4469, .int .i64 4520, .int .i64 4546]) (.int .i64 1)).run Tryd.prog w = .ok (.agg #[.int .i64 55296, .int .i64 57343]) w := fun _ => by kernel_rfl
  have i2 : ∀ w, (Instr.index 121 (.agg #[.int .i64 0, .int .i64 127, .int .i64 55296, .int .i64 57343, .int .i64 44032, .int .i64 55203, .int .i64 4352, .int .i64 4370, .int .i64 4449, .int .i64 4469, .int .i64 4520, .int .i64 4546]) (.int .i64 2)).run Tryd.prog w = .ok (.agg #[.int .i64 44032, .int .i64 55203]) w := fun _ => by kernel_rfl
  have i3 : ∀ w, (Instr.index 121 (.agg #[.int .i64 0, .int .i64 127, .int .i64 55296, .int .i64 57343, .int .i64 44032, .int .i64 55203, .int .i64 4352, .int .i64 4370, .int .i64 4449, .int .i64 4469, .int .i64 4520, .int .i64 4546]) (.int .i64 3)).run Tryd.prog w = .ok (.agg #[.int .i64 4352, .int .i64 4370]) w := fun _ => by kernel_rfl
  have i4 : ∀ w, (Instr.index 121 (.agg #[.int .i64 0, .int .i64 127, .int .i64 55296, .int .i64 57343, .int .i64 44032, .int .i64 55203, .int .i64 4352, .int .i64 4370, .int .i64 4449, .int .i64 4469, .int .i64 4520, .int .i64 4546]) (.int .i64 4)).run Tryd.prog w = .ok (.agg #[.int .i64 4449, .int .i64 4469]) w := fun _ => by kernel_rfl
  have i5 : ∀ w, (Instr.index 121 (.agg #[.int .i64 0, .int .i64 127, .int .i64 55296, .int .i64 57343, .int .i64 44032, .int .i64 55203, .int .i64 4352, .int .i64 4370, .int .i64 4449, .int .i64 4469, .int .i64 4520, .int .i64 4546]) (.int .i64 5)).run Tryd.prog w = .ok (.agg #[.int .i64 4520, .int .i64 4546]) w := fun _ => by kernel_rfl
  go_enter Tryd.func113, Tryd.ntmps113
  go_wp2_with fail
  go_loopw [12] (fun i wr => ∃ k : Nat, k ≤ 6 ∧ i = .int .i64 k ∧ Hid ((refBlocks.drop k).all (fun b => apartB f t b.1 b.2) = R) ∧ Below w.heap.size w wr ∧ Hid (Blk wr w.heap.size 64 #[.int .i64 f, .int .i64 t, .int .i64 x])) (fun i _ => 6 - (intOf i).toNat)
  case atStart => exact ⟨0, by omega, rfl, HR, (Below.refl _ _).alloc (Nat.le_refl _) _, Lib.hid (Blk.new _ _ _)⟩
  case round =>
    obtain ⟨k, hk, rfl, HS, hbel, HB⟩ := hrel
    by_cases hlt : k < 6
    · obtain ⟨⟨lo, hi⟩, hxk, _⟩ := get_el (xs := refBlocks) (k := k) hlt
      have hb0 := HB.out.lt
      have g0 := fun o : Obj => (World.cell?_alloc_lt wr o ⟨w.heap.size, 0, none⟩ hb0).trans (HB.out.at_ (i := 0) (u := .int .i64 f) rfl)
      have g1 := fun o : Obj => (World.cell?_alloc_lt wr o ⟨w.heap.size, 1, none⟩ hb0).trans (HB.out.at_ (i := 1) (u := .int .i64 t) rfl)
      have hidx : ∀ w, (Instr.index 121 (.agg #[.int .i64 0, .int .i64 127, .int .i64 55296, .int .i64 57343, .int .i64 44032, .int .i64 55203, .int .i64 4352, .int .i64 4370, .int .i64 4449, .int .i64 4469, .int .i64 4520, .int .i64 4546]) (.int .i64 k)).run Tryd.prog w = .ok (.agg #[.int .i64 lo, .int .i64 hi]) w := by
        have h6 : k = 0 ∨ k = 1 ∨ k = 2 ∨ k = 3 ∨ k = 4 ∨ k = 5 := by omega
        rcases h6 with rfl | rfl | rfl | rfl | rfl | rfl <;> cases hxk
        · exact i0
        · exact i1
        · exact i2
        · exact i3
        · exact i4
        · exact i5
      have HX := Lib.hid hxk
      have HB' := Lib.hid (HB.out.alloc (.cells #[.int .i64 lo, .int .i64 hi] 103))
      clear hxk HB
      have k0 : (0 : Int) ≤ (k : Int) := by omega
      have k1 : (k : Int) < (6 : Int) := by omega
      rcases apart_ways f t lo hi with ⟨ho, q0⟩ | ⟨ho, q0, q1⟩ | ⟨ho, q0, q1⟩
      · have HN := Lib.hid (show (refBlocks.drop (k + 1)).all (fun b => apartB f t b.1 b.2) = R by rw [← HS.out, drop_of_get HX.out, List.all_cons, ho, Bool.true_and])
        clear ho
        go_wp2_with fail
        go_roundw
        case rel => exact ⟨k + 1, by omega, by go_num, HN, hbel.alloc hbel.size _, HB'⟩
        case measure => simp [intOf]; omega
      · have HN := Lib.hid (show (refBlocks.drop (k + 1)).all (fun b => apartB f t b.1 b.2) = R by rw [← HS.out, drop_of_get HX.out, List.all_cons, ho, Bool.true_and])
        clear ho
        go_wp2_with fail
        go_roundw
        case rel => exact ⟨k + 1, by omega, by go_num, HN, hbel.alloc hbel.size _, HB'⟩
        case measure => simp [intOf]; omega
      · have HN := Lib.hid (show R = false by rw [← HS.out, drop_of_get HX.out, List.all_cons, ho, Bool.false_and])
        clear ho
        go_wp2_with fail
        go_ret
        rw [HN.out]
        exact ⟨rfl, hbel.alloc hbel.size _⟩
    · have HN := Lib.hid (show R = true by rw [← HS.out, List.drop_eq_nil_of_le (by show 6 ≤ k; omega)]; rfl)
      go_wp2_with fail
      go_ret
      rw [HN.out]
      exact ⟨rfl, hbel⟩
end Go.Proofs.YtkdhldhbjomiaaaDoor
