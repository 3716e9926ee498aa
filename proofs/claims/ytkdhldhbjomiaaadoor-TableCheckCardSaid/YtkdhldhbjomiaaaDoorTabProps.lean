/-
  The walks through table.pick and the properties of a code point.
-/
import Derived.Test.YtkdhldhbjomiaaaDoorTabProp
namespace Go.Proofs.YtkdhldhbjomiaaaDoor
open Go.RowKit ND

theorem propL_zero {l : List Sp} {own c : Int} (h : lenC c = 0) : propL l own c = 0 := by unfold propL; rw [if_pos h]
theorem propL_own {l : List Sp} {own c : Int} (h : lenC c ≠ 0) (h2 : resB c = true) : propL l own c = own := by unfold propL; rw [if_neg h, if_pos h2]
theorem propL_list {l : List Sp} {own c : Int} (h : lenC c ≠ 0) (h2 : resB c = false) : propL l own c = valueL l c := by unfold propL; rw [if_neg h, if_neg (by rw [h2]; simp)]

set_option maxRecDepth 100000 in
set_option maxHeartbeats 1000000 in
theorem pick_prop (g : Nat) (sel : Int × Int × Int × Int → Int) (v : Value) (xs : List Sp) (c lo hi : Int) (w : World) (eg : ∀ args w, (callFunc g args).run Tryd.prog w = .ok (.enter g args) w)
    (hown : ∀ W q, Calls Tryd.prog g #[fixV q] W fun e W' => e = .returned (.int .i64 (sel q)) ∧ Below W.heap.size W W')
    (hv : Spans w w.heap.size v xs) (hs : okS lo hi (-1) xs = true) (hlen : xs.length ≤ 256) :
    Calls Tryd.prog 63 #[v, .int .i64 c, .func (.func g) #[] #[]] w fun e w' => e = .returned (.int .i64 (propL xs (sel (fixC c)) c)) ∧ Below w.heap.size w w' := by
  have HL := Lib.hid (fun W => length_any c W)
  have HRS := Lib.hid (fun W => reserved_any c W)
  have HO := Lib.hid hown
  have HV := Lib.hid (fun W (h : Spans W W.heap.size v xs) => value_any v xs c lo hi W h hs hlen)
  have HW := Lib.hid hv
  clear hown hv hs hlen
  obtain ⟨n, hn⟩ : ∃ n, n = lenC c := ⟨_, rfl⟩
  rw [← hn] at HL
  by_cases h0 : n = 0
  · rw [propL_zero (hn.symm.trans h0)]
    have hb : ((n : Int) == 0) = true := by rw [beq_iff_eq]; omega
    clear hn h0 HO HV HW HRS eg
    go_enter Tryd.func63, Tryd.ntmps63
    go_wp2_with fail
    refine (HL.out _).mono ?_
    rintro e w1 ⟨rfl, rfl⟩
    go_wp2_with fail
    go_ret
    exact ⟨rfl, Below.refl _ _⟩
  · have hb : ((n : Int) == 0) = false := by rw [beq_eq_false_iff_ne]; omega
    have hn0 : lenC c ≠ 0 := by rw [← hn]; exact h0
    clear hn h0
    cases hr : resB c
    · rw [propL_list hn0 hr]
      rw [hr] at HRS
      clear hn0 hr HO eg
      go_enter Tryd.func63, Tryd.ntmps63
      go_wp2_with fail
      refine (HL.out _).mono ?_
      rintro e w1 ⟨rfl, rfl⟩
      go_wp2_with fail
      refine (HRS.out _).mono ?_
      rintro e w1 ⟨rfl, rfl⟩
      go_wp2_with fail
      refine (HV.out _ HW.out).mono ?_
      rintro e w1 ⟨rfl, b1⟩
      go_wp2_with fail
      go_ret
      exact ⟨rfl, b1⟩
    · rw [propL_own hn0 hr]
      have HF := Lib.hid (fun W => fixed_any c hr W)
      rw [hr] at HRS
      generalize fixC c = q at *
      clear hn0 hr HV HW
      go_enter Tryd.func63, Tryd.ntmps63
      go_wp2_with fail
      refine (HL.out _).mono ?_
      rintro e w1 ⟨rfl, rfl⟩
      go_wp2_with fail
      refine (HRS.out _).mono ?_
      rintro e w1 ⟨rfl, rfl⟩
      go_wp2_with fail
      refine (HF.out _).mono ?_
      rintro e w1 ⟨rfl, b1⟩
      have hq : fixV q = fixV q := rfl
      clear hq
      go_wp2_with fail
      refine (HO.out w1 q).mono ?_
      rintro e w2 ⟨rfl, b2⟩
      go_wp2_with fail
      go_ret
      exact ⟨rfl, below_next b1 b2⟩

set_option maxRecDepth 100000 in
set_option maxHeartbeats 400000 in
theorem ownCategory (W : World) (q : Int × Int × Int × Int) : Calls Tryd.prog 79 #[fixV q] W fun e W' => e = .returned (.int .i64 (q.1)) ∧ Below W.heap.size W W' := by
  unfold fixV
  go_enter Tryd.func79, Tryd.ntmps79
  go_wp2_with fail
  go_ret
  exact ⟨rfl, (Below.refl _ _).alloc (Nat.le_refl _) _⟩

set_option maxRecDepth 100000 in
set_option maxHeartbeats 400000 in
theorem category_any (t : Tv) (T : Tab) (c lo hi : Int) (w : World) (ht : TabR w w.heap.size t T) (hs : okS lo hi (-1) T.category = true) (hlen : T.category.length ≤ 256) :
    Calls Tryd.prog 20 #[t.val, .int .i64 c] w fun e w' => e = .returned (.int .i64 (T.categoryOf c)) ∧ Below w.heap.size w w' := by
  have HP := Lib.hid (fun W (h : Spans W W.heap.size t.c0 T.category) => pick_prop 79 (fun q => q.1) t.c0 T.category c lo hi W (enters_of Tryd.func79 (by kernel_rfl) rfl) ownCategory h hs hlen)
  have hr := ht.r0
  have HR := Lib.hid (fun o : Obj => hr.later ((Below.refl _ _).alloc (Nat.le_refl _) o))
  clear hr ht hs hlen
  go_enter Tryd.func20, Tryd.ntmps20
  go_wp2_with fail
  refine (HP.out _ (HR.out _)).mono ?_
  rintro e w1 ⟨rfl, b1⟩
  go_wp2_with fail
  go_ret
  exact ⟨rfl, below_next ((Below.refl _ _).alloc (Nat.le_refl _) _) b1⟩

set_option maxRecDepth 100000 in
set_option maxHeartbeats 400000 in
theorem ownBidi (W : World) (q : Int × Int × Int × Int) : Calls Tryd.prog 81 #[fixV q] W fun e W' => e = .returned (.int .i64 (q.2.1)) ∧ Below W.heap.size W W' := by
  unfold fixV
  go_enter Tryd.func81, Tryd.ntmps81
  go_wp2_with fail
  go_ret
  exact ⟨rfl, (Below.refl _ _).alloc (Nat.le_refl _) _⟩

set_option maxRecDepth 100000 in
set_option maxHeartbeats 400000 in
theorem bidi_any (t : Tv) (T : Tab) (c lo hi : Int) (w : World) (ht : TabR w w.heap.size t T) (hs : okS lo hi (-1) T.bidi = true) (hlen : T.bidi.length ≤ 256) :
    Calls Tryd.prog 23 #[t.val, .int .i64 c] w fun e w' => e = .returned (.int .i64 (T.bidiOf c)) ∧ Below w.heap.size w w' := by
  have HP := Lib.hid (fun W (h : Spans W W.heap.size t.c3 T.bidi) => pick_prop 81 (fun q => q.2.1) t.c3 T.bidi c lo hi W (enters_of Tryd.func81 (by kernel_rfl) rfl) ownBidi h hs hlen)
  have hr := ht.r3
  have HR := Lib.hid (fun o : Obj => hr.later ((Below.refl _ _).alloc (Nat.le_refl _) o))
  clear hr ht hs hlen
  go_enter Tryd.func23, Tryd.ntmps23
  go_wp2_with fail
  refine (HP.out _ (HR.out _)).mono ?_
  rintro e w1 ⟨rfl, b1⟩
  go_wp2_with fail
  go_ret
  exact ⟨rfl, below_next ((Below.refl _ _).alloc (Nat.le_refl _) _) b1⟩

set_option maxRecDepth 100000 in
set_option maxHeartbeats 400000 in
theorem ownScript (W : World) (q : Int × Int × Int × Int) : Calls Tryd.prog 82 #[fixV q] W fun e W' => e = .returned (.int .i64 (q.2.2.1)) ∧ Below W.heap.size W W' := by
  unfold fixV
  go_enter Tryd.func82, Tryd.ntmps82
  go_wp2_with fail
  go_ret
  exact ⟨rfl, (Below.refl _ _).alloc (Nat.le_refl _) _⟩

set_option maxRecDepth 100000 in
set_option maxHeartbeats 400000 in
theorem script_any (t : Tv) (T : Tab) (c lo hi : Int) (w : World) (ht : TabR w w.heap.size t T) (hs : okS lo hi (-1) T.script = true) (hlen : T.script.length ≤ 256) :
    Calls Tryd.prog 24 #[t.val, .int .i64 c] w fun e w' => e = .returned (.int .i64 (T.scriptOf c)) ∧ Below w.heap.size w w' := by
  have HP := Lib.hid (fun W (h : Spans W W.heap.size t.c4 T.script) => pick_prop 82 (fun q => q.2.2.1) t.c4 T.script c lo hi W (enters_of Tryd.func82 (by kernel_rfl) rfl) ownScript h hs hlen)
  have hr := ht.r4
  have HR := Lib.hid (fun o : Obj => hr.later ((Below.refl _ _).alloc (Nat.le_refl _) o))
  clear hr ht hs hlen
  go_enter Tryd.func24, Tryd.ntmps24
  go_wp2_with fail
  refine (HP.out _ (HR.out _)).mono ?_
  rintro e w1 ⟨rfl, b1⟩
  go_wp2_with fail
  go_ret
  exact ⟨rfl, below_next ((Below.refl _ _).alloc (Nat.le_refl _) _) b1⟩

set_option maxRecDepth 100000 in
set_option maxHeartbeats 400000 in
theorem ownStatus (W : World) (q : Int × Int × Int × Int) : Calls Tryd.prog 64 #[fixV q] W fun e W' => e = .returned (.int .i64 (q.2.2.2)) ∧ Below W.heap.size W W' := by
  unfold fixV
  go_enter Tryd.func64, Tryd.ntmps64
  go_wp2_with fail
  go_ret
  exact ⟨rfl, (Below.refl _ _).alloc (Nat.le_refl _) _⟩

set_option maxRecDepth 100000 in
set_option maxHeartbeats 400000 in
theorem status_any (t : Tv) (T : Tab) (c lo hi : Int) (w : World) (ht : TabR w w.heap.size t T) (hs : okS lo hi (-1) T.status = true) (hlen : T.status.length ≤ 256) :
    Calls Tryd.prog 18 #[t.val, .int .i64 c] w fun e w' => e = .returned (.int .i64 (T.statusOf c)) ∧ Below w.heap.size w w' := by
  have HP := Lib.hid (fun W (h : Spans W W.heap.size t.c5 T.status) => pick_prop 64 (fun q => q.2.2.2) t.c5 T.status c lo hi W (enters_of Tryd.func64 (by kernel_rfl) rfl) ownStatus h hs hlen)
  have hr := ht.r5
  have HR := Lib.hid (fun o : Obj => hr.later ((Below.refl _ _).alloc (Nat.le_refl _) o))
  clear hr ht hs hlen
  go_enter Tryd.func18, Tryd.ntmps18
  go_wp2_with fail
  refine (HP.out _ (HR.out _)).mono ?_
  rintro e w1 ⟨rfl, b1⟩
  go_wp2_with fail
  go_ret
  exact ⟨rfl, below_next ((Below.refl _ _).alloc (Nat.le_refl _) _) b1⟩

set_option maxRecDepth 100000 in
set_option maxHeartbeats 400000 in
theorem class_any (t : Tv) (T : Tab) (c lo hi : Int) (w : World) (ht : TabR w w.heap.size t T) (hs : okS lo hi (-1) T.cls = true) (hlen : T.cls.length ≤ 256) :
    Calls Tryd.prog 21 #[t.val, .int .i64 c] w fun e w' => e = .returned (.int .i64 (T.classOf c)) ∧ Below w.heap.size w w' := by
  have HP := Lib.hid (fun W (h : Spans W W.heap.size t.c1 T.cls) => value_any t.c1 T.cls c lo hi W h hs hlen)
  have hr := ht.r1
  have HR := Lib.hid (fun o : Obj => hr.later ((Below.refl _ _).alloc (Nat.le_refl _) o))
  clear hr ht hs hlen
  go_enter Tryd.func21, Tryd.ntmps21
  go_wp2_with fail
  refine (HP.out _ (HR.out _)).mono ?_
  rintro e w1 ⟨rfl, b1⟩
  go_wp2_with fail
  go_ret
  exact ⟨rfl, below_next ((Below.refl _ _).alloc (Nat.le_refl _) _) b1⟩

set_option maxRecDepth 100000 in
set_option maxHeartbeats 400000 in
theorem joining_any (t : Tv) (T : Tab) (c lo hi : Int) (w : World) (ht : TabR w w.heap.size t T) (hs : okS lo hi (-1) T.joining = true) (hlen : T.joining.length ≤ 256) :
    Calls Tryd.prog 22 #[t.val, .int .i64 c] w fun e w' => e = .returned (.int .i64 (T.joiningOf c)) ∧ Below w.heap.size w w' := by
  have HP := Lib.hid (fun W (h : Spans W W.heap.size t.c2 T.joining) => value_any t.c2 T.joining c lo hi W h hs hlen)
  have hr := ht.r2
  have HR := Lib.hid (fun o : Obj => hr.later ((Below.refl _ _).alloc (Nat.le_refl _) o))
  clear hr ht hs hlen
  go_enter Tryd.func22, Tryd.ntmps22
  go_wp2_with fail
  refine (HP.out _ (HR.out _)).mono ?_
  rintro e w1 ⟨rfl, b1⟩
  go_wp2_with fail
  go_ret
  exact ⟨rfl, below_next ((Below.refl _ _).alloc (Nat.le_refl _) _) b1⟩

set_option maxRecDepth 100000 in
set_option maxHeartbeats 400000 in
theorem ignorable_any (t : Tv) (T : Tab) (c lo hi : Int) (w : World) (ht : TabR w w.heap.size t T) (hs : okS lo hi (-1) T.ignorable = true) (hlen : T.ignorable.length ≤ 256) :
    Calls Tryd.prog 25 #[t.val, .int .i64 c] w fun e w' => e = .returned (.bool (T.ignB c)) ∧ Below w.heap.size w w' := by
  have HP := Lib.hid (fun W (h : Spans W W.heap.size t.c6 T.ignorable) => value_any t.c6 T.ignorable c lo hi W h hs hlen)
  have hr := ht.r6
  have HR := Lib.hid (fun o : Obj => hr.later ((Below.refl _ _).alloc (Nat.le_refl _) o))
  clear hr ht hs hlen
  go_enter Tryd.func25, Tryd.ntmps25
  go_wp2_with fail
  refine (HP.out _ (HR.out _)).mono ?_
  rintro e w1 ⟨rfl, b1⟩
  go_wp2_with fail
  go_ret
  exact ⟨rfl, below_next ((Below.refl _ _).alloc (Nat.le_refl _) _) b1⟩
end Go.Proofs.YtkdhldhbjomiaaaDoor
