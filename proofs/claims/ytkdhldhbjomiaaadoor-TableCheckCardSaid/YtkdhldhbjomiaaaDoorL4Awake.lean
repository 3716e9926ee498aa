/-
  The walks through law 4's awake and TableCheck.
-/
import Derived.Test.YtkdhldhbjomiaaaDoorTabRefCheck
import Derived.Test.YtkdhldhbjomiaaaDoorTabSeq
import Derived.Test.YtkdhldhbjomiaaaDoorSame
namespace Go.Proofs.YtkdhldhbjomiaaaDoor
open Go.RowKit ND

def nilTab : Tab := ⟨[], [], [], [], [], [], [], [], [], [], [], []⟩
def nilTv : Tv := ⟨.slice none 0 0, .slice none 0 0, .slice none 0 0, .slice none 0 0, .slice none 0 0, .slice none 0 0, .slice none 0 0, .slice none 0 0, .slice none 0 0, .slice none 0 0, .slice none 0 0, .slice none 0 0⟩
theorem nilTabR (w : World) (B : Nat) : TabR w B nilTv nilTab :=
  ⟨Spans.none_, Spans.none_, Spans.none_, Spans.none_, Spans.none_, Spans.none_, Spans.none_, Mapps.none_, Mapps.none_, Mapps.none_, Ints.none_, Mapps.none_⟩
theorem nilTab_check : nilTab.check = 0 := by decide +kernel

set_option maxRecDepth 100000 in
set_option maxHeartbeats 2000000 in
theorem awake4 (w : World) (hg : Glob w) : Calls Tryd.prog 10 #[] w fun e w' => e = .returned (.bool true) ∧ Below w.heap.size w w' := by
  have HG := Lib.hid (fun W (h : Below w.heap.size w W) => hg.later h)
  have H1 := Lib.hid (fun W h => check_table nilTv nilTab W (nilTabR W _) h)
  have H2 := Lib.hid (fun W => status_any nilTv nilTab 97 0 1114111 W (nilTabR W _) rfl (by decide))
  have H3 := Lib.hid (fun W => maps_any nilTv nilTab 65 W (nilTabR W _) (fun i j a b _ h => by cases h) (by intro m hm; cases hm) (by decide))
  have H4 := Lib.hid (fun W => script_any nilTv nilTab 44032 0 1114111 W (nilTabR W _) rfl (by decide))
  have H5 := Lib.hid (fun W => category_any nilTv nilTab 233 0 1114111 W (nilTabR W _) rfl (by decide))
  rw [nilTab_check] at H1
  rw [show nilTab.statusOf 97 = 1 by decide +kernel] at H2
  rw [show nilTab.mapsOf 65 = [97] by decide +kernel] at H3
  rw [show nilTab.scriptOf 44032 = 9 by decide +kernel] at H4
  rw [show nilTab.categoryOf 233 = 0 by decide +kernel] at H5
  have HB0 := Lib.hid (Blk.new w 26 #[.slice none 0 0, .slice none 0 0, .slice none 0 0, .slice none 0 0, .slice none 0 0, .slice none 0 0, .slice none 0 0, .slice none 0 0, .slice none 0 0, .slice none 0 0, .slice none 0 0, .slice none 0 0])
  have HW0 := Lib.hid (show Below w.heap.size w (w.alloc (.cells #[.slice none 0 0, .slice none 0 0, .slice none 0 0, .slice none 0 0, .slice none 0 0, .slice none 0 0, .slice none 0 0, .slice none 0 0, .slice none 0 0, .slice none 0 0, .slice none 0 0, .slice none 0 0] 26)) from (Below.refl _ _).alloc (Nat.le_refl _) _)
  clear hg
  go_enter Tryd.func10, Tryd.ntmps10
  go_wp2_with fail
  refine (H1.out _ (HG.out _ HW0.out)).mono ?_
  rintro e w1 ⟨rfl, b1⟩
  have HB1 := Lib.hid (HB0.out.later b1)
  have HW1 := Lib.hid (below_next HW0.out b1)
  obtain ⟨x0, x1, x2, x3, x4, x5, x6, x7, x8, x9, x10, x11⟩ := HB1.out.tab
  clear HB0 HW0 H1 b1
  go_wp2_with fail
  refine (H2.out _).mono ?_
  rintro e w2 ⟨rfl, b2⟩
  have HB2 := Lib.hid (HB1.out.later b2)
  have HW2 := Lib.hid (below_next HW1.out b2)
  clear x0 x1 x2 x3 x4 x5 x6 x7 x8 x9 x10 x11 HB1 HW1 H2 b2
  obtain ⟨x0, x1, x2, x3, x4, x5, x6, x7, x8, x9, x10, x11⟩ := HB2.out.tab
  go_wp2_with fail
  refine (H3.out _).mono ?_
  rintro e w3 ⟨v, rfl, hv, _, b3⟩
  have HB3 := Lib.hid (HB2.out.later b3)
  have HW3 := Lib.hid (below_next HW2.out b3)
  have HV := Lib.hid hv
  obtain ⟨Av, cv, rfl, _⟩ := hv
  clear x0 x1 x2 x3 x4 x5 x6 x7 x8 x9 x10 x11 HB2 HW2 H3 b3
  have hb4 := (Below.refl w3.heap.size w3).alloc (Nat.le_refl _) (.cells #[.int .i64 97] 3)
  have hi4 : Ints (w3.alloc (.cells #[.int .i64 97] 3)) (w3.alloc (.cells #[.int .i64 97] 3)).heap.size .i64 (.slice (some ⟨w3.heap.size, 0, none⟩) 1 1) [97] := ⟨_, _, rfl, Nat.le_refl _, by decide, (by intro h; cases h), fun i x hi => ⟨_, rfl, by simp, cells_new w3 [.int .i64 97] 3 i (.int .i64 x) (by
    cases i with
    | zero => simp at hi ⊢; exact hi
    | succ i => simp at hi)⟩⟩
  have HSA := Lib.hid (same_any _ _ [97] [97] _ (HV.out.later hb4) hi4)
  have HB4 := Lib.hid (HB3.out.later hb4)
  have HW4 := Lib.hid (below_next HW3.out hb4)
  rw [decide_eq_true rfl] at HSA
  clear HB3 HW3 hb4 hi4 HV
  go_wp2_with fail
  refine HSA.out.mono ?_
  rintro e w4 ⟨rfl, b4⟩
  have HB5 := Lib.hid (HB4.out.later b4)
  have HW5 := Lib.hid (below_next HW4.out b4)
  clear HB4 HW4 b4 HSA
  obtain ⟨x0, x1, x2, x3, x4, x5, x6, x7, x8, x9, x10, x11⟩ := HB5.out.tab
  go_wp2_with fail
  refine (H4.out _).mono ?_
  rintro e w5 ⟨rfl, b5⟩
  have HB6 := Lib.hid (HB5.out.later b5)
  have HW6 := Lib.hid (below_next HW5.out b5)
  clear x0 x1 x2 x3 x4 x5 x6 x7 x8 x9 x10 x11 HB5 HW5 H4 b5
  obtain ⟨x0, x1, x2, x3, x4, x5, x6, x7, x8, x9, x10, x11⟩ := HB6.out.tab
  go_wp2_with fail
  refine (H5.out _).mono ?_
  rintro e w6 ⟨rfl, b6⟩
  have HW7 := Lib.hid (below_next HW6.out b6)
  clear x0 x1 x2 x3 x4 x5 x6 x7 x8 x9 x10 x11 HB6 HW6 H5 b6
  go_wp2_with fail
  go_ret
  exact ⟨by simp, HW7.out⟩

set_option maxRecDepth 100000 in
set_option maxHeartbeats 2000000 in
theorem TableCheck_walk (W : World) (hg : Glob W) (t : Tv) (T : Tab) (ht : TabR W W.heap.size t T) :
    Calls Tryd.prog 3 #[t.val] W fun e W' => e = .returned (.bool true) ∧ Below W.heap.size W W' := by
  have H1 := Lib.hid (fun V (h : Below W.heap.size W V) => awake4 V (hg.later h))
  have H2 := Lib.hid (fun V (h : Below W.heap.size W V) => check_table t T V (ht.later h) (hg.later h))
  have H3 := Lib.hid (fun V (h : Below W.heap.size W V) => check_ref t T V (ht.later h))
  obtain ⟨A0, A1, A2, A3, A4, A5, A6, A7, A8, A9, A10, A11, k0, k1, k2, k3, k4, k5, k6, k7, k8, k9, k10, k11, rfl⟩ := ht.shape
  have HB := Lib.hid (Blk.new W 26 #[.slice A0 T.category.length k0, .slice A1 T.cls.length k1, .slice A2 T.joining.length k2, .slice A3 T.bidi.length k3, .slice A4 T.script.length k4, .slice A5 T.status.length k5, .slice A6 T.ignorable.length k6, .slice A7 T.extensions.length k7, .slice A8 T.maps.length k8, .slice A9 T.decomps.length k9, .slice A10 T.excluded.length k10, .slice A11 T.prototypes.length k11])
  have hb0 : Below W.heap.size W (W.alloc (.cells #[.slice A0 T.category.length k0, .slice A1 T.cls.length k1, .slice A2 T.joining.length k2, .slice A3 T.bidi.length k3, .slice A4 T.script.length k4, .slice A5 T.status.length k5, .slice A6 T.ignorable.length k6, .slice A7 T.extensions.length k7, .slice A8 T.maps.length k8, .slice A9 T.decomps.length k9, .slice A10 T.excluded.length k10, .slice A11 T.prototypes.length k11] 26)) := (Below.refl _ _).alloc (Nat.le_refl _) _
  obtain ⟨r, hr⟩ : ∃ r, r = T.check := ⟨_, rfl⟩
  rw [← hr] at H2 H3
  clear ht hg hr
  go_enter Tryd.func3, Tryd.ntmps3
  go_wp2_with fail
  generalize World.alloc W _ = w0 at *
  obtain ⟨x0, x1, x2, x3, x4, x5, x6, x7, x8, x9, x10, x11⟩ := HB.out.tabG
  refine wp_region_quiet_below (by kernel_rfl) (by kernel_rfl) ?_
  repeat (go_big_quiet_step (first | (go_at_call 10; exact quiet_t (fun V hV => H1.out V (below_next hb0 hV))) | (go_at_call 11; exact quiet_t (fun V hV => H2.out V (below_next hb0 hV))) | (go_at_call 12; exact quiet_t (fun V hV => H3.out V (below_next hb0 hV)))))
  refine wpQuiet_nil ?_
  rintro _ ⟨⟨dq, osq⟩, rfl⟩
  clear x0 x1 x2 x3 x4 x5 x6 x7 x8 x9 x10 x11
  go_wp2_with fail
  go_ret
  exact ⟨by simp, below_next hb0 (below_regrown _ dq osq)⟩
end Go.Proofs.YtkdhldhbjomiaaaDoor
