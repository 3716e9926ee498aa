/-
  The walks through table.copied and the sequences of a code point.
-/
import Derived.Test.YtkdhldhbjomiaaaDoorTabFind2
import Derived.Test.YtkdhldhbjomiaaaDoorAppend
namespace Go.Proofs.YtkdhldhbjomiaaaDoor
open Go.RowKit ND

theorem find_len {l : List Mp} {c : Int} (h : ∀ m ∈ l, m.2.length ≤ 1000) : (findL l c).length ≤ 1000 := by
  by_cases hf : findL l c = []
  · rw [hf]; simp
  · exact h _ (findL_mem hf)

set_option maxRecDepth 100000 in
set_option maxHeartbeats 400000 in
theorem copied_any (v : Value) (ys : List Int) (w : World) (hv : Ints w w.heap.size .i64 v ys) (hl : ys.length ≤ 1000) :
    Calls Tryd.prog 61 #[v] w (RetSeq w ys) := by
  obtain ⟨i0, hi, hz0, hz1, hz2⟩ := info_parts Tryd.infoInt'
  have HV := Lib.hid hv; clear hv
  go_enter Tryd.func61, Tryd.ntmps61
  go_wp2_with (at_builtin
               refine wpList_append_ints (by rfl) (.const (.slice none 0 0)) (.tmp 3) rfl Tryd.underlying24 hi hz0 hz1 hz2 w.heap.size w.heap.size (.slice none 0 0) [] v ys rfl (World.ownsRow_nil _ _ _ _) rfl HV.out (by simp; omega) (Nat.le_refl _) ?_
               intro v1 w1 hown1 hg1 hn1)
  go_ret
  exact ⟨_, rfl, Ints.of_own (by simpa using hown1), fun h => hn1 h (by trivial), (Below.refl _ _).grown hg1 (Nat.le_refl _) (by simp [Value.ownBlock])⟩

set_option maxRecDepth 100000 in
set_option maxHeartbeats 400000 in
theorem scripts_any (t : Tv) (T : Tab) (c : Int) (w : World) (ht : TabR w w.heap.size t T) (hs : sortM T.extensions) (hne : ∀ m ∈ T.extensions, m.2 ≠ [] ∧ m.2.length ≤ 1000) (hlen : T.extensions.length ≤ 256) :
    Calls Tryd.prog 73 #[t.val, .int .i64 c] w (RetSeq w (findL T.extensions c)) := by
  have HP := Lib.hid (fun W (h : Mapps W W.heap.size t.c7 T.extensions) => find_any t.c7 T.extensions c W h hs (fun m hm => (hne m hm).1) hlen)
  have HS := Lib.hid (find_len (c := c) (fun m hm => (hne m hm).2))
  have hr := ht.r7
  have HR := Lib.hid (fun o : Obj => hr.later ((Below.refl _ _).alloc (Nat.le_refl _) o))
  clear hr ht hs hlen hne
  go_enter Tryd.func73, Tryd.ntmps73
  go_wp2_with fail
  refine (HP.out _ (HR.out _)).mono ?_
  rintro e w1 ⟨v, rfl, hv, hn, b1⟩
  go_wp2_with fail
  refine (copied_any v _ w1 hv HS.out).mono ?_
  rintro e w2 ⟨v', rfl, hv', hn', b2⟩
  go_wp2_with fail
  go_ret
  exact ⟨_, rfl, hv', hn', below_next ((Below.refl _ _).alloc (Nat.le_refl _) _) (below_next b1 b2)⟩

set_option maxRecDepth 100000 in
set_option maxHeartbeats 400000 in
theorem decomp_any (t : Tv) (T : Tab) (c : Int) (w : World) (ht : TabR w w.heap.size t T) (hs : sortM T.decomps) (hne : ∀ m ∈ T.decomps, m.2 ≠ [] ∧ m.2.length ≤ 1000) (hlen : T.decomps.length ≤ 256) :
    Calls Tryd.prog 26 #[t.val, .int .i64 c] w (RetSeq w (findL T.decomps c)) := by
  have HP := Lib.hid (fun W (h : Mapps W W.heap.size t.c9 T.decomps) => find_any t.c9 T.decomps c W h hs (fun m hm => (hne m hm).1) hlen)
  have HS := Lib.hid (find_len (c := c) (fun m hm => (hne m hm).2))
  have hr := ht.r9
  have HR := Lib.hid (fun o : Obj => hr.later ((Below.refl _ _).alloc (Nat.le_refl _) o))
  clear hr ht hs hlen hne
  go_enter Tryd.func26, Tryd.ntmps26
  go_wp2_with fail
  refine (HP.out _ (HR.out _)).mono ?_
  rintro e w1 ⟨v, rfl, hv, hn, b1⟩
  go_wp2_with fail
  refine (copied_any v _ w1 hv HS.out).mono ?_
  rintro e w2 ⟨v', rfl, hv', hn', b2⟩
  go_wp2_with fail
  go_ret
  exact ⟨_, rfl, hv', hn', below_next ((Below.refl _ _).alloc (Nat.le_refl _) _) (below_next b1 b2)⟩

set_option maxRecDepth 100000 in
set_option maxHeartbeats 400000 in
theorem prototype_any (t : Tv) (T : Tab) (c : Int) (w : World) (ht : TabR w w.heap.size t T) (hs : sortM T.prototypes) (hne : ∀ m ∈ T.prototypes, m.2 ≠ [] ∧ m.2.length ≤ 1000) (hlen : T.prototypes.length ≤ 256) :
    Calls Tryd.prog 77 #[t.val, .int .i64 c] w (RetSeq w (findL T.prototypes c)) := by
  have HP := Lib.hid (fun W (h : Mapps W W.heap.size t.c11 T.prototypes) => find_any t.c11 T.prototypes c W h hs (fun m hm => (hne m hm).1) hlen)
  have HS := Lib.hid (find_len (c := c) (fun m hm => (hne m hm).2))
  have hr := ht.r11
  have HR := Lib.hid (fun o : Obj => hr.later ((Below.refl _ _).alloc (Nat.le_refl _) o))
  clear hr ht hs hlen hne
  go_enter Tryd.func77, Tryd.ntmps77
  go_wp2_with fail
  refine (HP.out _ (HR.out _)).mono ?_
  rintro e w1 ⟨v, rfl, hv, hn, b1⟩
  go_wp2_with fail
  refine (copied_any v _ w1 hv HS.out).mono ?_
  rintro e w2 ⟨v', rfl, hv', hn', b2⟩
  go_wp2_with fail
  go_ret
  exact ⟨_, rfl, hv', hn', below_next ((Below.refl _ _).alloc (Nat.le_refl _) _) (below_next b1 b2)⟩

set_option maxRecDepth 100000 in
set_option maxHeartbeats 400000 in
theorem maps_any (t : Tv) (T : Tab) (c : Int) (w : World) (ht : TabR w w.heap.size t T) (hs : sortM T.maps) (hne : ∀ m ∈ T.maps, m.2 ≠ [] ∧ m.2.length ≤ 1000) (hlen : T.maps.length ≤ 256) :
    Calls Tryd.prog 17 #[t.val, .int .i64 c] w (RetSeq w (T.mapsOf c)) := by
  have HP := Lib.hid (fun W (h : Mapps W W.heap.size t.c8 T.maps) => find_any t.c8 T.maps c W h hs (fun m hm => (hne m hm).1) hlen)
  have HS := Lib.hid (find_len (c := c) (fun m hm => (hne m hm).2))
  have hr := ht.r8
  have HR := Lib.hid (fun o : Obj => hr.later ((Below.refl _ _).alloc (Nat.le_refl _) o))
  clear hr ht hs hlen hne
  by_cases hc : 65 ≤ c ∧ c ≤ 90
  · have hm : T.mapsOf c = [c + 32] := by unfold Tab.mapsOf; rw [if_pos hc]
    rw [hm]
    clear hm HP HS HR
    obtain ⟨h0, h1⟩ := hc
    have hw : c + 97 - 65 = c + 32 := by omega
    have HW := Lib.hid hw
    clear hw
    go_enter Tryd.func17, Tryd.ntmps17
    go_wp2_with fail
    go_ret
    refine ⟨_, rfl, ⟨some ⟨w.heap.size + 1, 0, none⟩, 1, rfl, Nat.le_refl _, by decide, (by intro h; cases h), fun i x hi => ⟨_, rfl, by simp, ?_⟩⟩, fun h => (by cases h), ((Below.refl _ _).alloc (Nat.le_refl _) _).alloc (by simp) _⟩
    have h := cells_new (w.alloc (.cells t.cells 26)) [.int .i64 (c + 32)] 3 i (.int .i64 x) (by
      cases i with
      | zero => simp at hi ⊢; exact hi
      | succ i => simp at hi)
    rw [show (w.alloc (.cells t.cells 26)).heap.size = w.heap.size + 1 by simp, ← HW.out] at h
    exact h
  · have hm : T.mapsOf c = findL T.maps c := by unfold Tab.mapsOf; rw [if_neg hc]
    rw [hm]
    clear hm
    have hc' : c < 65 ∨ 90 < c := by omega
    clear hc
    rcases hc' with hc | hc
    all_goals
      go_enter Tryd.func17, Tryd.ntmps17
      go_wp2_with fail
      refine (HP.out _ (HR.out _)).mono ?_
      rintro e w1 ⟨v, rfl, hv, hn, b1⟩
      go_wp2_with fail
      refine (copied_any v _ w1 hv HS.out).mono ?_
      rintro e w2 ⟨v', rfl, hv', hn', b2⟩
      go_wp2_with fail
      go_ret
      exact ⟨_, rfl, hv', hn', below_next ((Below.refl _ _).alloc (Nat.le_refl _) _) (below_next b1 b2)⟩
end Go.Proofs.YtkdhldhbjomiaaaDoor
