/-
  The walks through table.columns, table.mappings and the reference's spans and mappings.
-/
import Derived.Test.YtkdhldhbjomiaaaDoorTabMem
import Derived.Test.YtkdhldhbjomiaaaDoorRules2
namespace Go.Proofs.YtkdhldhbjomiaaaDoor
open Go.RowKit ND

/-- A row of columns from address ad on: the spans, the least value, the greatest value. -/
def ColAt (W : World) (B : Nat) (ad : Addr) (T : Tab) : Prop :=
  ad.block < B ∧ ∀ k c, T.cols[k]? = some c → ∃ v, W.cell? (ad.add (k * 3)) = some v ∧ W.cell? (ad.add (k * 3 + 1)) = some (.int .i64 c.2.1) ∧ W.cell? (ad.add (k * 3 + 2)) = some (.int .i64 c.2.2) ∧ Spans W B v c.1
/-- A row of lists of mappings. -/
def MpsAt (W : World) (B : Nat) (ad : Addr) (T : Tab) : Prop :=
  ad.block < B ∧ ∀ k c, T.mps[k]? = some c → ∃ v, W.cell? (ad.add k) = some v ∧ Mapps W B v c
/-- A row of lists of spans. -/
def LstAt (W : World) (B : Nat) (ad : Addr) (T : Tab) : Prop :=
  ad.block < B ∧ ∀ k c, T.cols[k]? = some c → ∃ v, W.cell? (ad.add k) = some v ∧ Spans W B v c.1
def mostL : List Int := [8, 254, 5, 11, 60, 4, 1]
def MstAt (W : World) (B : Nat) (ad : Addr) : Prop := ad.block < B ∧ ∀ (k : Nat) (m : Int), mostL[k]? = some m → W.cell? (ad.add k) = some (.int .i64 m)

def RetCols (T : Tab) (w : World) (e : Ending) (w' : World) : Prop := ∃ ad, e = .returned (.slice (some ad) 7 7) ∧ ColAt w' w'.heap.size ad T ∧ Below w.heap.size w w'
def RetMps (T : Tab) (w : World) (e : Ending) (w' : World) : Prop := ∃ ad, e = .returned (.slice (some ad) 4 4) ∧ MpsAt w' w'.heap.size ad T ∧ Below w.heap.size w w'
def RetLst (T : Tab) (w : World) (e : Ending) (w' : World) : Prop := ∃ ad am, e = .returned (.tuple #[.slice (some ad) 7 7, .slice (some am) 7 7]) ∧ LstAt w' w'.heap.size ad T ∧ MstAt w' w'.heap.size am ∧ Below w.heap.size w w'

theorem cols_of_block {w0 w : World} {t : Tv} {T : Tab} {e : TypeId} (ht : TabR w0 w0.heap.size t T) (hb : Below w0.heap.size w0 w) {h : Nat} (hh : w.heap.size = h) :
    ColAt (w.alloc (.cells #[t.c0, .int .i64 0, .int .i64 8, t.c1, .int .i64 1, .int .i64 254, t.c2, .int .i64 0, .int .i64 5, t.c3, .int .i64 0, .int .i64 11, t.c4, .int .i64 0, .int .i64 60, t.c5, .int .i64 0, .int .i64 4, t.c6, .int .i64 1, .int .i64 1] e))
      (w.alloc (.cells #[t.c0, .int .i64 0, .int .i64 8, t.c1, .int .i64 1, .int .i64 254, t.c2, .int .i64 0, .int .i64 5, t.c3, .int .i64 0, .int .i64 11, t.c4, .int .i64 0, .int .i64 60, t.c5, .int .i64 0, .int .i64 4, t.c6, .int .i64 1, .int .i64 1] e)).heap.size ⟨h, 0, none⟩ T := by
  subst hh
  have hc := cells_new w [t.c0, .int .i64 0, .int .i64 8, t.c1, .int .i64 1, .int .i64 254, t.c2, .int .i64 0, .int .i64 5, t.c3, .int .i64 0, .int .i64 11, t.c4, .int .i64 0, .int .i64 60, t.c5, .int .i64 0, .int .i64 4, t.c6, .int .i64 1, .int .i64 1] e
  have hr := ht.later (hb.alloc hb.size (.cells #[t.c0, .int .i64 0, .int .i64 8, t.c1, .int .i64 1, .int .i64 254, t.c2, .int .i64 0, .int .i64 5, t.c3, .int .i64 0, .int .i64 11, t.c4, .int .i64 0, .int .i64 60, t.c5, .int .i64 0, .int .i64 4, t.c6, .int .i64 1, .int .i64 1] e))
  refine ⟨by simp, fun k c hk => ?_⟩
  have hk7 : k < 7 := (List.getElem?_eq_some_iff.1 hk).1
  have h7 : k = 0 ∨ k = 1 ∨ k = 2 ∨ k = 3 ∨ k = 4 ∨ k = 5 ∨ k = 6 := by omega
  rcases h7 with rfl | rfl | rfl | rfl | rfl | rfl | rfl <;> cases hk
  · exact ⟨_, hc 0 _ rfl, hc 1 _ rfl, hc 2 _ rfl, hr.r0⟩
  · exact ⟨_, hc 3 _ rfl, hc 4 _ rfl, hc 5 _ rfl, hr.r1⟩
  · exact ⟨_, hc 6 _ rfl, hc 7 _ rfl, hc 8 _ rfl, hr.r2⟩
  · exact ⟨_, hc 9 _ rfl, hc 10 _ rfl, hc 11 _ rfl, hr.r3⟩
  · exact ⟨_, hc 12 _ rfl, hc 13 _ rfl, hc 14 _ rfl, hr.r4⟩
  · exact ⟨_, hc 15 _ rfl, hc 16 _ rfl, hc 17 _ rfl, hr.r5⟩
  · exact ⟨_, hc 18 _ rfl, hc 19 _ rfl, hc 20 _ rfl, hr.r6⟩
theorem mps_of_block {w0 w : World} {t : Tv} {T : Tab} {e : TypeId} (ht : TabR w0 w0.heap.size t T) (hb : Below w0.heap.size w0 w) {h : Nat} (hh : w.heap.size = h) :
    MpsAt (w.alloc (.cells #[t.c7, t.c8, t.c9, t.c11] e)) (w.alloc (.cells #[t.c7, t.c8, t.c9, t.c11] e)).heap.size ⟨h, 0, none⟩ T := by
  subst hh
  have hc := cells_new w [t.c7, t.c8, t.c9, t.c11] e
  have hr := ht.later (hb.alloc hb.size (.cells #[t.c7, t.c8, t.c9, t.c11] e))
  refine ⟨by simp, fun k c hk => ?_⟩
  have hk7 : k < 4 := (List.getElem?_eq_some_iff.1 hk).1
  have h7 : k = 0 ∨ k = 1 ∨ k = 2 ∨ k = 3 := by omega
  rcases h7 with rfl | rfl | rfl | rfl <;> cases hk
  · exact ⟨_, hc 0 _ rfl, hr.r7⟩
  · exact ⟨_, hc 1 _ rfl, hr.r8⟩
  · exact ⟨_, hc 2 _ rfl, hr.r9⟩
  · exact ⟨_, hc 3 _ rfl, hr.r11⟩
theorem lst_of_block {w0 w : World} {t : Tv} {T : Tab} {e : TypeId} (ht : TabR w0 w0.heap.size t T) (hb : Below w0.heap.size w0 w) {h : Nat} (hh : w.heap.size = h) :
    LstAt (w.alloc (.cells #[t.c0, t.c1, t.c2, t.c3, t.c4, t.c5, t.c6] e)) (w.alloc (.cells #[t.c0, t.c1, t.c2, t.c3, t.c4, t.c5, t.c6] e)).heap.size ⟨h, 0, none⟩ T := by
  subst hh
  have hc := cells_new w [t.c0, t.c1, t.c2, t.c3, t.c4, t.c5, t.c6] e
  have hr := ht.later (hb.alloc hb.size (.cells #[t.c0, t.c1, t.c2, t.c3, t.c4, t.c5, t.c6] e))
  refine ⟨by simp, fun k c hk => ?_⟩
  have hk7 : k < 7 := (List.getElem?_eq_some_iff.1 hk).1
  have h7 : k = 0 ∨ k = 1 ∨ k = 2 ∨ k = 3 ∨ k = 4 ∨ k = 5 ∨ k = 6 := by omega
  rcases h7 with rfl | rfl | rfl | rfl | rfl | rfl | rfl <;> cases hk
  · exact ⟨_, hc 0 _ rfl, hr.r0⟩
  · exact ⟨_, hc 1 _ rfl, hr.r1⟩
  · exact ⟨_, hc 2 _ rfl, hr.r2⟩
  · exact ⟨_, hc 3 _ rfl, hr.r3⟩
  · exact ⟨_, hc 4 _ rfl, hr.r4⟩
  · exact ⟨_, hc 5 _ rfl, hr.r5⟩
  · exact ⟨_, hc 6 _ rfl, hr.r6⟩
theorem LstAt.later {w w' : World} {ad : Addr} {T : Tab} (h : LstAt w w.heap.size ad T) (hb : Below w.heap.size w w') : LstAt w' w'.heap.size ad T :=
  ⟨Nat.lt_of_lt_of_le h.1 hb.size, fun k c hk => by
    obtain ⟨v, h1, h2⟩ := h.2 k c hk
    exact ⟨v, (hb.cell (p := ad.add k) (by rw [block_of_add]; exact h.1)).trans h1, h2.later hb⟩⟩
theorem mst_of_block (w : World) (e : TypeId) {h : Nat} (hh : w.heap.size = h) : MstAt (w.alloc (.cells #[.int .i64 8, .int .i64 254, .int .i64 5, .int .i64 11, .int .i64 60, .int .i64 4, .int .i64 1] e)) (w.alloc (.cells #[.int .i64 8, .int .i64 254, .int .i64 5, .int .i64 11, .int .i64 60, .int .i64 4, .int .i64 1] e)).heap.size ⟨h, 0, none⟩ := by
  subst hh
  refine ⟨by simp, fun k m hk => ?_⟩
  refine cells_new w (mostL.map (Value.int .i64)) e k _ ?_
  rw [List.getElem?_map, hk]; rfl

theorem TabR.shape {w : World} {B : Nat} {t : Tv} {T : Tab} (h : TabR w B t T) : ∃ (A0 A1 A2 A3 A4 A5 A6 A7 A8 A9 A10 A11 : Option Addr) (k0 k1 k2 k3 k4 k5 k6 k7 k8 k9 k10 k11 : Nat),
    t = ⟨.slice A0 T.category.length k0, .slice A1 T.cls.length k1, .slice A2 T.joining.length k2, .slice A3 T.bidi.length k3, .slice A4 T.script.length k4, .slice A5 T.status.length k5, .slice A6 T.ignorable.length k6,
      .slice A7 T.extensions.length k7, .slice A8 T.maps.length k8, .slice A9 T.decomps.length k9, .slice A10 T.excluded.length k10, .slice A11 T.prototypes.length k11⟩ := by
  obtain ⟨c0, c1, c2, c3, c4, c5, c6, c7, c8, c9, c10, c11⟩ := t
  obtain ⟨A0, k0, h0, _⟩ := h.r0
  obtain ⟨A1, k1, h1, _⟩ := h.r1
  obtain ⟨A2, k2, h2, _⟩ := h.r2
  obtain ⟨A3, k3, h3, _⟩ := h.r3
  obtain ⟨A4, k4, h4, _⟩ := h.r4
  obtain ⟨A5, k5, h5, _⟩ := h.r5
  obtain ⟨A6, k6, h6, _⟩ := h.r6
  obtain ⟨A7, k7, h7, _⟩ := h.r7
  obtain ⟨A8, k8, h8, _⟩ := h.r8
  obtain ⟨A9, k9, h9, _⟩ := h.r9
  obtain ⟨A10, k10, h10, _⟩ := h.r10
  obtain ⟨A11, k11, h11, _⟩ := h.r11
  simp only at h0 h1 h2 h3 h4 h5 h6 h7 h8 h9 h10 h11
  subst h0 h1 h2 h3 h4 h5 h6 h7 h8 h9 h10 h11
  exact ⟨A0, A1, A2, A3, A4, A5, A6, A7, A8, A9, A10, A11, k0, k1, k2, k3, k4, k5, k6, k7, k8, k9, k10, k11, rfl⟩

set_option maxRecDepth 100000 in
set_option maxHeartbeats 400000 in
theorem columns_any (t : Tv) (T : Tab) (w : World) (ht : TabR w w.heap.size t T) : Calls Tryd.prog 83 #[t.val] w (RetCols T w) := by
  obtain ⟨A0, A1, A2, A3, A4, A5, A6, A7, A8, A9, A10, A11, k0, k1, k2, k3, k4, k5, k6, k7, k8, k9, k10, k11, rfl⟩ := ht.shape
  have HT := Lib.hid ht; clear ht
  go_enter Tryd.func83, Tryd.ntmps83
  go_wp2_with fail
  go_ret
  refine ⟨_, rfl, cols_of_block HT.out ?_ (by simp), ?_⟩
  all_goals
    repeat (first | exact Below.refl _ _ | refine Below.setCell ?_ (by simp) _ | refine Below.alloc ?_ (by simp <;> omega) _)
set_option maxRecDepth 100000 in
set_option maxHeartbeats 400000 in
theorem mappings_any (t : Tv) (T : Tab) (w : World) (ht : TabR w w.heap.size t T) : Calls Tryd.prog 85 #[t.val] w (RetMps T w) := by
  obtain ⟨A0, A1, A2, A3, A4, A5, A6, A7, A8, A9, A10, A11, k0, k1, k2, k3, k4, k5, k6, k7, k8, k9, k10, k11, rfl⟩ := ht.shape
  have HT := Lib.hid ht; clear ht
  go_enter Tryd.func85, Tryd.ntmps85
  go_wp2_with fail
  go_ret
  refine ⟨_, rfl, mps_of_block HT.out ?_ (by simp), ?_⟩
  all_goals
    repeat (first | exact Below.refl _ _ | refine Below.setCell ?_ (by simp) _ | refine Below.alloc ?_ (by simp <;> omega) _)
set_option maxRecDepth 100000 in
set_option maxHeartbeats 400000 in
theorem refMappings_any (t : Tv) (T : Tab) (w : World) (ht : TabR w w.heap.size t T) : Calls Tryd.prog 91 #[t.val] w (RetMps T w) := by
  obtain ⟨A0, A1, A2, A3, A4, A5, A6, A7, A8, A9, A10, A11, k0, k1, k2, k3, k4, k5, k6, k7, k8, k9, k10, k11, rfl⟩ := ht.shape
  have HT := Lib.hid ht; clear ht
  go_enter Tryd.func91, Tryd.ntmps91
  go_wp2_with fail
  go_ret
  refine ⟨_, rfl, mps_of_block HT.out ?_ (by simp), ?_⟩
  all_goals
    repeat (first | exact Below.refl _ _ | refine Below.setCell ?_ (by simp) _ | refine Below.alloc ?_ (by simp <;> omega) _)
set_option maxRecDepth 100000 in
set_option maxHeartbeats 400000 in
theorem refSpans_any (t : Tv) (T : Tab) (w : World) (ht : TabR w w.heap.size t T) : Calls Tryd.prog 89 #[t.val] w (RetLst T w) := by
  obtain ⟨A0, A1, A2, A3, A4, A5, A6, A7, A8, A9, A10, A11, k0, k1, k2, k3, k4, k5, k6, k7, k8, k9, k10, k11, rfl⟩ := ht.shape
  have HT := Lib.hid ht; clear ht
  go_enter Tryd.func89, Tryd.ntmps89
  go_wp2_with fail
  go_ret2
  refine ⟨_, _, rfl, (lst_of_block HT.out ?_ (by simp)).later ((Below.refl _ _).alloc (Nat.le_refl _) _), mst_of_block _ _ (by simp), ?_⟩
  all_goals
    repeat (first | exact Below.refl _ _ | refine Below.setCell ?_ (by simp) _ | refine Below.alloc ?_ (by simp <;> omega) _)
end Go.Proofs.YtkdhldhbjomiaaaDoor
