/-
  Merged texts: lemmas and walks that the last text of this claim leans on.
-/
import Derived.Test.YtneinkpfhkojgaaDoorMgT62
import Derived.Test.YtneinkpfhkojgaaDoorMgT61
import Derived.Test.YtneinkpfhkojgaaDoorMgT67
import Derived.Test.YtneinkpfhkojgaaDoorMgT68
import Derived.Test.YtneinkpfhkojgaaDoorMgT611
import Derived.Test.YtneinkpfhkojgaaDoorMgT63
import Derived.Shelf.Abstract
/-
  The walk through keep.Points.
-/
namespace Go.Proofs.YtneinkpfhkojgaaDoor
open Go.RowKit ND

theorem all_snoc {f : Int → Bool} {acc : List Int} {y : Int} (h : ∀ x ∈ acc, f x = true) (h0 : f y = true) : ∀ x ∈ acc ++ [y], f x = true := by
  intro x hx
  rcases List.mem_append.1 hx with h2 | h2
  · exact h x h2
  · rw [List.mem_singleton] at h2; subst h2; exact h0

/-- At most ten scalar values come back. -/
def RetPoints (w : World) (e : Ending) (w' : World) : Prop :=
  ∃ v ys, e = .returned v ∧ Ints w' w'.heap.size .i64 v ys ∧ ys.length ≤ 10 ∧ (∀ c ∈ ys, scalarB c = true) ∧ Below w.heap.size w w'

/-- At most ten scalar values come back, in a row of the call's own. -/
def RetPointsO (w : World) (e : Ending) (w' : World) : Prop :=
  ∃ (v : Value) (ys : List Int), e = .returned v ∧ w'.ownsRow (w.heap.size + 1) 3 1 v ys.length (ys.map (Value.int .i64)) ∧ ys.length ≤ 10 ∧ (∀ c ∈ ys, scalarB c = true) ∧ Below w.heap.size w w' ∧ w.heap.size + 1 ≤ w'.heap.size

set_option maxRecDepth 100000 in
set_option maxHeartbeats 1000000 in
theorem pointsO_any (w : World) (v : Value) (xs : List Int) (hv : Ints w w.heap.size .i64 v xs) : Calls Tryd.prog 25 #[v] w (RetPointsO w) := by
  obtain ⟨i0, hi, hz0, hz1, hz2⟩ := info_parts Tryd.infoInt'
  obtain ⟨A, c, rfl⟩ : ∃ A c, v = .slice A xs.length c := by obtain ⟨A, c, h, _⟩ := hv; exact ⟨A, c, h⟩
  go_enter Tryd.func25, Tryd.ntmps25
  go_wp2_with fail
  refine (from_any A xs.length c w).mono ?_
  rintro e w1 ⟨rfl, rfl⟩
  have hs1 : Src (w.alloc (.cells #[.slice A xs.length c, .int .i64 0] 72)) w.heap.size (.slice A xs.length c) xs.length := ⟨0, Nat.zero_le _, Blk.new w _ _⟩
  have hbel1 : Below w.heap.size w (w.alloc (.cells #[.slice A xs.length c, .int .i64 0] 72)) := (Below.refl _ _).alloc (Nat.le_refl _) _
  have hsz1 : w.heap.size + 1 ≤ (w.alloc (.cells #[.slice A xs.length c, .int .i64 0] 72)).heap.size := by simp
  generalize w.alloc (.cells #[.slice A xs.length c, .int .i64 0] 72) = w1 at *
  have hv1 := hv.below hbel1
  go_wp2_with fail
  refine (next_src w1 w.heap.size _ xs 11 hv1 hs1 (by decide) (by decide)).mono ?_
  rintro e w2 ⟨r, rfl, hr0, hr1, hs2, hg2⟩
  have hbel2 := below_of_grown hbel1 hg2 (Nat.le_refl _) (by omega)
  have hsz2 := Nat.le_trans hsz1 hg2.size
  obtain ⟨m0, rfl⟩ := Int.eq_ofNat_of_zero_le hr0
  have hm0 : m0 ≤ 10 := by omega
  have HS2 := Lib.hid hs2
  have HV := Lib.hid hv
  clear hs2 hs1 hbel1 hsz1 hv1 hg2 hr0 hr1 hv
  go_wp2_with fail
  go_loopw [4, 5] (fun l n wr => ∃ (m : Nat) (acc : List Int), n = .int .i64 m ∧ acc.length + m ≤ 10 ∧ wr.ownsRow (w.heap.size + 1) 3 1 l acc.length (acc.map (Value.int .i64)) ∧ Hid (∀ x ∈ acc, scalarB x = true) ∧ Hid (Src wr w.heap.size (.slice A xs.length c) xs.length) ∧ Below w.heap.size w wr ∧ w.heap.size + 1 ≤ wr.heap.size) (fun _ n _ => (intOf n).toNat)
  case atStart => exact ⟨m0, [], rfl, by simpa using hm0, World.ownsRow_nil _ _ _ _, Lib.hid (by simp), HS2, hbel2, hsz2⟩
  case round =>
    obtain ⟨m, acc, rfl, hm, hown, HF, HS, hbel, hsz⟩ := hrel
    by_cases hlt : 0 < m
    · have hv' := HV.out.below hbel
      go_wp2_with fail
      refine (point_src wr w.heap.size _ xs hv' HS.out).mono ?_
      rintro e w3 ⟨x, rfl, hx, hs3, hg3⟩
      have hbel3 := below_of_grown hbel hg3 (Nat.le_refl _) (by omega)
      have hsz3 := Nat.le_trans hsz hg3.size
      have hown3 := own_grown hown hg3 (by omega)
      have HF' := Lib.hid (all_snoc HF.out hx)
      clear hv' hown hbel hsz hg3 HS HF hx
      have HS3 := Lib.hid hs3; clear hs3
      go_wp2_with (at_builtin; refine wpList_append_own _ rfl _ _ 22 rfl (w.heap.size + 1) 3 i0 (.int .i64 0) 1 8 Tryd.underlying22 hi hz0 hz1 hz2 rfl (by decide) _ _ _ rfl (hown3.alloc _) ⟨w3.heap.size, 0, none⟩ 1 1 [.int .i64 x] rfl rfl (cell_one_new _ _ _) ?c1 ?c2 ?c3 ?c4 ?_)
      case c1 => intro u hu; simp at hu; subst hu; rfl
      case c2 => unfold maxLen; omega
      case c3 => omega
      case c4 => simp; omega
      intro v' w4 hown4 hgrow _
      have hbel4 : Below w.heap.size w w4 := (hbel3.alloc hbel3.size _).grown hgrow (by have := hbel3.size; simp; omega) (fun k hk => by have := (hown3.lt k hk).1; omega)
      have hsz4 : w.heap.size + 1 ≤ w4.heap.size := by have := hgrow.size; simp at this; omega
      have HS4 := Lib.hid ((HS3.out.alloc _).grown hgrow (fun hk => by have := (hown3.lt _ hk.symm).1; omega))
      clear hgrow hown3 hbel3 hsz3 HS3
      go_wp2_with fail
      go_roundw
      case rel => exact ⟨m - 1, acc ++ [x], by go_num, by simp; omega, by simpa using hown4, HF', HS4, hbel4, hsz4⟩
      case measure => simp [intOf]; omega
    · go_wp2_with fail
      go_ret
      exact ⟨_, acc, rfl, hown, by omega, HF.out, hbel, hsz⟩

theorem points_any (w : World) (v : Value) (xs : List Int) (hv : Ints w w.heap.size .i64 v xs) : Calls Tryd.prog 25 #[v] w (RetPoints w) :=
  (pointsO_any w v xs hv).mono fun _ _ ⟨v, ys, h1, h2, h3, h4, h5, _⟩ => ⟨v, ys, h1, Ints.of_own h2, h3, h4, h5⟩
end Go.Proofs.YtneinkpfhkojgaaDoor
/-
  The walk through marks of the laws of layer 6.
-/
namespace Go.Proofs.YtneinkpfhkojgaaDoor
open Go.RowKit ND

def markL : List Int := [769, 776, 803, 837, 2381, 97, 945, 44032]
def markB (c : Int) : Bool := markL.contains c
theorem mark_mem : ∀ c ∈ markL, markB c = true := by decide
theorem mark_scal : ∀ c ∈ markL, scalarB c = true := by decide
theorem marks_scal {ys : List Int} (h : ∀ c ∈ ys, markB c = true) : ys.all scalarB = true := by
  rw [List.all_eq_true]
  exact fun c hc => mark_scal c (by have := h c hc; unfold markB at this; simpa using this)
theorem mall_snoc {acc : List Int} {y : Int} (h : ∀ x ∈ acc, markB x = true) (h0 : markB y = true) : ∀ x ∈ acc ++ [y], markB x = true := by
  intro x hx
  rcases List.mem_append.1 hx with h2 | h2
  · exact h x h2
  · rw [List.mem_singleton] at h2; subst h2; exact h0

/-- At most nine marks come back, in a row of the call's own. -/
def RetMarks (w : World) (e : Ending) (w' : World) : Prop :=
  ∃ (v : Value) (ys : List Int), e = .returned v ∧ w'.ownsRow (w.heap.size + 1) 3 1 v ys.length (ys.map (Value.int .i64)) ∧ ys.length ≤ 9 ∧ (∀ c ∈ ys, markB c = true) ∧ Below w.heap.size w w' ∧ w.heap.size + 1 ≤ w'.heap.size

set_option maxRecDepth 100000 in
set_option maxHeartbeats 1000000 in
theorem marks_any (w : World) (v : Value) (xs : List Int) (hv : Ints w w.heap.size .i64 v xs) : Calls Tryd.prog 15 #[v] w (RetMarks w) := by
  obtain ⟨i0, hi, hz0, hz1, hz2⟩ := info_parts Tryd.infoInt'
  obtain ⟨A, c, rfl⟩ : ∃ A c, v = .slice A xs.length c := by obtain ⟨A, c, h, _⟩ := hv; exact ⟨A, c, h⟩
  go_enter Tryd.func15, Tryd.ntmps15
  go_wp2_with fail
  refine (from_any A xs.length c w).mono ?_
  rintro e w1 ⟨rfl, rfl⟩
  have hs1 : Src (w.alloc (.cells #[.slice A xs.length c, .int .i64 0] 72)) w.heap.size (.slice A xs.length c) xs.length := ⟨0, Nat.zero_le _, Blk.new w _ _⟩
  have hbel1 : Below w.heap.size w (w.alloc (.cells #[.slice A xs.length c, .int .i64 0] 72)) := (Below.refl _ _).alloc (Nat.le_refl _) _
  have hsz1 : w.heap.size + 1 ≤ (w.alloc (.cells #[.slice A xs.length c, .int .i64 0] 72)).heap.size := by simp
  generalize w.alloc (.cells #[.slice A xs.length c, .int .i64 0] 72) = w1 at *
  have hv1 := hv.below hbel1
  go_wp2_with fail
  refine (next_src w1 w.heap.size _ xs 10 hv1 hs1 (by decide) (by decide)).mono ?_
  rintro e w2 ⟨r, rfl, hr0, hr1, hs2, hg2⟩
  have hbel2 := below_of_grown hbel1 hg2 (Nat.le_refl _) (by omega)
  have hsz2 := Nat.le_trans hsz1 hg2.size
  obtain ⟨m0, rfl⟩ := Int.eq_ofNat_of_zero_le hr0
  have hm0 : m0 ≤ 9 := by omega
  have HS2 := Lib.hid hs2
  have HV := Lib.hid hv
  clear hs2 hs1 hbel1 hsz1 hv1 hg2 hr0 hr1 hv
  go_wp2_with fail
  go_loopw [4, 5] (fun l n wr => ∃ (m : Nat) (acc : List Int), n = .int .i64 m ∧ acc.length + m ≤ 9 ∧ wr.ownsRow (w.heap.size + 1) 3 1 l acc.length (acc.map (Value.int .i64)) ∧ Hid (∀ x ∈ acc, markB x = true) ∧ Hid (Src wr w.heap.size (.slice A xs.length c) xs.length) ∧ Below w.heap.size w wr ∧ w.heap.size + 1 ≤ wr.heap.size) (fun _ n _ => (intOf n).toNat)
  case atStart => exact ⟨m0, [], rfl, by simpa using hm0, World.ownsRow_nil _ _ _ _, Lib.hid (by simp), HS2, hbel2, hsz2⟩
  case round =>
    obtain ⟨m, acc, rfl, hm, hown, HF, HS, hbel, hsz⟩ := hrel
    by_cases hlt : 0 < m
    · have hv' := HV.out.below hbel
      go_wp2_with fail
      have hlw := HS.out.lt
      have hga := grown_alloc wr (.cells #[.int .i64 769, .int .i64 776, .int .i64 803, .int .i64 837, .int .i64 2381, .int .i64 97, .int .i64 945, .int .i64 44032] 3) (some w.heap.size)
      refine (next_src _ w.heap.size _ xs 8 (hv'.grown hga hlw) (HS.out.alloc _) (by decide) (by decide)).mono ?_
      rintro e w3 ⟨q, rfl, hq0, hq1, hs3, hgq⟩
      have hk := cell_kept wr.heap.size (cells_new wr [.int .i64 769, .int .i64 776, .int .i64 803, .int .i64 837, .int .i64 2381, .int .i64 97, .int .i64 945, .int .i64 44032] 3) hgq (by simp) (by omega)
      have hg3 := grown_trans hga hgq
      obtain ⟨mm, rfl⟩ := Int.eq_ofNat_of_zero_le hq0
      have hmm : mm < markL.length := by show mm < 8; omega
      obtain ⟨x, hx0, hxm⟩ := get_of hmm
      have y0 := hk mm (.int .i64 x) (by have h : (markL.map (Value.int .i64))[mm]? = some (.int .i64 x) := by rw [List.getElem?_map, hx0]; rfl
                                         exact h)
      have hx := mark_mem x hxm
      clear hk hx0 hxm hga hgq hq0 hmm
      have hbel3 := below_of_grown hbel hg3 (Nat.le_refl _) (by omega)
      have hsz3 := Nat.le_trans hsz hg3.size
      have hown3 := own_grown hown hg3 (by omega)
      have HF' := Lib.hid (mall_snoc HF.out hx)
      clear hv' hown hbel hsz hg3 HS HF hx
      have HS3 := Lib.hid hs3; clear hs3
      go_wp2_with (at_builtin; refine wpList_append_own _ rfl _ _ 22 rfl (w.heap.size + 1) 3 i0 (.int .i64 0) 1 8 Tryd.underlying22 hi hz0 hz1 hz2 rfl (by decide) _ _ _ rfl (hown3.alloc _) ⟨w3.heap.size, 0, none⟩ 1 1 [.int .i64 x] rfl rfl (cell_one_new _ _ _) ?c1 ?c2 ?c3 ?c4 ?_)
      case c1 => intro u hu; simp at hu; subst hu; rfl
      case c2 => unfold maxLen; omega
      case c3 => omega
      case c4 => simp; omega
      intro v' w4 hown4 hgrow _
      have hbel4 : Below w.heap.size w w4 := (hbel3.alloc hbel3.size _).grown hgrow (by have := hbel3.size; simp; omega) (fun k hk => by have := (hown3.lt k hk).1; omega)
      have hsz4 : w.heap.size + 1 ≤ w4.heap.size := by have := hgrow.size; simp at this; omega
      have HS4 := Lib.hid ((HS3.out.alloc _).grown hgrow (fun hk => by have := (hown3.lt _ hk.symm).1; omega))
      clear hgrow hown3 hbel3 hsz3 HS3
      go_wp2_with fail
      go_roundw
      case rel => exact ⟨m - 1, acc ++ [x], by go_num, by simp; omega, by simpa using hown4, HF', HS4, hbel4, hsz4⟩
      case measure => simp [intOf]; omega
    · go_wp2_with fail
      go_ret
      exact ⟨_, acc, rfl, hown, by omega, HF.out, hbel, hsz⟩

end Go.Proofs.YtneinkpfhkojgaaDoor
/-
  The walk through the law OrderErrors.
-/
namespace Go.Proofs.YtneinkpfhkojgaaDoor
open Go.RowKit ND

theorem short_of {T : Tab} (h : Shape T) : ShortT 256 T := ⟨h.c0.2.1, h.c1.2.1, h.c2.2.1, h.c3.2.1, h.c4.2.1, h.c5.2.1, h.c6.2.1, h.lx, h.lm, h.ld, h.lenX, h.lp⟩

set_option maxRecDepth 100000 in
set_option maxHeartbeats 4000000 in
theorem OrderErrors_go (W : World) (hg : Glob W) (v : Value) (xs : List Int) (hv : Ints W W.heap.size .i64 v xs) (u : Value) (ms : List Int) (hu : Ints W W.heap.size .i64 u ms) (a1 a2 a3 : Int) (t : Tv) (T : Tab) (ht : TabR W W.heap.size t T) :
    Calls Tryd.prog 11 #[v, u, .int .i64 a1, .int .i64 a2, .int .i64 a3, t.val] W fun e W' => e = .returned (.bool true) ∧ Below W.heap.size W W' := by
  obtain ⟨A, c, rfl, _⟩ := id hv
  obtain ⟨Au, cu, rfl, _⟩ := id hu
  have HB0 : Hid (Below W.heap.size W (W.alloc (.cells t.cells 26))) := Lib.hid ((Below.refl _ _).alloc (Nat.le_refl _) _)
  have HT : Hid (Tbl (W.alloc (.cells t.cells 26)) W.heap.size t T) := Lib.hid ⟨Blk.new _ _ _, ht.later HB0.out⟩
  have HV := Lib.hid (hv.later HB0.out)
  have HU := Lib.hid (hu.later HB0.out)
  have HG := Lib.hid (hg.later HB0.out)
  clear hv hu ht hg
  go_enter Tryd.func11, Tryd.ntmps11
  go_upto_region 1 with fail
  generalize W.alloc (.cells t.cells 26) = w1 at *
  obtain ⟨tb, htb⟩ : ∃ tb, W.heap.size = tb := ⟨_, rfl⟩
  rw [htb] at HT
  simp only [htb]
  have HX : Hid (∀ V, Below w1.heap.size w1 V → V.cell? ⟨tb, 0, none⟩ = some t.c0 ∧ V.cell? ⟨tb, 1, none⟩ = some t.c1 ∧ V.cell? ⟨tb, 2, none⟩ = some t.c2 ∧ V.cell? ⟨tb, 3, none⟩ = some t.c3 ∧ V.cell? ⟨tb, 4, none⟩ = some t.c4 ∧ V.cell? ⟨tb, 5, none⟩ = some t.c5 ∧ V.cell? ⟨tb, 6, none⟩ = some t.c6 ∧ V.cell? ⟨tb, 7, none⟩ = some t.c7 ∧ V.cell? ⟨tb, 8, none⟩ = some t.c8 ∧ V.cell? ⟨tb, 9, none⟩ = some t.c9 ∧ V.cell? ⟨tb, 10, none⟩ = some t.c10 ∧ V.cell? ⟨tb, 11, none⟩ = some t.c11) := Lib.hid fun V hV => (HT.out.later hV).1.tab
  go_wp2_with (first
    | (go_at_call 16; refine (awake6 _ HG.out).mono ?_; rintro e w2 ⟨rfl, b2⟩)
    | (go_at_call 14; refine (keepTables_any _ _ xs (HV.out.later b2)).mono ?_; rintro e w3 ⟨t3, T3, rfl, ht3, hm3, b3⟩; have B3 := Lib.hid (below_next b2 b3))
    | (go_at_call 28; refine (other_any _ t3 T3 a1 a2 a3 256 ht3 (short_of hm3.shape) (by omega)).mono ?_; rintro e w4 ⟨t4, T4, rfl, ht4, hs4, b4⟩; have B4 := Lib.hid (below_next B3.out b4); clear hm3 hs4)
    | (go_at_call 15; refine (marks_any _ _ ms (HU.out.later B4.out)).mono ?_; rintro e w5 ⟨u5, ys, rfl, ho5, hyl, hys, b5, _⟩; have B5 := Lib.hid (below_next B4.out b5))
    | (go_at_call 27; refine (agrees6_any t4 T4 u5 ys _ (ht4.later b5) (HG.out.later B5.out) (Ints.of_own ho5)).mono ?_; rintro e w6 ⟨rfl, b6⟩; have B6 := Lib.hid (below_next B5.out b6); obtain ⟨x0, x1, x2, x3, x4, x5, x6, x7, x8, x9, x10, x11⟩ := HX.out _ B6.out; clear ht4 ho5 ht3)
    | (go_at_call 27; refine (agrees6_any t T _ ms _ (HT.out.later B6.out).2 (HG.out.later B6.out) (HU.out.later B6.out)).mono ?_; rintro e w7 ⟨rfl, b7⟩; have B7 := Lib.hid (below_next B6.out b7)))
  go_ret
  exact ⟨rfl, below_next HB0.out B7.out⟩
theorem OrderErrors_walk (W : World) (hg : Glob W) (v : Value) (xs : List Int) (hv : Ints W W.heap.size .i64 v xs) (_ : ∀ x ∈ xs, -9223372036854775808 ≤ x ∧ x ≤ 9223372036854775807) (_ : xs.length * 8 ≤ 140737488351232) (u : Value) (ms : List Int) (hu : Ints W W.heap.size .i64 u ms) (_ : ∀ x ∈ ms, -9223372036854775808 ≤ x ∧ x ≤ 9223372036854775807) (_ : ms.length * 8 ≤ 140737488351232) (a1 : Int) (_ : -9223372036854775808 ≤ a1 ∧ a1 ≤ 9223372036854775807) (a2 : Int) (_ : -9223372036854775808 ≤ a2 ∧ a2 ≤ 9223372036854775807) (a3 : Int) (_ : -9223372036854775808 ≤ a3 ∧ a3 ≤ 9223372036854775807) (t : Tv) (T : Tab) (ht : TabR W W.heap.size t T) :
    Calls Tryd.prog 11 #[v, u, .int .i64 a1, .int .i64 a2, .int .i64 a3, t.val] W fun e W' => e = .returned (.bool true) ∧ Below W.heap.size W W' := OrderErrors_go W hg v xs hv u ms hu a1 a2 a3 t T ht
end Go.Proofs.YtneinkpfhkojgaaDoor
/-
  A drawn region by what holds of each slot: values, sequences that have a property, tables that have one.
-/
namespace Go.Proofs.YtneinkpfhkojgaaDoor
open Go.RowKit ND

/-- What is said of a slot. -/
inductive SpecQ where
  | val (v : Value)
  | lst (p : List Int → Prop)
  | tab (p : Tab → Prop)
  | two (n : Int) (p : List Int → Prop)
def SpecQ.ok : SpecQ → Value → World → Prop
  | .val u, v, _ => v = u
  | .lst p, v, w => ∃ ys, Ints w w.heap.size .i64 v ys ∧ p ys
  | .tab p, v, w => ∃ (t : Tv) (T : Tab), v = t.val ∧ TabR w w.heap.size t T ∧ p T
  | .two n p, v, w => ∃ u ys, v = .tuple #[u, .int .i64 n] ∧ Ints w w.heap.size .i64 u ys ∧ p ys
def RQ (specs : List SpecQ) (i : Nat) (v : Value) (w : World) : Prop := ∀ s, specs[i]? = some s → s.ok v w
theorem SpecQ.later {s : SpecQ} {v : Value} {w w' : World} (h : s.ok v w) (hb : Below w.heap.size w w') : s.ok v w' := by
  cases s with
  | val u => exact h
  | lst p => obtain ⟨ys, h1, h2⟩ := h; exact ⟨ys, h1.later hb, h2⟩
  | tab p => obtain ⟨t, T, e, h1, h2⟩ := h; exact ⟨t, T, e, h1.later hb, h2⟩
  | two n p => obtain ⟨u, ys, e, h1, h2⟩ := h; exact ⟨u, ys, e, h1.later hb, h2⟩
theorem RQ.later {specs : List SpecQ} {i : Nat} {v : Value} {w w' : World} (h : RQ specs i v w) (hb : Below w.heap.size w w') : RQ specs i v w' := fun s hs => SpecQ.later (h s hs) hb

/-- The obligation of one operation. -/
def ObQ (P : Program) (ops : Array Oper) (n : Nat) (ds : List Deferred) (fixed : List (Tmp × Value)) (C : World → Prop) (specs : List SpecQ) (Q : Exit → Act → World → Prop) (i : Nat) (o : Oper) : Prop :=
  ∀ a w, C w → FS n ds fixed a → Deps .any ops (RQ specs) o a w → ∀ K : Act → World → Prop, (∀ v w', RQ specs i v w' → C w' → Below w.heap.size w w' → K (a.put o.dst v) w') →
    if Region.wanted o (yielded ops a.tmps) = true then o.wp P a w K Q else K (a.put o.dst undef) w

theorem dep_q {ops : Array Oper} {specs : List SpecQ} {k : Nat} {o : Oper} {a : Act} {w : World} (ho : ops[k]? = some o) (hd : Deps .any ops (RQ specs) o a w) (j : Nat) (d : Tmp) (s : SpecQ)
    (h1 : ((ops[k]?).map fun o => o.after.any fun e => Region.binds .any e && e.on == j) = some true) (h2 : ((ops[j]?).map (·.dst)) = some (some d)) (h3 : specs[j]? = some s) : ∃ v, a.tmps[d]? = some v ∧ s.ok v w := by
  have h4 := get_op (fun o => o.after.any fun e => Region.binds .any e && e.on == j) ho h1
  obtain ⟨e, he, hb⟩ := Array.any_eq_true'.1 h4
  rw [Bool.and_eq_true, beq_iff_eq] at hb
  cases hj : ops[j]? with
  | none => rw [hj] at h2; cases h2
  | some oj =>
    rw [hj] at h2
    obtain ⟨v, hv, hr⟩ := hd e he hb.1 oj d (by rw [hb.2, hj]) (by simpa using h2)
    exact ⟨v, hv, hr s (by rw [hb.2]; exact h3)⟩

theorem rq_of {specs : List SpecQ} {k : Nat} {s0 : SpecQ} {v : Value} {w : World} (h : specs[k]? = some s0) (hok : s0.ok v w) : RQ specs k v w := fun s hs => by
  rw [h] at hs; cases hs; exact hok
theorem end_q {ops : Array Oper} {specs : List SpecQ} {a : Act} {w : World} (hr : ∀ (i : Nat) (o : Oper) (d : Tmp), ops[i]? = some o → o.dst = some d → ∃ v, a.tmps[d]? = some v ∧ RQ specs i v w) (i : Nat) (d : Tmp) (s : SpecQ)
    (h2 : ((ops[i]?).map (·.dst)) = some (some d)) (h3 : specs[i]? = some s) : ∃ v, a.tmps[d]? = some v ∧ s.ok v w := by
  cases hj : ops[i]? with
  | none => rw [hj] at h2; cases h2
  | some oj =>
    rw [hj] at h2
    obtain ⟨v, hv, h⟩ := hr i oj d hj (by simpa using h2)
    exact ⟨v, hv, h s h3⟩

theorem wp_region_q {P : Program} {id n : Nat} {ops : Array Oper} {Q : Exit → Act → World → Prop} {a : Act} {w : World} {ds : List Deferred} {fixed : List (Tmp × Value)} {C : World → Prop} {specs : List SpecQ} (hm : P.follows .mixedOrders = true)
    (hck : checksB ops n (fixed.map (·.1)) = true) (hf : FS n ds fixed a) (hc : C w.drew)
    (hob : ∀ (i : Nat) (o : Oper), ops[i]? = some o → ObQ P ops n ds fixed C specs Q i o)
    (hend : ∀ a w, C w → FS n ds fixed a → (∀ (i : Nat) (o : Oper) (d : Tmp), ops[i]? = some o → o.dst = some d → ∃ v, a.tmps[d]? = some v ∧ RQ specs i v w) → Q .normal a w) : (Code.region id ops true).wp P Q a w := by
  unfold checksB at hck
  rw [Bool.and_eq_true, Bool.and_eq_true, List.all_eq_true] at hck
  obtain ⟨⟨h1, h2⟩, h3⟩ := hck
  have hat : ∀ {i : Nat} {o : Oper}, ops[i]? = some o → ops.toList[i]? = some o := fun h => by simpa using h
  have hin : ∀ {i : Nat} {o : Oper} {d : Tmp}, ops[i]? = some o → o.dst = some d → d < n ∧ d ∉ fixed.map (·.1) := fun h hd => by
    have := h3 _ (List.mem_of_getElem? (hat h))
    rw [hd] at this
    simpa using this
  refine wp_region_any hm (wpAny_inv (F := FS n ds fixed) (C := C) (R := RQ specs) ?_ ?_ ?_ ?_ (fun i v w w' h hb => RQ.later h hb) ?_ hend _ _ _ _ ⟨by simp, hc, hf, fun i o d _ hl _ => ?_⟩ ?_)
  · intro i o ho e he _
    have := lowB_at h1 (hat ho) e he
    omega
  · intro i j o o' d hi hj hij hd hd'
    have hi' : (ops.toList.map (·.dst))[i]? = some (some d) := by rw [List.getElem?_map, hat hi]; simp [hd]
    have hj' : (ops.toList.map (·.dst))[j]? = some (some d) := by rw [List.getElem?_map, hat hj]; simp [hd']
    rcases Nat.lt_or_gt_of_ne hij with h | h
    · exact nodupB_at h2 h hi' hj'
    · exact nodupB_at h2 h hj' hi'
  · intro i o a v ho ⟨q1, q2, q3⟩
    cases hd : o.dst with
    | none => exact ⟨q1, q2, q3⟩
    | some d =>
      obtain ⟨_, hn⟩ := hin ho hd
      refine ⟨by simpa [Act.put] using q1, q2, fun p hp => ?_⟩
      have hne : d ≠ p.1 := fun e => hn (e ▸ List.mem_map_of_mem hp)
      simp [Act.put, hne, q3 p hp]
  · intro i o d a ho hd hf
    rw [hf.1]; exact (hin ho hd).1
  · intro i o ho a w hc hf hd K hK
    refine hob i o ho a w hc hf hd K fun v w' hr hc' hb => hK v w' (fun _ _ => hr) hc' hb
  · rw [Array.getD_eq_getD_getElem?, Array.getElem?_replicate] at hl
    split at hl <;> simp at hl
  · unfold unl
    exact Nat.le_trans List.countP_le_length (by simp)

section
variable {P : Program} {f : FuncId} {tys : Array TypeId} {a : Act} {o : Oper} {w : World}
theorem enter0 (ho : o.op = .call { callee := .value (.func f), args := #[], argTypes := tys })
    (eg : ∀ args w, (callFunc f args).run P w = .ok (.enter f args) w) : (execOp a.eval o).run P w = .ok (.enter f #[]) w := by
  unfold execOp
  rw [ho]
  have hf : a.eval (.func f) = .func (.func f) #[] #[] := rfl
  simp [resolve, invoke, Deferred.ofValue, hf, eg]
theorem enter1 {x : Operand} {vx : Value} (ho : o.op = .call { callee := .value (.func f), args := #[x], argTypes := tys }) (hx : a.eval x = vx)
    (eg : ∀ args w, (callFunc f args).run P w = .ok (.enter f args) w) : (execOp a.eval o).run P w = .ok (.enter f #[vx]) w := by
  unfold execOp
  rw [ho]
  have hf : a.eval (.func f) = .func (.func f) #[] #[] := rfl
  simp [resolve, invoke, Deferred.ofValue, hx, hf, eg]
theorem enter3 {x y z : Operand} {vx vy vz : Value} (ho : o.op = .call { callee := .value (.func f), args := #[x, y, z], argTypes := tys }) (hx : a.eval x = vx) (hy : a.eval y = vy) (hz : a.eval z = vz)
    (eg : ∀ args w, (callFunc f args).run P w = .ok (.enter f args) w) : (execOp a.eval o).run P w = .ok (.enter f #[vx, vy, vz]) w := by
  unfold execOp
  rw [ho]
  have hf : a.eval (.func f) = .func (.func f) #[] #[] := rfl
  simp [resolve, invoke, Deferred.ofValue, hx, hy, hz, hf, eg]
theorem enter4 {x y z q : Operand} {vx vy vz vq : Value} (ho : o.op = .call { callee := .value (.func f), args := #[x, y, z, q], argTypes := tys }) (hx : a.eval x = vx) (hy : a.eval y = vy) (hz : a.eval z = vz) (hq : a.eval q = vq)
    (eg : ∀ args w, (callFunc f args).run P w = .ok (.enter f args) w) : (execOp a.eval o).run P w = .ok (.enter f #[vx, vy, vz, vq]) w := by
  unfold execOp
  rw [ho]
  have hf : a.eval (.func f) = .func (.func f) #[] #[] := rfl
  simp [resolve, invoke, Deferred.ofValue, hx, hy, hz, hq, hf, eg]
end
theorem unwanted_at {ops : Array Oper} {k g : Nat} {b c : Bool} {o : Oper} {a : Act} {d : Tmp} {v : Value} (ho : ops[k]? = some o) (hg : ((ops[k]?).map (·.guard)) = some (some (g, b))) (h2 : ((ops[g]?).map (·.dst)) = some (some d)) (hv : a.tmps[d]? = some v) (he : v = .bool c) (hc : c ≠ b) : ¬ Region.wanted o (yielded ops a.tmps) = true := by
  subst he
  cases hj : ops[g]? with
  | none => rw [hj] at h2; cases h2
  | some og =>
    rw [hj] at h2
    have hd : og.dst = some d := by simpa using h2
    have hgo := get_op (·.guard) ho hg
    cases b <;> cases c <;> first | exact absurd rfl hc | simp [Region.wanted, hgo, yielded, hj, hd, hv]
end Go.Proofs.YtneinkpfhkojgaaDoor
/-
  The walk through the law OrderMade.
-/
namespace Go.Proofs.YtneinkpfhkojgaaDoor
open Go.RowKit ND

/-- What holds ahead of region 2. -/
structure made6Ctx (w0 : World) (b : Nat) (t : Tv) (T : Tab) (vm : Value) (ms : List Int) (vr : Value) (rs : List Int) : Prop where
  tb : Tbl w0 b t T
  g : Glob w0
  m : Ints w0 w0.heap.size .i64 vm ms
  r : Ints w0 w0.heap.size .i64 vr rs
def made6Specs (t : Tv) (vm : Value) (vr : Value) : List SpecQ := [.val (.bool true), .val (.bool true), .val t.val, .val vm, .lst (fun _ => True), .val (.bool true), .val (.bool true), .val (.bool true), .val t.val, .val vm, .lst (fun _ => True), .val (.bool true), .val (.bool true), .val (.bool true), .val t.val, .val vr, .val (.bool true), .val (.bool true), .val (.bool true)]
def made6Fixed (b : Nat) (vm : Value) (vr : Value) : List (Tmp × Value) := [(1, vm), (2, vr), (7, .pointer (some ⟨b, 0, none⟩))]
def made6C (w0 w : World) : Prop := Below w0.heap.size w0 w
def made6Ob (w0 : World) (b : Nat) (t : Tv) (vm : Value) (vr : Value) (Q : Exit → Act → World → Prop) (k : Nat) : Prop :=
  ∀ o, (opsAt Tryd.f10 2)[k]? = some o → ObQ Tryd.prog (opsAt Tryd.f10 2) 28 [] (made6Fixed b vm vr) (made6C w0) (made6Specs t vm vr) Q k o
section
variable {w0 : World} {b : Nat} {t : Tv} {T : Tab} {vm : Value} {ms : List Int} {vr : Value} {rs : List Int} {Q : Exit → Act → World → Prop}
theorem made6_ob0 (H : made6Ctx w0 b t T vm ms vr rs) : made6Ob w0 b t vm vr Q 0 := by
  intro o ho a w hb hf hd K hK
  rw [if_pos (wanted_none _ (get_op (·.guard) ho (by kernel_rfl)))]
  refine ob_enter (enter0 (tys := #[]) (get_op (·.op) ho (by kernel_rfl)) (fun args w => enters_of Tryd.func16 (by kernel_rfl) rfl args w)) (awake6 w (H.g.later hb)) fun e w' ⟨he, h1⟩ => ⟨_, he, ?_⟩
  exact hK _ _ (rq_of rfl rfl) (below_next hb h1) h1
theorem made6_ob1 : made6Ob w0 b t vm vr Q 1 := by
  intro o ho a w hb hf hd K hK
  rw [if_pos (wanted_none _ (get_op (·.guard) ho (by kernel_rfl)))]
  obtain ⟨v0, h0, e0⟩ := dep_q ho hd 0 10 (.val (.bool true)) (by kernel_rfl) (by kernel_rfl) rfl
  obtain rfl : v0 = _ := e0
  exact ob_move (get_op (·.op) ho (by kernel_rfl)) (eval_tmp h0) (hK _ _ (rq_of rfl rfl) hb (Below.refl _ _))
theorem made6_ob2 (H : made6Ctx w0 b t T vm ms vr rs) : made6Ob w0 b t vm vr Q 2 := by
  intro o ho a w hb hf hd K hK
  obtain ⟨v1, h1, e1⟩ := dep_q ho hd 1 11 (.val (.bool true)) (by kernel_rfl) (by kernel_rfl) rfl
  obtain rfl : v1 = _ := e1
  rw [if_pos (wanted_at (g := 1) (b := true) ho (by kernel_rfl) (by kernel_rfl) h1 rfl)]
  exact ob_value (load_tab (H.tb.later hb) (get_op (·.op) ho (by kernel_rfl)) (eval_tmp (hf.2.2 (7, _) (by simp [made6Fixed])))) (hK _ _ (rq_of rfl rfl) hb (Below.refl _ _))
theorem made6_ob3 : made6Ob w0 b t vm vr Q 3 := by
  intro o ho a w hb hf hd K hK
  obtain ⟨v1, h1, e1⟩ := dep_q ho hd 1 11 (.val (.bool true)) (by kernel_rfl) (by kernel_rfl) rfl
  obtain rfl : v1 = _ := e1
  rw [if_pos (wanted_at (g := 1) (b := true) ho (by kernel_rfl) (by kernel_rfl) h1 rfl)]
  exact ob_move (get_op (·.op) ho (by kernel_rfl)) (eval_tmp (hf.2.2 (1, _) (by simp [made6Fixed]))) (hK _ _ (rq_of rfl rfl) hb (Below.refl _ _))
theorem made6_ob4 (H : made6Ctx w0 b t T vm ms vr rs) : made6Ob w0 b t vm vr Q 4 := by
  intro o ho a w hb hf hd K hK
  obtain ⟨v1, h1, e1⟩ := dep_q ho hd 1 11 (.val (.bool true)) (by kernel_rfl) (by kernel_rfl) rfl
  obtain rfl : v1 = _ := e1
  rw [if_pos (wanted_at (g := 1) (b := true) ho (by kernel_rfl) (by kernel_rfl) h1 rfl)]
  obtain ⟨v3, h3, e3⟩ := dep_q ho hd 3 13 (.val vm) (by kernel_rfl) (by kernel_rfl) rfl
  obtain rfl : v3 = _ := e3
  refine ob_enter (enter1 (tys := #[22]) (x := .tmp 13) (get_op (·.op) ho (by kernel_rfl)) (eval_tmp h3) (fun args w => enters_of Tryd.func15 (by kernel_rfl) rfl args w)) (marks_any w _ ms (H.m.later hb)) fun e w' ⟨v, ys, he, h2, _, _, h1, _⟩ => ⟨v, he, ?_⟩
  exact hK _ _ (rq_of rfl ⟨ys, Ints.of_own h2, trivial⟩) (below_next hb h1) h1
theorem made6_ob5 (H : made6Ctx w0 b t T vm ms vr rs) : made6Ob w0 b t vm vr Q 5 := by
  intro o ho a w hb hf hd K hK
  obtain ⟨v1, h1, e1⟩ := dep_q ho hd 1 11 (.val (.bool true)) (by kernel_rfl) (by kernel_rfl) rfl
  obtain rfl : v1 = _ := e1
  rw [if_pos (wanted_at (g := 1) (b := true) ho (by kernel_rfl) (by kernel_rfl) h1 rfl)]
  obtain ⟨v2, h2, e2⟩ := dep_q ho hd 2 12 (.val t.val) (by kernel_rfl) (by kernel_rfl) rfl
  obtain rfl : v2 = _ := e2
  obtain ⟨v4, h4, e4⟩ := dep_q ho hd 4 14 (.lst (fun _ => True)) (by kernel_rfl) (by kernel_rfl) rfl
  obtain ⟨ys4, hi4, _⟩ := e4
  refine ob_enter (enter2 (tys := #[26, 22]) (x := .tmp 12) (y := .tmp 14) (get_op (·.op) ho (by kernel_rfl)) (eval_tmp h2) (eval_tmp h4) (fun args w => enters_of Tryd.func27 (by kernel_rfl) rfl args w)) (agrees6_any t T _ _ w (H.tb.later hb).2 (H.g.later hb) hi4) fun e w' ⟨he, h1⟩ => ⟨_, he, ?_⟩
  exact hK _ _ (rq_of rfl rfl) (below_next hb h1) h1
theorem made6_ob6 : made6Ob w0 b t vm vr Q 6 := by
  intro o ho a w hb hf hd K hK
  rw [if_pos (wanted_none _ (get_op (·.guard) ho (by kernel_rfl)))]
  obtain ⟨v1, h1, e1⟩ := dep_q ho hd 1 11 (.val (.bool true)) (by kernel_rfl) (by kernel_rfl) rfl
  obtain rfl : v1 = _ := e1
  obtain ⟨v5, h5, e5⟩ := dep_q ho hd 5 15 (.val (.bool true)) (by kernel_rfl) (by kernel_rfl) rfl
  obtain rfl : v5 = _ := e5
  exact ob_pick (c := .tmp 11) (x := .tmp 15) (y := .const (.bool false)) (b := true) (get_op (·.op) ho (by kernel_rfl)) (eval_tmp h1) (eval_tmp h5) (hK _ _ (rq_of rfl rfl) hb (Below.refl _ _))
theorem made6_ob7 : made6Ob w0 b t vm vr Q 7 := by
  intro o ho a w hb hf hd K hK
  rw [if_pos (wanted_none _ (get_op (·.guard) ho (by kernel_rfl)))]
  obtain ⟨v6, h6, e6⟩ := dep_q ho hd 6 16 (.val (.bool true)) (by kernel_rfl) (by kernel_rfl) rfl
  obtain rfl : v6 = _ := e6
  exact ob_move (get_op (·.op) ho (by kernel_rfl)) (eval_tmp h6) (hK _ _ (rq_of rfl rfl) hb (Below.refl _ _))
theorem made6_ob8 (H : made6Ctx w0 b t T vm ms vr rs) : made6Ob w0 b t vm vr Q 8 := by
  intro o ho a w hb hf hd K hK
  obtain ⟨v7, h7, e7⟩ := dep_q ho hd 7 17 (.val (.bool true)) (by kernel_rfl) (by kernel_rfl) rfl
  obtain rfl : v7 = _ := e7
  rw [if_pos (wanted_at (g := 7) (b := true) ho (by kernel_rfl) (by kernel_rfl) h7 rfl)]
  exact ob_value (load_tab (H.tb.later hb) (get_op (·.op) ho (by kernel_rfl)) (eval_tmp (hf.2.2 (7, _) (by simp [made6Fixed])))) (hK _ _ (rq_of rfl rfl) hb (Below.refl _ _))
theorem made6_ob9 : made6Ob w0 b t vm vr Q 9 := by
  intro o ho a w hb hf hd K hK
  obtain ⟨v7, h7, e7⟩ := dep_q ho hd 7 17 (.val (.bool true)) (by kernel_rfl) (by kernel_rfl) rfl
  obtain rfl : v7 = _ := e7
  rw [if_pos (wanted_at (g := 7) (b := true) ho (by kernel_rfl) (by kernel_rfl) h7 rfl)]
  exact ob_move (get_op (·.op) ho (by kernel_rfl)) (eval_tmp (hf.2.2 (1, _) (by simp [made6Fixed]))) (hK _ _ (rq_of rfl rfl) hb (Below.refl _ _))
theorem made6_ob10 (H : made6Ctx w0 b t T vm ms vr rs) : made6Ob w0 b t vm vr Q 10 := by
  intro o ho a w hb hf hd K hK
  obtain ⟨v7, h7, e7⟩ := dep_q ho hd 7 17 (.val (.bool true)) (by kernel_rfl) (by kernel_rfl) rfl
  obtain rfl : v7 = _ := e7
  rw [if_pos (wanted_at (g := 7) (b := true) ho (by kernel_rfl) (by kernel_rfl) h7 rfl)]
  obtain ⟨v9, h9, e9⟩ := dep_q ho hd 9 19 (.val vm) (by kernel_rfl) (by kernel_rfl) rfl
  obtain rfl : v9 = _ := e9
  refine ob_enter (enter1 (tys := #[22]) (x := .tmp 19) (get_op (·.op) ho (by kernel_rfl)) (eval_tmp h9) (fun args w => enters_of Tryd.func25 (by kernel_rfl) rfl args w)) (points_any w _ ms (H.m.later hb)) fun e w' ⟨v, ys, he, h2, _, _, h1⟩ => ⟨v, he, ?_⟩
  exact hK _ _ (rq_of rfl ⟨ys, h2, trivial⟩) (below_next hb h1) h1
theorem made6_ob11 (H : made6Ctx w0 b t T vm ms vr rs) : made6Ob w0 b t vm vr Q 11 := by
  intro o ho a w hb hf hd K hK
  obtain ⟨v7, h7, e7⟩ := dep_q ho hd 7 17 (.val (.bool true)) (by kernel_rfl) (by kernel_rfl) rfl
  obtain rfl : v7 = _ := e7
  rw [if_pos (wanted_at (g := 7) (b := true) ho (by kernel_rfl) (by kernel_rfl) h7 rfl)]
  obtain ⟨v8, h8, e8⟩ := dep_q ho hd 8 18 (.val t.val) (by kernel_rfl) (by kernel_rfl) rfl
  obtain rfl : v8 = _ := e8
  obtain ⟨v10, h10, e10⟩ := dep_q ho hd 10 20 (.lst (fun _ => True)) (by kernel_rfl) (by kernel_rfl) rfl
  obtain ⟨ys10, hi10, _⟩ := e10
  refine ob_enter (enter2 (tys := #[26, 22]) (x := .tmp 18) (y := .tmp 20) (get_op (·.op) ho (by kernel_rfl)) (eval_tmp h8) (eval_tmp h10) (fun args w => enters_of Tryd.func27 (by kernel_rfl) rfl args w)) (agrees6_any t T _ _ w (H.tb.later hb).2 (H.g.later hb) hi10) fun e w' ⟨he, h1⟩ => ⟨_, he, ?_⟩
  exact hK _ _ (rq_of rfl rfl) (below_next hb h1) h1
theorem made6_ob12 : made6Ob w0 b t vm vr Q 12 := by
  intro o ho a w hb hf hd K hK
  rw [if_pos (wanted_none _ (get_op (·.guard) ho (by kernel_rfl)))]
  obtain ⟨v7, h7, e7⟩ := dep_q ho hd 7 17 (.val (.bool true)) (by kernel_rfl) (by kernel_rfl) rfl
  obtain rfl : v7 = _ := e7
  obtain ⟨v11, h11, e11⟩ := dep_q ho hd 11 21 (.val (.bool true)) (by kernel_rfl) (by kernel_rfl) rfl
  obtain rfl : v11 = _ := e11
  exact ob_pick (c := .tmp 17) (x := .tmp 21) (y := .const (.bool false)) (b := true) (get_op (·.op) ho (by kernel_rfl)) (eval_tmp h7) (eval_tmp h11) (hK _ _ (rq_of rfl rfl) hb (Below.refl _ _))
theorem made6_ob13 : made6Ob w0 b t vm vr Q 13 := by
  intro o ho a w hb hf hd K hK
  rw [if_pos (wanted_none _ (get_op (·.guard) ho (by kernel_rfl)))]
  obtain ⟨v12, h12, e12⟩ := dep_q ho hd 12 22 (.val (.bool true)) (by kernel_rfl) (by kernel_rfl) rfl
  obtain rfl : v12 = _ := e12
  exact ob_move (get_op (·.op) ho (by kernel_rfl)) (eval_tmp h12) (hK _ _ (rq_of rfl rfl) hb (Below.refl _ _))
theorem made6_ob14 (H : made6Ctx w0 b t T vm ms vr rs) : made6Ob w0 b t vm vr Q 14 := by
  intro o ho a w hb hf hd K hK
  obtain ⟨v13, h13, e13⟩ := dep_q ho hd 13 23 (.val (.bool true)) (by kernel_rfl) (by kernel_rfl) rfl
  obtain rfl : v13 = _ := e13
  rw [if_pos (wanted_at (g := 13) (b := true) ho (by kernel_rfl) (by kernel_rfl) h13 rfl)]
  exact ob_value (load_tab (H.tb.later hb) (get_op (·.op) ho (by kernel_rfl)) (eval_tmp (hf.2.2 (7, _) (by simp [made6Fixed])))) (hK _ _ (rq_of rfl rfl) hb (Below.refl _ _))
theorem made6_ob15 : made6Ob w0 b t vm vr Q 15 := by
  intro o ho a w hb hf hd K hK
  obtain ⟨v13, h13, e13⟩ := dep_q ho hd 13 23 (.val (.bool true)) (by kernel_rfl) (by kernel_rfl) rfl
  obtain rfl : v13 = _ := e13
  rw [if_pos (wanted_at (g := 13) (b := true) ho (by kernel_rfl) (by kernel_rfl) h13 rfl)]
  exact ob_move (get_op (·.op) ho (by kernel_rfl)) (eval_tmp (hf.2.2 (2, _) (by simp [made6Fixed]))) (hK _ _ (rq_of rfl rfl) hb (Below.refl _ _))
theorem made6_ob16 (H : made6Ctx w0 b t T vm ms vr rs) : made6Ob w0 b t vm vr Q 16 := by
  intro o ho a w hb hf hd K hK
  obtain ⟨v13, h13, e13⟩ := dep_q ho hd 13 23 (.val (.bool true)) (by kernel_rfl) (by kernel_rfl) rfl
  obtain rfl : v13 = _ := e13
  rw [if_pos (wanted_at (g := 13) (b := true) ho (by kernel_rfl) (by kernel_rfl) h13 rfl)]
  obtain ⟨v14, h14, e14⟩ := dep_q ho hd 14 24 (.val t.val) (by kernel_rfl) (by kernel_rfl) rfl
  obtain rfl : v14 = _ := e14
  obtain ⟨v15, h15, e15⟩ := dep_q ho hd 15 25 (.val vr) (by kernel_rfl) (by kernel_rfl) rfl
  obtain rfl : v15 = _ := e15
  refine ob_enter (enter2 (tys := #[26, 22]) (x := .tmp 24) (y := .tmp 25) (get_op (·.op) ho (by kernel_rfl)) (eval_tmp h14) (eval_tmp h15) (fun args w => enters_of Tryd.func27 (by kernel_rfl) rfl args w)) (agrees6_any t T _ _ w (H.tb.later hb).2 (H.g.later hb) (H.r.later hb)) fun e w' ⟨he, h1⟩ => ⟨_, he, ?_⟩
  exact hK _ _ (rq_of rfl rfl) (below_next hb h1) h1
theorem made6_ob17 : made6Ob w0 b t vm vr Q 17 := by
  intro o ho a w hb hf hd K hK
  rw [if_pos (wanted_none _ (get_op (·.guard) ho (by kernel_rfl)))]
  obtain ⟨v13, h13, e13⟩ := dep_q ho hd 13 23 (.val (.bool true)) (by kernel_rfl) (by kernel_rfl) rfl
  obtain rfl : v13 = _ := e13
  obtain ⟨v16, h16, e16⟩ := dep_q ho hd 16 26 (.val (.bool true)) (by kernel_rfl) (by kernel_rfl) rfl
  obtain rfl : v16 = _ := e16
  exact ob_pick (c := .tmp 23) (x := .tmp 26) (y := .const (.bool false)) (b := true) (get_op (·.op) ho (by kernel_rfl)) (eval_tmp h13) (eval_tmp h16) (hK _ _ (rq_of rfl rfl) hb (Below.refl _ _))
theorem made6_ob18 : made6Ob w0 b t vm vr Q 18 := by
  intro o ho a w hb hf hd K hK
  rw [if_pos (wanted_none _ (get_op (·.guard) ho (by kernel_rfl)))]
  obtain ⟨v17, h17, e17⟩ := dep_q ho hd 17 27 (.val (.bool true)) (by kernel_rfl) (by kernel_rfl) rfl
  obtain rfl : v17 = _ := e17
  exact ob_assign (get_op (·.op) ho (by kernel_rfl)) (eval_tmp h17) (hK _ _ (rq_of rfl rfl) hb (Below.refl _ _))
theorem made6_obs (H : made6Ctx w0 b t T vm ms vr rs) (k : Nat) (hk : k < 19) : made6Ob w0 b t vm vr Q k := by
  match k, hk with
  | 0, _ => exact made6_ob0 H
  | 1, _ => exact made6_ob1
  | 2, _ => exact made6_ob2 H
  | 3, _ => exact made6_ob3
  | 4, _ => exact made6_ob4 H
  | 5, _ => exact made6_ob5 H
  | 6, _ => exact made6_ob6
  | 7, _ => exact made6_ob7
  | 8, _ => exact made6_ob8 H
  | 9, _ => exact made6_ob9
  | 10, _ => exact made6_ob10 H
  | 11, _ => exact made6_ob11 H
  | 12, _ => exact made6_ob12
  | 13, _ => exact made6_ob13
  | 14, _ => exact made6_ob14 H
  | 15, _ => exact made6_ob15
  | 16, _ => exact made6_ob16 H
  | 17, _ => exact made6_ob17
  | 18, _ => exact made6_ob18
  | m + 19, h => exact absurd h (by omega)
theorem made6_region {a : Act} (H : made6Ctx w0 b t T vm ms vr rs) (hf : FS 28 [] (made6Fixed b vm vr) a)
    (hend : ∀ a w, Below w0.heap.size w0 w → a.defers = [] → a.tmps[6]? = some (.bool true) → Q .normal a w) : (Code.region 2 (opsAt Tryd.f10 2) true).wp Tryd.prog Q a w0 := by
  refine wp_region_q (n := 28) (ds := []) (fixed := made6Fixed b vm vr) (C := made6C w0) (specs := made6Specs t vm vr) (by kernel_rfl) (by kernel_rfl) hf ((Below.refl _ _).drew) (fun i o ho => made6_obs H i ?_ o ho) ?_
  · have := (Array.getElem?_eq_some_iff.1 ho).1
    have hn : (opsAt Tryd.f10 2).size = 19 := by kernel_rfl
    omega
  · intro a w' hc hf hr
    obtain ⟨v, hv, hs⟩ := end_q hr 18 6 (.val (.bool true)) (by kernel_rfl) rfl
    obtain rfl : v = .bool true := hs
    exact hend a w' hc hf.2.1 hv
end

set_option maxRecDepth 100000 in
set_option maxHeartbeats 4000000 in
theorem OrderMade_go (W : World) (hg : Glob W) (v : Value) (xs : List Int) (hv : Ints W W.heap.size .i64 v xs) (vm : Value) (ms : List Int) (hm : Ints W W.heap.size .i64 vm ms) (vr : Value) (rs : List Int) (hr : Ints W W.heap.size .i64 vr rs) :
    Calls Tryd.prog 10 #[v, vm, vr] W fun e W' => e = .returned (.bool true) ∧ Below W.heap.size W W' := by
  have HG := Lib.hid hg
  have HM := Lib.hid hm
  have HR := Lib.hid hr
  obtain ⟨Ax, cx, rfl, _⟩ := id hv
  have HT := Lib.hid (keepTables_any W _ xs hv)
  clear hv hg hm hr
  go_enter Tryd.func10, Tryd.ntmps10
  go_upto_region 2 with (go_at_call 14; refine HT.out.mono ?_; rintro e w1 ⟨t, T, rfl, ht1, _, hb1⟩; obtain ⟨A0, A1, A2, A3, A4, A5, A6, A7, A8, A9, A10, A11, k0, k1, k2, k3, k4, k5, k6, k7, k8, k9, k10, k11, rfl⟩ := ht1.shape; have HT1 := Lib.hid ht1; have HB1 := Lib.hid hb1; clear ht1 hb1)
  obtain ⟨t, ht, htb⟩ := Tbl.new HT1.out
  have HT2 := Lib.hid htb
  have HB2 := Lib.hid (HB1.out.alloc HB1.out.size (.cells #[.slice A0 T.category.length k0, .slice A1 T.cls.length k1, .slice A2 T.joining.length k2, .slice A3 T.bidi.length k3, .slice A4 T.script.length k4, .slice A5 T.status.length k5, .slice A6 T.ignorable.length k6, .slice A7 T.extensions.length k7, .slice A8 T.maps.length k8, .slice A9 T.decomps.length k9, .slice A10 T.excluded.length k10, .slice A11 T.prototypes.length k11] 26))
  clear htb HT1 HT
  generalize w1.alloc (.cells #[.slice A0 T.category.length k0, .slice A1 T.cls.length k1, .slice A2 T.joining.length k2, .slice A3 T.bidi.length k3, .slice A4 T.script.length k4, .slice A5 T.status.length k5, .slice A6 T.ignorable.length k6, .slice A7 T.extensions.length k7, .slice A8 T.maps.length k8, .slice A9 T.decomps.length k9, .slice A10 T.excluded.length k10, .slice A11 T.prototypes.length k11] 26) = w2 at *
  generalize w1.heap.size = tb at *
  clear ht
  refine wp_region_as (ops := (opsAt Tryd.f10 2)) (by kernel_rfl) ?_
  refine made6_region (b := tb) (t := t) (T := T) (vm := vm) (ms := ms) (vr := vr) (rs := rs) ⟨HT2.out, HG.out.later HB2.out, HM.out.later HB2.out, HR.out.later HB2.out⟩ ⟨rfl, rfl, by intro p hp; simp [made6Fixed] at hp; rcases hp with rfl | rfl | rfl <;> rfl⟩ ?_
  intro a w' hc hf hv
  rename_i K hK
  refine hK a w' ?_
  go_wp2
  exact bodyPost_ret (v := .bool true) (by simp [results, Tryd.results10, hv]) hf ⟨rfl, below_next HB2.out hc⟩
theorem OrderMade_walk (W : World) (hg : Glob W) (v : Value) (xs : List Int) (hv : Ints W W.heap.size .i64 v xs) (_ : ∀ x ∈ xs, -9223372036854775808 ≤ x ∧ x ≤ 9223372036854775807) (_ : xs.length * 8 ≤ 140737488351232) (vm : Value) (ms : List Int) (hm : Ints W W.heap.size .i64 vm ms) (_ : ∀ x ∈ ms, -9223372036854775808 ≤ x ∧ x ≤ 9223372036854775807) (_ : ms.length * 8 ≤ 140737488351232) (vr : Value) (rs : List Int) (hr : Ints W W.heap.size .i64 vr rs) (_ : ∀ x ∈ rs, -9223372036854775808 ≤ x ∧ x ≤ 9223372036854775807) (_ : rs.length * 8 ≤ 140737488351232) :
    Calls Tryd.prog 10 #[v, vm, vr] W fun e W' => e = .returned (.bool true) ∧ Below W.heap.size W W' := OrderMade_go W hg v xs hv vm ms hm vr rs hr
end Go.Proofs.YtneinkpfhkojgaaDoor
/-
  A drawn region in which rows of the call's own are appended to, by what holds of each slot.
-/
namespace Go.Proofs.YtneinkpfhkojgaaDoor
open Go.RowKit ND

/-- What is said of a slot: besides values, sequences that lie below B0, sequences, rows of the call's own. -/
inductive SpecK where
  | val (v : Value)
  | low (p : List Int → Prop)
  | lst (p : List Int → Prop)
  | own (ys : List Int)
  | tab (p : Tab → Prop)
  | two (n : Int) (p : List Int → Prop)
  | tri (i n : Int) (p : List Int → Prop)
def SpecK.ok (B0 : Nat) : SpecK → Value → World → Prop
  | .val u, v, _ => v = u
  | .low p, v, w => ∃ ys, Ints w B0 .i64 v ys ∧ p ys
  | .lst p, v, w => ∃ ys, Ints w w.heap.size .i64 v ys ∧ p ys
  | .own ys, v, w => w.ownsRow B0 3 1 v ys.length (ys.map (Value.int .i64))
  | .tab p, v, w => ∃ (t : Tv) (T : Tab), v = t.val ∧ TabR w w.heap.size t T ∧ p T
  | .two n p, v, w => ∃ u ys, v = .tuple #[u, .int .i64 n] ∧ Ints w w.heap.size .i64 u ys ∧ p ys
  | .tri i n p, v, w => ∃ u ys, v = .tuple #[u, .int .i64 i, .int .i64 n] ∧ Ints w w.heap.size .i64 u ys ∧ p ys
def SpecK.mem : SpecK → Bool
  | .val _ => false
  | .low _ => false
  | _ => true
def RK (B0 : Nat) (specs : List SpecK) (i : Nat) (v : Value) (w : World) : Prop := ∀ s, specs[i]? = some s → s.ok B0 v w
/-- The appends consume what lies in memory. -/
def killK (specs : List SpecK) (apps : List Nat) (i j : Nat) : Bool := apps.contains j && (decide (i < j) && match specs[i]? with | some s => s.mem | none => false)
theorem SpecK.later {B0 : Nat} {s : SpecK} {v : Value} {w w' : World} (h : s.ok B0 v w) (hb : Below w.heap.size w w') (hB : B0 ≤ w.heap.size) : s.ok B0 v w' := by
  cases s with
  | val u => exact h
  | low p => obtain ⟨ys, h1, h2⟩ := h; exact ⟨ys, h1.below (hb.mono hB), h2⟩
  | lst p => obtain ⟨ys, h1, h2⟩ := h; exact ⟨ys, h1.later hb, h2⟩
  | own ys => exact own_later h hb
  | tab p => obtain ⟨t, T, e, h1, h2⟩ := h; exact ⟨t, T, e, h1.later hb, h2⟩
  | two n p => obtain ⟨u, ys, e, h1, h2⟩ := h; exact ⟨u, ys, e, h1.later hb, h2⟩
  | tri i n p => obtain ⟨u, ys, e, h1, h2⟩ := h; exact ⟨u, ys, e, h1.later hb, h2⟩
theorem RK.later {B0 : Nat} {specs : List SpecK} {i : Nat} {v : Value} {w w' : World} (h : RK B0 specs i v w) (hb : Below w.heap.size w w') (hB : B0 ≤ w.heap.size) : RK B0 specs i v w' := fun s hs => SpecK.later (h s hs) hb hB
theorem rk_of {B0 : Nat} {specs : List SpecK} {i : Nat} {v : Value} {w : World} {s : SpecK} (hs : specs[i]? = some s) (h : s.ok B0 v w) : RK B0 specs i v w := fun s' hs' => by
  rw [hs] at hs'; cases hs'; exact h

/-- The edges that bind point back. -/
def lowA : Nat → List Oper → Bool
  | _, [] => true
  | k, o :: r => o.after.all (fun e => !Region.binds .any e || decide (e.on < k)) && lowA (k + 1) r
def checksA (ops : Array Oper) (n : Nat) (fx : List Tmp) : Bool :=
  lowA 0 ops.toList && nodupB (ops.toList.map (·.dst)) && ops.toList.all fun o => match o.dst with | some d => decide (d < n) && !fx.contains d | none => true
theorem lowA_at : ∀ {l : List Oper} {k i : Nat} {o : Oper}, lowA k l = true → l[i]? = some o → ∀ e ∈ o.after, Region.binds .any e = true → e.on < k + i := by
  intro l
  induction l with
  | nil => intro k i o _ h; simp at h
  | cons a r ih =>
    intro k i o h hi e he hb
    rw [lowA, Bool.and_eq_true] at h
    cases i with
    | zero =>
      simp only [List.getElem?_cons_zero, Option.some.injEq] at hi
      subst hi
      have := Array.all_eq_true'.1 h.1 e he
      simpa [hb] using this
    | succ i =>
      rw [List.getElem?_cons_succ] at hi
      have := ih h.2 hi e he hb
      omega

/-- The obligation of one operation. -/
def ObL (P : Program) (ops : Array Oper) (n : Nat) (ds : List Deferred) (fixed : List (Tmp × Value)) (kill : Nat → Nat → Bool) (C : Array Bool → World → Prop) (R : Nat → Value → World → Prop) (Q : Exit → Act → World → Prop) (i : Nat) (o : Oper) : Prop :=
  ∀ listed a w, C listed w → listed.size = ops.size → listed.getD i true = false → (∀ (j : Nat) (o : Oper), ops[j]? = some o → listed.getD j false = true → ∀ e ∈ o.after, Region.binds .any e = true → listed.getD e.on false = true) → FS n ds fixed a → DepsK ops kill R listed o a w → ∀ K : Act → World → Prop, (∀ v w', (∀ d, o.dst = some d → R i v w') → C (listed.setIfInBounds i true) w' → (∀ j u, j ≠ i → listed.getD j false = true → kill j i = false → R j u w → R j u w') → K (a.put o.dst v) w') →
    if Region.wanted o (yielded ops a.tmps) = true then o.wp P a w K Q else K (a.put o.dst undef) w

theorem wp_region_killL {P : Program} {id n : Nat} {ops : Array Oper} {Q : Exit → Act → World → Prop} {a : Act} {w : World} {ds : List Deferred} {fixed : List (Tmp × Value)} {kill : Nat → Nat → Bool} {C : Array Bool → World → Prop} {R : Nat → Value → World → Prop} (hm : P.follows .mixedOrders = true)
    (hck : checksA ops n (fixed.map (·.1)) = true) (hf : FS n ds fixed a) (hc : C (Array.replicate ops.size false) w.drew)
    (hob : ∀ (i : Nat) (o : Oper), ops[i]? = some o → ObL P ops n ds fixed kill C R Q i o)
    (hend : ∀ listed a w, (∀ i, i < ops.size → listed.getD i false = true) → C listed w → FS n ds fixed a → (∀ (i : Nat) (o : Oper) (d : Tmp), ops[i]? = some o → (∀ j, kill i j = false) → o.dst = some d → ∃ v, a.tmps[d]? = some v ∧ R i v w) → Q .normal a w) : (Code.region id ops true).wp P Q a w := by
  unfold checksA at hck
  rw [Bool.and_eq_true, Bool.and_eq_true, List.all_eq_true] at hck
  obtain ⟨⟨h1, h2⟩, h3⟩ := hck
  have hat : ∀ {i : Nat} {o : Oper}, ops[i]? = some o → ops.toList[i]? = some o := fun h => by simpa using h
  have hin : ∀ {i : Nat} {o : Oper} {d : Tmp}, ops[i]? = some o → o.dst = some d → d < n ∧ d ∉ fixed.map (·.1) := fun h hd => by
    have := h3 _ (List.mem_of_getElem? (hat h))
    rw [hd] at this
    simpa using this
  have hlow : ∀ (i : Nat) (o : Oper), ops[i]? = some o → ∀ e ∈ o.after, Region.binds .any e = true → e.on < i := fun i o ho e he hb => by
    have := lowA_at h1 (hat ho) e he hb
    omega
  have hdst : ∀ (i j : Nat) (o o' : Oper) (d : Tmp), ops[i]? = some o → ops[j]? = some o' → i ≠ j → o.dst = some d → o'.dst ≠ some d := fun i j o o' d hi hj hij hd hd' => by
    have hi' : (ops.toList.map (·.dst))[i]? = some (some d) := by rw [List.getElem?_map, hat hi]; simp [hd]
    have hj' : (ops.toList.map (·.dst))[j]? = some (some d) := by rw [List.getElem?_map, hat hj]; simp [hd']
    rcases Nat.lt_or_gt_of_ne hij with h | h
    · exact nodupB_at h2 h hi' hj'
    · exact nodupB_at h2 h hj' hi'
  have hF : ∀ (i : Nat) (o : Oper) (a : Act) (v : Value), ops[i]? = some o → FS n ds fixed a → FS n ds fixed (a.put o.dst v) := fun i o a v ho ⟨q1, q2, q3⟩ => by
    cases hd : o.dst with
    | none => exact ⟨q1, q2, q3⟩
    | some d =>
      obtain ⟨_, hn⟩ := hin ho hd
      refine ⟨by simpa [Act.put] using q1, q2, fun p hp => ?_⟩
      have hne : d ≠ p.1 := fun e => hn (e ▸ List.mem_map_of_mem hp)
      simp [Act.put, hne, q3 p hp]
  refine wp_region_any hm (wpAny_ind (I := InvK ops (FS n ds fixed) kill C R) (fun _ _ _ h => h.size) ?_ ?_ _ _ _ _ ⟨by simp, hc, hf, fun j o _ hl => ?_, fun i o d _ hl _ _ => ?_⟩ ?_)
  · intro listed a w h hr
    have hall := ready_nil h.size hlow hr
    refine hend listed a w hall h.c h.f fun i o d ho hk hd => h.r i o d ho (hall i (Array.getElem?_eq_some_iff.1 ho).1) (fun j hj => ?_) hd
    rw [hk j] at hj; cases hj
  · intro listed a w h i hi o ho K hK
    obtain ⟨g1, g2, o', ho', hdep⟩ := ready_spec hi
    rw [ho] at ho'; cases ho'
    refine hob i o ho listed a w h.c h.size g2 h.closed h.f (fun e he hb hk oe d hoe hd => h.r e.on oe d hoe (hdep e he hb) hk hd) K fun v w' hv hc' hst => hK _ _ ⟨by simpa using h.size, hc', hF i o a v ho h.f, fun j oj hj hlj e he hb => ?_, fun j oj d hj hlj hkj hdj => ?_⟩
    · have up : listed.getD e.on false = true → (listed.setIfInBounds i true).getD e.on false = true := fun hl => by
        rw [Array.getD_eq_getD_getElem?, Array.getElem?_setIfInBounds]
        split
        · split <;> simp_all
        · rw [← Array.getD_eq_getD_getElem?]; exact hl
      by_cases hji : j = i
      · subst hji
        rw [ho] at hj; cases hj
        exact up (hdep e he hb)
      · rw [Array.getD_eq_getD_getElem?, Array.getElem?_setIfInBounds, if_neg (Ne.symm hji)] at hlj
        exact up (h.closed j oj hj (by rw [Array.getD_eq_getD_getElem?]; exact hlj) e he hb)
    by_cases hji : j = i
    · subst hji
      rw [ho] at hj; cases hj
      refine ⟨v, ?_, hv d hdj⟩
      rw [hdj]
      simp [Act.put, h.f.1, (hin ho hdj).1]
    · have hlj' : listed.getD j false = true := by
        rw [Array.getD_eq_getD_getElem?, Array.getElem?_setIfInBounds, if_neg (Ne.symm hji)] at hlj
        rw [Array.getD_eq_getD_getElem?]; exact hlj
      have hset : ∀ m, (listed.setIfInBounds i true).getD m true = false → m ≠ i ∧ listed.getD m true = false := fun m hm => by
        rw [Array.getD_eq_getD_getElem?, Array.getElem?_setIfInBounds] at hm
        by_cases e : m = i
        · subst e
          simp [h.size, g1] at hm
        · rw [if_neg (Ne.symm e)] at hm
          exact ⟨e, by rw [Array.getD_eq_getD_getElem?]; exact hm⟩
      obtain ⟨u, hu1, hu2⟩ := h.r j oj d hj hlj' (fun m hm => (hset m (hkj m hm)).2) hdj
      refine ⟨u, ?_, hst j u hji hlj' (by cases hki : kill j i with | false => rfl | true => exact absurd rfl (hset i (hkj i hki)).1) hu2⟩
      cases hod : o.dst with
      | none => exact hu1
      | some d' =>
        have hne : d' ≠ d := fun e => hdst j i oj o d hj ho hji hdj (by rw [hod, e])
        simp [Act.put, hne, hu1]
  · rw [Array.getD_eq_getD_getElem?, Array.getElem?_replicate] at hl
    split at hl <;> simp at hl
  · rw [Array.getD_eq_getD_getElem?, Array.getElem?_replicate] at hl
    split at hl <;> simp at hl
  · unfold unl
    exact Nat.le_trans List.countP_le_length (by simp)


/-- What an operation may lean on: what no append can have consumed. -/
def DepsF (F : Nat) (ops : Array Oper) (kill : Nat → Nat → Bool) (R : Nat → Value → World → Prop) (i : Nat) (o : Oper) (a : Act) (w : World) : Prop :=
  ∀ e ∈ o.after, Region.binds .any e = true → (∀ j, kill e.on j = true → ancB ops F i j = true) → ∀ (oe : Oper) (d : Tmp), ops[e.on]? = some oe → oe.dst = some d → ∃ v, a.tmps[d]? = some v ∧ R e.on v w
/-- The obligation of one operation. -/
def ObR (F : Nat) (P : Program) (ops : Array Oper) (n : Nat) (ds : List Deferred) (fixed : List (Tmp × Value)) (w0 : World) (specs : List SpecK) (apps : List Nat) (Q : Exit → Act → World → Prop) (i : Nat) : Prop :=
  ∀ o, ops[i]? = some o → ∀ a w, Below w0.heap.size w0 w → FS n ds fixed a → DepsF F ops (killK specs apps) (RK w0.heap.size specs) i o a w → ∀ K : Act → World → Prop,
    (∀ v w', RK w0.heap.size specs i v w' → (Below w.heap.size w w' ∨ apps.contains i = true ∧ Below w0.heap.size w w') → K (a.put o.dst v) w') →
    if Region.wanted o (yielded ops a.tmps) = true then o.wp P a w K Q else K (a.put o.dst undef) w

theorem dep_k {F : Nat} {ops : Array Oper} {specs : List SpecK} {apps : List Nat} {B0 i : Nat} {o : Oper} {a : Act} {w : World} (ho : ops[i]? = some o) (hd : DepsF F ops (killK specs apps) (RK B0 specs) i o a w) (j : Nat) (d : Tmp) (s : SpecK)
    (h1 : ((ops[i]?).map fun o => o.after.any fun e => Region.binds .any e && e.on == j) = some true) (h2 : ((ops[j]?).map (·.dst)) = some (some d)) (h3 : specs[j]? = some s) (h4 : (!s.mem || apps.all fun q => decide (q ≤ j) || ancB ops F i q) = true) : ∃ v, a.tmps[d]? = some v ∧ s.ok B0 v w := by
  have h5 := get_op (fun o => o.after.any fun e => Region.binds .any e && e.on == j) ho h1
  obtain ⟨e, he, hb⟩ := Array.any_eq_true'.1 h5
  rw [Bool.and_eq_true, beq_iff_eq] at hb
  cases hj : ops[j]? with
  | none => rw [hj] at h2; cases h2
  | some oj =>
    rw [hj] at h2
    obtain ⟨v, hv, hr⟩ := hd e he hb.1 (fun q hk => by
      unfold killK at hk
      rw [hb.2, h3, Bool.and_eq_true, Bool.and_eq_true, decide_eq_true_eq] at hk
      obtain ⟨hk1, hk2, hk3⟩ := hk
      rcases Bool.or_eq_true_iff.1 h4 with h | h
      · simp only at hk3
        rw [hk3] at h; cases h
      · rw [List.all_eq_true] at h
        have h6 := h q (by simpa using hk1)
        rcases Bool.or_eq_true_iff.1 h6 with h7 | h7
        · rw [decide_eq_true_eq] at h7; omega
        · exact h7) oj d (by rw [hb.2, hj]) (by simpa using h2)
    exact ⟨v, hv, hr s (by rw [hb.2]; exact h3)⟩
theorem end_k {ops : Array Oper} {specs : List SpecK} {apps : List Nat} {B0 : Nat} {a : Act} {w : World} (hr : ∀ (i : Nat) (o : Oper) (d : Tmp), ops[i]? = some o → (∀ j, killK specs apps i j = false) → o.dst = some d → ∃ v, a.tmps[d]? = some v ∧ RK B0 specs i v w) (i : Nat) (d : Tmp) (s : SpecK)
    (h2 : ((ops[i]?).map (·.dst)) = some (some d)) (h3 : specs[i]? = some s) (h4 : (!s.mem || apps.all fun q => decide (q ≤ i)) = true) : ∃ v, a.tmps[d]? = some v ∧ s.ok B0 v w := by
  cases hj : ops[i]? with
  | none => rw [hj] at h2; cases h2
  | some oj =>
    rw [hj] at h2
    obtain ⟨v, hv, h⟩ := hr i oj d hj (fun j => by
      unfold killK
      rw [h3]
      rcases Bool.or_eq_true_iff.1 h4 with h | h
      · cases hm : s.mem with
        | false => simp [hm]
        | true => rw [hm] at h; cases h
      · cases hc : apps.contains j with
        | false => rfl
        | true =>
          rw [List.all_eq_true] at h
          have h6 := h j (by simpa using hc)
          rw [decide_eq_true_eq] at h6
          rw [decide_eq_false (by omega)]; rfl) (by simpa using h2)
    exact ⟨v, hv, h s h3⟩

/-- A drawn region by obligations, its appends named. -/
theorem wp_region_k (F : Nat) {P : Program} {id n : Nat} {ops : Array Oper} {Q : Exit → Act → World → Prop} {a : Act} {w0 : World} {ds : List Deferred} {fixed : List (Tmp × Value)} {specs : List SpecK} {apps : List Nat} (hm : P.follows .mixedOrders = true)
    (hck : checksA ops n (fixed.map (·.1)) = true) (hap : apps.all (fun q => decide (q < ops.size) && (List.range ops.size).all fun j => decide (j ≤ q) || ancB ops F q j || match specs[j]? with | some s => !s.mem | none => true) = true) (hsp : specs.length = ops.size) (hf : FS n ds fixed a)
    (hob : ∀ i, i < ops.size → ObR F P ops n ds fixed w0 specs apps Q i)
    (hend : ∀ a w, Below w0.heap.size w0 w → FS n ds fixed a → (∀ (i : Nat) (o : Oper) (d : Tmp), ops[i]? = some o → (∀ j, killK specs apps i j = false) → o.dst = some d → ∃ v, a.tmps[d]? = some v ∧ RK w0.heap.size specs i v w) → Q .normal a w) : (Code.region id ops true).wp P Q a w0 := by
  rw [List.all_eq_true] at hap
  refine wp_region_killL (n := n) (ds := ds) (fixed := fixed) (kill := killK specs apps) (C := fun _ w => Below w0.heap.size w0 w) (R := RK w0.heap.size specs) hm hck hf ((Below.refl _ _).drew) (fun i o ho => ?_) ?_
  · intro listed a w hC hsl hl hcl hfs hd K hK
    have hi : i < ops.size := (Array.getElem?_eq_some_iff.1 ho).1
    refine hob i hi o ho a w hC hfs (fun e he hb hk oe d hoe hde => hd e he hb (fun j hj => ?_) oe d hoe hde) K fun v w' hR hw => ?_
    · cases hlj : listed.getD j true with
      | false => rfl
      | true =>
        have hj2 := hj
        unfold killK at hj2
        rw [Bool.and_eq_true] at hj2
        have h6 := hap j (by simpa using hj2.1)
        rw [Bool.and_eq_true, decide_eq_true_eq] at h6
        have h3 := ancB_listed hcl F i j (hk j hj) (by rw [getD_any (by omega) false true]; exact hlj)
        rw [getD_any (by omega) false true, hl] at h3
        cases h3
    · rcases hw with hw | ⟨hap', hw⟩
      · exact hK v w' (fun _ _ => hR) (below_then hC (Nat.le_refl _) hw) fun j u _ _ _ hr => hr.later hw hC.size
      · refine hK v w' (fun _ _ => hR) (hC.trans hw) fun j u hji hlj hkj hr => ?_
        intro s hs
        have h1 := hr s hs
        cases hmem : s.mem with
        | false =>
          cases s with
          | val u => exact h1
          | low p => obtain ⟨ys, h1, h2⟩ := h1; exact ⟨ys, h1.below hw, h2⟩
          | lst p => cases hmem
          | own ys => cases hmem
          | tab p => cases hmem
          | two n p => cases hmem
          | tri i n p => cases hmem
        | true =>
          exfalso
          have h6 := hap i (by simpa using hap')
          rw [Bool.and_eq_true, decide_eq_true_eq, List.all_eq_true] at h6
          have hjs : j < ops.size := by
            have := (List.getElem?_eq_some_iff.1 hs).1
            omega
          have h7 := h6.2 j (List.mem_range.2 hjs)
          rw [hs] at h7
          simp only [hmem, Bool.not_true, Bool.or_false] at h7
          rcases Bool.or_eq_true_iff.1 h7 with h8 | h8
          · rw [decide_eq_true_eq] at h8
            have : j < i := by omega
            unfold killK at hkj
            rw [hs, hap', decide_eq_true this] at hkj
            simp only [hmem] at hkj
            cases hkj
          · have h3 := ancB_listed hcl F i j h8 hlj
            rw [getD_any (by omega) false true, hl] at h3
            cases h3
  · intro listed a w _ hC hfs hr
    exact hend a w hC hfs hr

/-- An act, written out. -/
theorem act_fun {a : Act} {n : Nat} (hs : a.tmps.size = n) (hd : a.defers = []) : ∃ f : Nat → Value, (∀ i, i < n → a.tmps[i]? = some (f i)) ∧ a = ⟨((List.range n).map f).toArray, []⟩ := by
  refine ⟨fun i => (a.tmps[i]?).getD undef, fun i hi => by show _ = some ((a.tmps[i]?).getD undef); rw [Array.getElem?_eq_getElem (by omega)]; rfl, ?_⟩
  obtain ⟨ts, ds⟩ := a
  simp only at hs hd ⊢
  subst hd
  congr 1
  rw [← ts.toArray_toList]
  congr 1
  refine List.ext_getElem? fun i => ?_
  by_cases hi : i < n
  · rw [List.getElem?_map, List.getElem?_range hi, List.getElem?_eq_getElem (by simpa [hs] using hi)]
    simp [hs, hi]
  · rw [List.getElem?_eq_none (by simpa [hs] using hi), List.getElem?_eq_none (by simpa using hi)]
/-- A literal of integers. -/
theorem lit_k (w : World) (xs : List Int) (hl : xs.length ≤ 1000000) : Ints (w.alloc (.cells (xs.map (Value.int .i64)).toArray 3)) (w.alloc (.cells (xs.map (Value.int .i64)).toArray 3)).heap.size .i64 (.slice (some ⟨w.heap.size, 0, none⟩) xs.length xs.length) xs :=
  Ints.of_own (own_new w 3 xs hl)
section
variable {P : Program} {o : Oper} {a : Act} {X : World} {K : Act → World → Prop} {Q : Exit → Act → World → Prop}
/-- append(v, u..) behind a row of the call's own. -/
theorem ob_app_ints {T e : TypeId} {i0 : TypeInfo} (s x : Operand)
    (ho : o.op = .call { callee := .builtin .append, args := #[s, x], argTypes := #[T, T] }) (ht : P.underlying T = some (.slice e)) (hi : P.info? e = some i0) (hz : i0.zero = some (.int .i64 0)) (h1 : i0.size = 1) (h2 : i0.bytes = 8)
    (B base : Nat) (v : Value) (acc : List Int) (u : Value) (ys : List Int) (hs : a.eval s = v) (hown : X.ownsRow base e 1 v acc.length (acc.map (Value.int .i64))) (hx : a.eval x = u) (hu : Ints X B .i64 u ys) (hl : acc.length + ys.length ≤ 1000000) (hb : base ≤ X.heap.size)
    (h : ∀ v' w', w'.ownsRow base e 1 v' (acc ++ ys).length ((acc ++ ys).map (Value.int .i64)) → X.grownBy w' v.ownBlock → K (a.put o.dst v') w') : o.wp P a X K Q := by
  obtain ⟨A, c, rfl, hc1, hc2, hA, hcell⟩ := hu
  cases A with
  | none =>
    obtain rfl : c = 0 := hA rfl
    obtain rfl : ys = [] := List.eq_nil_of_length_eq_zero (by omega)
    have hr := run_append_none (P := P) (ty := o.type) ht hi hown
    have h3 := h v X (by simpa using hown) (grown_refl X _)
    unfold Oper.wp execOp
    simp only [ho, resolve, invoke, builtin, Sem.run_bind, Sem.run_pure, Result.andThen_ok, List.map_toArray, List.map_cons, List.map_nil, hs, hx, List.length_nil, hr]
    exact h3
  | some ad =>
    refine wp_append_own X s x T ho base e i0 (.int .i64 0) 1 8 ht hi hz h1 h2 rfl (by omega) v acc.length _ hs hown ad ys.length c (ys.map (Value.int .i64)) hx (by simp) ?_ ?_ (by unfold maxLen; omega) (by omega) hb ?_
    · intro i y hi
      rw [List.getElem?_map] at hi
      cases hy : ys[i]? with
      | none => rw [hy] at hi; cases hi
      | some z =>
        rw [hy] at hi
        cases hi
        obtain ⟨ad', e1, _, e2⟩ := hcell i z hy
        cases e1; exact e2
    · intro q hq
      obtain ⟨y, _, rfl⟩ := List.mem_map.1 hq
      rfl
    · intro v' w' p q r
      exact h v' w' (by simpa using p) q
theorem ob_run5 {v : Value} {w' : World} (hr : (execOp a.eval o).run P X = .ok (.value v) w') (h : K (a.put o.dst v) w') : o.wp P a X K Q := by
  unfold Oper.wp
  rw [hr]
  exact h
theorem ob_extract {x : Operand} {k : Nat} {vs : Array Value} {u : Value} (ho : o.op = .extract x k) (hx : a.eval x = .tuple vs) (hu : vs[k]? = some u) (h : K (a.put o.dst u) X) : o.wp P a X K Q := by
  unfold Oper.wp execOp
  rw [ho]
  simp only [hx, Instr.extract, hu]
  exact h
end
end Go.Proofs.YtneinkpfhkojgaaDoor
/-
  The walk through the law OrderConcatenation.
-/
namespace Go.Proofs.YtneinkpfhkojgaaDoor
open Go.RowKit ND

/-- What holds ahead of region 5. -/
structure conc5Ctx (w0 : World) (b : Nat) (t : Tv) (T : Tab) (va : Value) (as_ : List Int) (vb : Value) (bs : List Int) (vx : Value) (vy : Value) : Prop where
  tb : Tbl w0 b t T
  g : Glob w0
  la : Ints w0 w0.heap.size .i64 va as_
  lb : Ints w0 w0.heap.size .i64 vb bs
  na : as_.length ≤ 9
  nb : bs.length ≤ 9
def conc5Specs (t : Tv) (T : Tab) (as_ : List Int) (bs : List Int) : List SpecK := [.val t.val, .low (· = as_), .own as_, .lst (· = [122]), .own (as_ ++ [122]), .low (· = bs), .own (as_ ++ [122] ++ bs), .two (accE T (as_ ++ [122] ++ bs)) (· = ordL T (as_ ++ [122] ++ bs)), .two (accE T (as_ ++ [122] ++ bs)) (· = ordL T (as_ ++ [122] ++ bs)), .lst (· = ordL T (as_ ++ [122] ++ bs)), .val (.int .i64 (accE T (as_ ++ [122] ++ bs))), .lst (· = ordL T (as_ ++ [122] ++ bs)), .val (.int .i64 (accE T (as_ ++ [122] ++ bs)))]
def conc5Fixed (b : Nat) (va : Value) (vb : Value) (vx : Value) (vy : Value) : List (Tmp × Value) := [(7, .pointer (some ⟨b, 0, none⟩)), (8, va), (9, vb), (10, vx), (11, .int .i64 0), (12, vy), (13, .int .i64 0)]
def conc5Ob (w0 : World) (b : Nat) (t : Tv) (T : Tab) (va : Value) (as_ : List Int) (vb : Value) (bs : List Int) (vx : Value) (vy : Value) (Q : Exit → Act → World → Prop) (k : Nat) : Prop := ObR 24 Tryd.prog (opsAt Tryd.f4 5) 68 [] (conc5Fixed b va vb vx vy) w0 (conc5Specs t T as_ bs) [4, 6] Q k
section
variable {w0 : World} {b : Nat} {t : Tv} {T : Tab} {va : Value} {as_ : List Int} {vb : Value} {bs : List Int} {vx : Value} {vy : Value} {Q : Exit → Act → World → Prop}
theorem conc5_ob0 (H : conc5Ctx w0 b t T va as_ vb bs vx vy) : conc5Ob w0 b t T va as_ vb bs vx vy Q 0 := by
  intro o ho a w hb hf hd K hK
  rw [if_pos (wanted_none _ (get_op (·.guard) ho (by kernel_rfl)))]
  exact ob_value (load_tab (H.tb.later hb) (get_op (·.op) ho (by kernel_rfl)) (eval_tmp (hf.2.2 (7, _) (by simp [conc5Fixed])))) (hK _ _ (rk_of rfl rfl) (.inl (Below.refl _ _)))
theorem conc5_ob1 (H : conc5Ctx w0 b t T va as_ vb bs vx vy) : conc5Ob w0 b t T va as_ vb bs vx vy Q 1 := by
  intro o ho a w hb hf hd K hK
  rw [if_pos (wanted_none _ (get_op (·.guard) ho (by kernel_rfl)))]
  exact ob_move (get_op (·.op) ho (by kernel_rfl)) (eval_tmp (hf.2.2 (8, _) (by simp [conc5Fixed]))) (hK _ _ (rk_of rfl ⟨_, H.la.below hb, rfl⟩) (.inl (Below.refl _ _)))
theorem conc5_ob2 (H : conc5Ctx w0 b t T va as_ vb bs vx vy) : conc5Ob w0 b t T va as_ vb bs vx vy Q 2 := by
  intro o ho a w hb hf hd K hK
  rw [if_pos (wanted_none _ (get_op (·.guard) ho (by kernel_rfl)))]
  obtain ⟨v1, h1, e1⟩ := dep_k (F := 24) ho hd 1 36 (.low (· = as_)) (by kernel_rfl) (by kernel_rfl) rfl (by kernel_rfl)
  obtain ⟨_, hi1, rfl⟩ := e1
  obtain ⟨i0, hi, hz, hz1, hz2⟩ := info_parts Tryd.infoInt'
  refine ob_app_ints (.const (.slice none 0 0)) (.tmp 36) (get_op (·.op) ho (by kernel_rfl)) Tryd.underlying22 hi hz hz1 hz2 _ w0.heap.size (.slice none 0 0) [] _ _ rfl (World.ownsRow_nil _ _ _ _) (eval_tmp h1) hi1 (by have := H.na; simp; omega) hb.size fun v' w' hv' hg => ?_
  exact hK _ _ (rk_of rfl (by simpa [SpecK.ok] using hv')) (.inl ((Below.refl _ _).grown hg (Nat.le_refl _) (fun k hk => by cases hk)))
theorem conc5_ob3 : conc5Ob w0 b t T va as_ vb bs vx vy Q 3 := by
  intro o ho a w hb hf hd K hK
  rw [if_pos (wanted_none _ (get_op (·.guard) ho (by kernel_rfl)))]
  have hr : (execOp a.eval o).run Tryd.prog w = .ok (.value (.slice (some ⟨w.heap.size, 0, none⟩) 1 1)) (w.alloc (.cells #[.int .i64 122] 3)) := by
    have hop : o.op = .buildSlice 22 1 #[(0, .const (.int .i64 122))] := get_op (·.op) ho (by kernel_rfl)
    unfold execOp
    rw [hop]
    go_simp
  exact ob_run5 hr (hK _ _ (rk_of rfl ⟨_, lit_k w [122] (by simp), rfl⟩) (.inl ((Below.refl _ _).alloc (Nat.le_refl _) _)))
theorem conc5_ob4 (H : conc5Ctx w0 b t T va as_ vb bs vx vy) : conc5Ob w0 b t T va as_ vb bs vx vy Q 4 := by
  intro o ho a w hb hf hd K hK
  rw [if_pos (wanted_none _ (get_op (·.guard) ho (by kernel_rfl)))]
  obtain ⟨v3, h3, e3⟩ := dep_k (F := 24) ho hd 3 38 (.lst (· = [122])) (by kernel_rfl) (by kernel_rfl) rfl (by kernel_rfl)
  obtain ⟨_, hi1, rfl⟩ := e3
  obtain ⟨i0, hi, hz, hz1, hz2⟩ := info_parts Tryd.infoInt'
  obtain ⟨v2, h2, e2⟩ := dep_k (F := 24) ho hd 2 37 (.own as_) (by kernel_rfl) (by kernel_rfl) rfl (by kernel_rfl)
  refine ob_app_ints (.tmp 37) (.tmp 38) (get_op (·.op) ho (by kernel_rfl)) Tryd.underlying22 hi hz hz1 hz2 _ w0.heap.size v2 _ _ _ (eval_tmp h2) e2 (eval_tmp h3) hi1 (by have := H.na; simp; omega) hb.size fun v' w' hv' hg => ?_
  exact hK _ _ (rk_of rfl hv') (.inr ⟨rfl, (Below.refl _ _).grown hg hb.size (fun k hk => (e2.lt k hk).1)⟩)
theorem conc5_ob5 (H : conc5Ctx w0 b t T va as_ vb bs vx vy) : conc5Ob w0 b t T va as_ vb bs vx vy Q 5 := by
  intro o ho a w hb hf hd K hK
  rw [if_pos (wanted_none _ (get_op (·.guard) ho (by kernel_rfl)))]
  exact ob_move (get_op (·.op) ho (by kernel_rfl)) (eval_tmp (hf.2.2 (9, _) (by simp [conc5Fixed]))) (hK _ _ (rk_of rfl ⟨_, H.lb.below hb, rfl⟩) (.inl (Below.refl _ _)))
theorem conc5_ob6 (H : conc5Ctx w0 b t T va as_ vb bs vx vy) : conc5Ob w0 b t T va as_ vb bs vx vy Q 6 := by
  intro o ho a w hb hf hd K hK
  rw [if_pos (wanted_none _ (get_op (·.guard) ho (by kernel_rfl)))]
  obtain ⟨v5, h5, e5⟩ := dep_k (F := 24) ho hd 5 40 (.low (· = bs)) (by kernel_rfl) (by kernel_rfl) rfl (by kernel_rfl)
  obtain ⟨_, hi1, rfl⟩ := e5
  obtain ⟨i0, hi, hz, hz1, hz2⟩ := info_parts Tryd.infoInt'
  obtain ⟨v4, h4, e4⟩ := dep_k (F := 24) ho hd 4 39 (.own (as_ ++ [122])) (by kernel_rfl) (by kernel_rfl) rfl (by kernel_rfl)
  refine ob_app_ints (.tmp 39) (.tmp 40) (get_op (·.op) ho (by kernel_rfl)) Tryd.underlying22 hi hz hz1 hz2 _ w0.heap.size v4 _ _ _ (eval_tmp h4) e4 (eval_tmp h5) hi1 (by have := H.na; have := H.nb; simp; omega) hb.size fun v' w' hv' hg => ?_
  exact hK _ _ (rk_of rfl hv') (.inr ⟨rfl, (Below.refl _ _).grown hg hb.size (fun k hk => (e4.lt k hk).1)⟩)
theorem conc5_ob7 (H : conc5Ctx w0 b t T va as_ vb bs vx vy) : conc5Ob w0 b t T va as_ vb bs vx vy Q 7 := by
  intro o ho a w hb hf hd K hK
  rw [if_pos (wanted_none _ (get_op (·.guard) ho (by kernel_rfl)))]
  obtain ⟨v0, h0, e0⟩ := dep_k (F := 24) ho hd 0 35 (.val t.val) (by kernel_rfl) (by kernel_rfl) rfl (by kernel_rfl)
  obtain rfl : v0 = _ := e0
  obtain ⟨v6, h6, e6⟩ := dep_k (F := 24) ho hd 6 41 (.own (as_ ++ [122] ++ bs)) (by kernel_rfl) (by kernel_rfl) rfl (by kernel_rfl)
  refine ob_enter (enter2 (tys := #[26, 22]) (x := .tmp 35) (y := .tmp 41) (get_op (·.op) ho (by kernel_rfl)) (eval_tmp h0) (eval_tmp h6) (fun args w => enters_of Tryd.func19 (by kernel_rfl) rfl args w)) (order_any t T _ _ w (H.tb.later hb).2 (H.g.later hb) (Ints.of_own e6)) fun e w' ⟨u, he, h2, h1⟩ => ⟨_, he, ?_⟩
  exact hK _ _ (rk_of rfl ⟨u, _, rfl, Ints.of_own h2, rfl⟩) (.inl h1)
theorem conc5_ob8 : conc5Ob w0 b t T va as_ vb bs vx vy Q 8 := by
  intro o ho a w hb hf hd K hK
  rw [if_pos (wanted_none _ (get_op (·.guard) ho (by kernel_rfl)))]
  obtain ⟨v7, h7, e7⟩ := dep_k (F := 24) ho hd 7 42 (.two (accE T (as_ ++ [122] ++ bs)) (· = ordL T (as_ ++ [122] ++ bs))) (by kernel_rfl) (by kernel_rfl) rfl (by kernel_rfl)
  exact ob_move (get_op (·.op) ho (by kernel_rfl)) (eval_tmp h7) (hK _ _ (rk_of rfl e7) (.inl (Below.refl _ _)))
theorem conc5_ob9 : conc5Ob w0 b t T va as_ vb bs vx vy Q 9 := by
  intro o ho a w hb hf hd K hK
  rw [if_pos (wanted_none _ (get_op (·.guard) ho (by kernel_rfl)))]
  obtain ⟨v8, h8, e8⟩ := dep_k (F := 24) ho hd 8 34 (.two (accE T (as_ ++ [122] ++ bs)) (· = ordL T (as_ ++ [122] ++ bs))) (by kernel_rfl) (by kernel_rfl) rfl (by kernel_rfl)
  obtain ⟨u, ys, rfl, hi1, hp⟩ := e8
  exact ob_extract (k := 0) (get_op (·.op) ho (by kernel_rfl)) (eval_tmp h8) rfl (hK _ _ (rk_of rfl ⟨ys, hi1, hp⟩) (.inl (Below.refl _ _)))
theorem conc5_ob10 : conc5Ob w0 b t T va as_ vb bs vx vy Q 10 := by
  intro o ho a w hb hf hd K hK
  rw [if_pos (wanted_none _ (get_op (·.guard) ho (by kernel_rfl)))]
  obtain ⟨v8, h8, e8⟩ := dep_k (F := 24) ho hd 8 34 (.two (accE T (as_ ++ [122] ++ bs)) (· = ordL T (as_ ++ [122] ++ bs))) (by kernel_rfl) (by kernel_rfl) rfl (by kernel_rfl)
  obtain ⟨u, ys, rfl, hi1, hp⟩ := e8
  exact ob_extract (k := 1) (get_op (·.op) ho (by kernel_rfl)) (eval_tmp h8) rfl (hK _ _ (rk_of rfl rfl) (.inl (Below.refl _ _)))
theorem conc5_ob11 : conc5Ob w0 b t T va as_ vb bs vx vy Q 11 := by
  intro o ho a w hb hf hd K hK
  rw [if_pos (wanted_none _ (get_op (·.guard) ho (by kernel_rfl)))]
  obtain ⟨v9, h9, e9⟩ := dep_k (F := 24) ho hd 9 43 (.lst (· = ordL T (as_ ++ [122] ++ bs))) (by kernel_rfl) (by kernel_rfl) rfl (by kernel_rfl)
  exact ob_assign (get_op (·.op) ho (by kernel_rfl)) (eval_tmp h9) (hK _ _ (rk_of rfl e9) (.inl (Below.refl _ _)))
theorem conc5_ob12 : conc5Ob w0 b t T va as_ vb bs vx vy Q 12 := by
  intro o ho a w hb hf hd K hK
  rw [if_pos (wanted_none _ (get_op (·.guard) ho (by kernel_rfl)))]
  obtain ⟨v10, h10, e10⟩ := dep_k (F := 24) ho hd 10 44 (.val (.int .i64 (accE T (as_ ++ [122] ++ bs)))) (by kernel_rfl) (by kernel_rfl) rfl (by kernel_rfl)
  obtain rfl : v10 = _ := e10
  exact ob_assign (get_op (·.op) ho (by kernel_rfl)) (eval_tmp h10) (hK _ _ (rk_of rfl rfl) (.inl (Below.refl _ _)))
theorem conc5_obs (H : conc5Ctx w0 b t T va as_ vb bs vx vy) (k : Nat) (hk : k < 13) : conc5Ob w0 b t T va as_ vb bs vx vy Q k := by
  match k, hk with
  | 0, _ => exact conc5_ob0 H
  | 1, _ => exact conc5_ob1 H
  | 2, _ => exact conc5_ob2 H
  | 3, _ => exact conc5_ob3
  | 4, _ => exact conc5_ob4 H
  | 5, _ => exact conc5_ob5 H
  | 6, _ => exact conc5_ob6 H
  | 7, _ => exact conc5_ob7 H
  | 8, _ => exact conc5_ob8
  | 9, _ => exact conc5_ob9
  | 10, _ => exact conc5_ob10
  | 11, _ => exact conc5_ob11
  | 12, _ => exact conc5_ob12
  | m + 13, h => exact absurd h (by omega)
theorem conc5_region {a : Act} (H : conc5Ctx w0 b t T va as_ vb bs vx vy) (hf : FS 68 [] (conc5Fixed b va vb vx vy) a)
    (hend : ∀ a w, Below w0.heap.size w0 w → FS 68 [] (conc5Fixed b va vb vx vy) a → (∀ (i : Nat) (o : Oper) (d : Tmp), (opsAt Tryd.f4 5)[i]? = some o → (∀ j, killK (conc5Specs t T as_ bs) [4, 6] i j = false) → o.dst = some d → ∃ v, a.tmps[d]? = some v ∧ RK w0.heap.size (conc5Specs t T as_ bs) i v w) → Q .normal a w) : (Code.region 5 (opsAt Tryd.f4 5) true).wp Tryd.prog Q a w0 := by
  refine wp_region_k 24 (n := 68) (ds := []) (fixed := conc5Fixed b va vb vx vy) (specs := conc5Specs t T as_ bs) (apps := [4, 6]) (by kernel_rfl) (by kernel_rfl) (by kernel_rfl) (by kernel_rfl) hf (fun i hi => conc5_obs H i ?_) hend
  have hn : (opsAt Tryd.f4 5).size = 13 := by kernel_rfl
  omega
end

set_option maxRecDepth 100000 in
set_option maxHeartbeats 4000000 in
theorem OrderConcatenation_go (W : World) (hg : Glob W) (v : Value) (xs : List Int) (hv : Ints W W.heap.size .i64 v xs) (vm : Value) (ms : List Int) (hm : Ints W W.heap.size .i64 vm ms) (vr : Value) (rs : List Int) (hr : Ints W W.heap.size .i64 vr rs) :
    Calls Tryd.prog 4 #[v, vm, vr] W fun e W' => e = .returned (.bool true) ∧ Below W.heap.size W W' := by
  have HG := Lib.hid hg
  have HM := Lib.hid hm
  have HR := Lib.hid hr
  obtain ⟨Ax, cx, rfl, _⟩ := id hv
  obtain ⟨Am, cm, rfl, _⟩ := id hm
  obtain ⟨Ar, cr, rfl, _⟩ := id hr
  have HT := Lib.hid (keepTables_any W _ xs hv)
  clear hv hg hm hr
  go_enter Tryd.func4, Tryd.ntmps4
  go_upto_region 2 with (go_at_call 14; refine HT.out.mono ?_; rintro e w1 ⟨t, T, rfl, ht1, hm1, hb1⟩; obtain ⟨A0, A1, A2, A3, A4, A5, A6, A7, A8, A9, A10, A11, k0, k1, k2, k3, k4, k5, k6, k7, k8, k9, k10, k11, rfl⟩ := ht1.shape; have HT1 := Lib.hid ht1; have HM1 := Lib.hid hm1; have HB1 := Lib.hid hb1; clear ht1 hm1 hb1)
  obtain ⟨t, ht, htb⟩ := Tbl.new HT1.out
  have HT2 := Lib.hid htb
  have HB2 := Lib.hid (HB1.out.alloc HB1.out.size (.cells #[.slice A0 T.category.length k0, .slice A1 T.cls.length k1, .slice A2 T.joining.length k2, .slice A3 T.bidi.length k3, .slice A4 T.script.length k4, .slice A5 T.status.length k5, .slice A6 T.ignorable.length k6, .slice A7 T.extensions.length k7, .slice A8 T.maps.length k8, .slice A9 T.decomps.length k9, .slice A10 T.excluded.length k10, .slice A11 T.prototypes.length k11] 26))
  clear htb HT1 HT
  generalize w1.alloc (.cells #[.slice A0 T.category.length k0, .slice A1 T.cls.length k1, .slice A2 T.joining.length k2, .slice A3 T.bidi.length k3, .slice A4 T.script.length k4, .slice A5 T.status.length k5, .slice A6 T.ignorable.length k6, .slice A7 T.extensions.length k7, .slice A8 T.maps.length k8, .slice A9 T.decomps.length k9, .slice A10 T.excluded.length k10, .slice A11 T.prototypes.length k11] 26) = w2 at *
  generalize w1.heap.size = tb at *
  clear ht
  have hck := HM1.out.check
  have h122 : T.classOf 122 = 0 := value_res HM1.out.shape.c1.2.2 (by decide)
  have hf0 := fun x => (cls_range hck x).1
  have HCK := Lib.hid hck
  have HG2 := Lib.hid (HG.out.later HB2.out)
  have HM2 := Lib.hid (HM.out.later HB2.out)
  have HR2 := Lib.hid (HR.out.later HB2.out)
  clear HG HM HR HM1 hck
  go_upto_region 3 with (first
    | (go_at_call 15; refine (marks_any _ (.slice Am ms.length cm) ms HM2.out).mono ?_; rintro e w3 ⟨u3, as_, rfl, ho3, hal, has, b3, _⟩; obtain ⟨A3, c3, rfl, _⟩ := id (Ints.of_own ho3); have HA3 := Lib.hid (Ints.of_own ho3); have B3 := Lib.hid b3; clear ho3 b3 HM2)
    | (go_at_call 15; refine (marks_any _ (.slice Ar rs.length cr) rs (HR2.out.later B3.out)).mono ?_; rintro e w4 ⟨u4, bs, rfl, ho4, hbl, hbs, b4, _⟩; obtain ⟨A4, c4, rfl, _⟩ := id (Ints.of_own ho4); have HB4 := Lib.hid (Ints.of_own ho4); have HA4 := Lib.hid (HA3.out.later b4); have B4 := Lib.hid (below_next B3.out b4); clear ho4 b4))
  have ea : accE T as_ = 0 := accE_ok HCK.out (by omega) (marks_scal has)
  have eb : accE T bs = 0 := accE_ok HCK.out (by omega) (marks_scal hbs)
  have ez : accE T (as_ ++ [122] ++ bs) = 0 := accE_ok HCK.out (by simp; omega) (by
    rw [List.all_append, List.all_append, marks_scal has, marks_scal hbs]; decide)
  obtain ⟨f, hf⟩ : ∃ f, T.classOf = f := ⟨_, rfl⟩
  rw [hf] at h122
  have hf1 : ∀ x, 0 ≤ f x := fun x => by have := hf0 x; rw [hf] at this; exact this
  have HZ : Hid (ordL T (as_ ++ [122] ++ bs) = can f as_ ++ [122] ++ can f bs) := Lib.hid (by
    rw [ordL_ok ez, hf, List.append_assoc, List.singleton_append, can_app hf1 h122]; simp)
  have H1 := Lib.hid (fun W (h : Below w2.heap.size w2 W) hi => order_any t T (.slice A3 as_.length c3) as_ W (HT2.out.later h).2 (HG2.out.later h) hi)
  have H2 := Lib.hid (fun W (h : Below w2.heap.size w2 W) hi => order_any t T (.slice A4 bs.length c4) bs W (HT2.out.later h).2 (HG2.out.later h) hi)
  rw [ordL_ok ea, ea, hf] at H1
  rw [ordL_ok eb, eb, hf] at H2
  have EZ := Lib.hid ez
  clear ez ea eb hf0 h122 hf has hbs
  obtain ⟨x0, x1, x2, x3, x4, x5, x6, x7, x8, x9, x10, x11⟩ := (HT2.out.later B4.out).1.tab
  go_upto_region 4 with (go_at_call 19; refine (H1.out _ B4.out HA4.out).mono ?_; rintro e w5 ⟨u5, rfl, ho5, b5⟩; obtain ⟨A5, c5, rfl, _⟩ := id (Ints.of_own ho5); have HX5 := Lib.hid (Ints.of_own ho5); have B5 := Lib.hid (below_next B4.out b5); have HB5 := Lib.hid (HB4.out.later b5); have HA5 := Lib.hid (HA4.out.later b5); clear ho5 b5)
  clear x0 x1 x2 x3 x4 x5 x6 x7 x8 x9 x10 x11
  obtain ⟨x0, x1, x2, x3, x4, x5, x6, x7, x8, x9, x10, x11⟩ := (HT2.out.later B5.out).1.tab
  go_upto_region 5 with (go_at_call 19; refine (H2.out _ B5.out HB5.out).mono ?_; rintro e w6 ⟨u6, rfl, ho6, b6⟩; obtain ⟨A6, c6, rfl, _⟩ := id (Ints.of_own ho6); have HY6 := Lib.hid (Ints.of_own ho6); have B6 := Lib.hid (below_next B5.out b6); have HB6 := Lib.hid (HB5.out.later b6); have HA6 := Lib.hid (HA5.out.later b6); have HX6 := Lib.hid (HX5.out.later b6); clear ho6 b6)
  rename_i K hK
  clear x0 x1 x2 x3 x4 x5 x6 x7 x8 x9 x10 x11 H1 H2 HA3 HA4 HA5 HB4 HB5 HX5
  refine wp_region_as (ops := (opsAt Tryd.f4 5)) (by kernel_rfl) ?_
  refine conc5_region (b := tb) (t := t) (T := T) (va := .slice A3 as_.length c3) (as_ := as_) (vb := .slice A4 bs.length c4) (bs := bs) (vx := .slice A5 (can f as_).length c5) (vy := .slice A6 (can f bs).length c6) ⟨HT2.out.later B6.out, HG2.out.later B6.out, HA6.out, HB6.out, hal, hbl⟩ ⟨rfl, rfl, by intro p hp; simp [conc5Fixed] at hp; rcases hp with rfl | rfl | rfl | rfl | rfl | rfl | rfl <;> rfl⟩ ?_
  intro a w7 hb hf hr
  obtain ⟨v14, h14, zs, hi14, hz14⟩ := end_k hr 11 14 (.lst (· = ordL T (as_ ++ [122] ++ bs))) (by kernel_rfl) rfl (by kernel_rfl)
  obtain ⟨v15, h15, e15⟩ := end_k hr 12 15 (.val (.int .i64 (accE T (as_ ++ [122] ++ bs)))) (by kernel_rfl) rfl (by kernel_rfl)
  obtain rfl : v15 = .int .i64 (accE T (as_ ++ [122] ++ bs)) := e15
  rw [EZ.out] at h15
  have HZ7 : Hid (zs = can f as_ ++ [122] ++ can f bs) := Lib.hid (Eq.trans hz14 HZ.out)
  obtain ⟨A7, c7, rfl, _⟩ := id hi14
  have HI7 := Lib.hid hi14
  have B7 := Lib.hid (B6.out.trans (hb.mono B6.out.size))
  have HX7 := Lib.hid (HX6.out.later hb)
  have HY7 := Lib.hid (HY6.out.later hb)
  have hs := hf.1
  have hd := hf.2.1
  refine hK a w7 ?_
  obtain ⟨fa, hfa, ha⟩ := act_fun hs hd
  have ea7 : fa 7 = .pointer (some ⟨tb, 0, none⟩) := Option.some.inj ((hfa 7 (by decide)).symm.trans (hf.2.2 (7, _) (by simp [conc5Fixed])))
  have ea10 : fa 10 = .slice A5 (can f as_).length c5 := Option.some.inj ((hfa 10 (by decide)).symm.trans (hf.2.2 (10, _) (by simp [conc5Fixed])))
  have ea11 : fa 11 = .int .i64 0 := Option.some.inj ((hfa 11 (by decide)).symm.trans (hf.2.2 (11, _) (by simp [conc5Fixed])))
  have ea12 : fa 12 = .slice A6 (can f bs).length c6 := Option.some.inj ((hfa 12 (by decide)).symm.trans (hf.2.2 (12, _) (by simp [conc5Fixed])))
  have ea13 : fa 13 = .int .i64 0 := Option.some.inj ((hfa 13 (by decide)).symm.trans (hf.2.2 (13, _) (by simp [conc5Fixed])))
  have ea14 : fa 14 = .slice A7 zs.length c7 := Option.some.inj ((hfa 14 (by decide)).symm.trans (h14))
  have ea15 : fa 15 = .int .i64 0 := Option.some.inj ((hfa 15 (by decide)).symm.trans (h15))
  have ha2 : a = ⟨#[fa 0, fa 1, fa 2, fa 3, fa 4, fa 5, fa 6, fa 7, fa 8, fa 9, fa 10, fa 11, fa 12, fa 13, fa 14, fa 15, fa 16, fa 17, fa 18, fa 19, fa 20, fa 21, fa 22, fa 23, fa 24, fa 25, fa 26, fa 27, fa 28, fa 29, fa 30, fa 31, fa 32, fa 33, fa 34, fa 35, fa 36, fa 37, fa 38, fa 39, fa 40, fa 41, fa 42, fa 43, fa 44, fa 45, fa 46, fa 47, fa 48, fa 49, fa 50, fa 51, fa 52, fa 53, fa 54, fa 55, fa 56, fa 57, fa 58, fa 59, fa 60, fa 61, fa 62, fa 63, fa 64, fa 65, fa 66, fa 67], []⟩ := ha.trans (by kernel_rfl)
  rw [ea7, ea10, ea11, ea12, ea13, ea14, ea15] at ha2
  clear ha hfa ea7 ea10 ea11 ea12 ea13 ea14 ea15
  subst ha2
  clear hf hr h14 h15 hs hd hi14 hz14
  have hla : (can f as_).length ≤ 9 := by rw [can_length]; exact hal
  have hlb : (can f bs).length ≤ 9 := by rw [can_length]; exact hbl
  obtain ⟨i0, hi, hz0, hz1, hz2⟩ := info_parts Tryd.infoInt'
  go_wp2_with (first
    | (go_at_call 16; refine (awake6 _ (HG2.out.later B7.out)).mono ?_; rintro e w8 ⟨rfl, b8⟩; have HX8 := Lib.hid (HX7.out.later b8); have HY8 := Lib.hid (HY7.out.later b8); have HI8 := Lib.hid (HI7.out.later b8); have B8 := Lib.hid (below_next B7.out b8); clear b8)
    | (at_builtin; refine wpList_append_ints (by rfl) (.const (.slice none 0 0)) (.tmp 60) rfl Tryd.underlying22 hi hz0 hz1 hz2 w8.heap.size w8.heap.size (.slice none 0 0) [] (.slice A5 (can f as_).length c5) (can f as_) rfl (World.ownsRow_nil _ _ _ _) rfl HX8.out (by simp; omega) (Nat.le_refl _) ?_; intro v9 w9 ho9 hg9 _; simp only [List.nil_append] at ho9; have HO9 := Lib.hid ho9; have B9 := Lib.hid ((Below.refl _ _).grown hg9 (Nat.le_refl _) (fun k hk => by cases hk) : Below w8.heap.size w8 w9); clear ho9 hg9)
    | (at_builtin; refine wpList_append_ints (by rfl) (.tmp 61) (.tmp 62) rfl Tryd.underlying22 hi hz0 hz1 hz2 (w9.heap.size + 1) w8.heap.size v9 (can f as_) (.slice (some ⟨w9.heap.size, 0, none⟩) 1 1) [122] rfl (HO9.out.alloc _) rfl (by have h := Ints.of_own (own_new w9 3 [122] (by simp)); simpa using h) (by simp; omega) (by have := B9.out.size; simp; omega) ?_; intro v10 w10 ho10 hg10 _; have HO10 := Lib.hid ho10; have B10 := Lib.hid ((B9.out.alloc B9.out.size (.cells #[.int .i64 122] 3)).grown hg10 (by have := B9.out.size; simp; omega) (fun q hq => (HO9.out.lt q hq).1) : Below w8.heap.size w8 w10); clear ho10 hg10)
    | (at_builtin; refine wpList_append_ints (by rfl) (.tmp 63) (.tmp 64) rfl Tryd.underlying22 hi hz0 hz1 hz2 w8.heap.size w8.heap.size v10 (can f as_ ++ [122]) (.slice A6 (can f bs).length c6) (can f bs) rfl HO10.out rfl (HY8.out.below B10.out) (by simp; omega) B10.out.size ?_; intro v11 w11 ho11 hg11 _; have HO11 := Lib.hid ho11; have B11 := Lib.hid (B10.out.grown hg11 B10.out.size (fun q hq => (HO10.out.lt q hq).1) : Below w8.heap.size w8 w11); clear ho11 hg11)
    | (go_at_call 20; have h := same_any _ v11 zs _ w11 (HI8.out.later B11.out) (Ints.of_own HO11.out); rw [decide_eq_true HZ7.out] at h; refine h.mono ?_; rintro e w12 ⟨rfl, b12⟩; clear h))
  go_ret
  exact ⟨rfl, below_next HB2.out (below_next (below_next B8.out B11.out) b12)⟩
theorem OrderConcatenation_walk (W : World) (hg : Glob W) (v : Value) (xs : List Int) (hv : Ints W W.heap.size .i64 v xs) (_ : ∀ x ∈ xs, -9223372036854775808 ≤ x ∧ x ≤ 9223372036854775807) (_ : xs.length * 8 ≤ 140737488351232) (vm : Value) (ms : List Int) (hm : Ints W W.heap.size .i64 vm ms) (_ : ∀ x ∈ ms, -9223372036854775808 ≤ x ∧ x ≤ 9223372036854775807) (_ : ms.length * 8 ≤ 140737488351232) (vr : Value) (rs : List Int) (hr : Ints W W.heap.size .i64 vr rs) (_ : ∀ x ∈ rs, -9223372036854775808 ≤ x ∧ x ≤ 9223372036854775807) (_ : rs.length * 8 ≤ 140737488351232) :
    Calls Tryd.prog 4 #[v, vm, vr] W fun e W' => e = .returned (.bool true) ∧ Below W.heap.size W W' := OrderConcatenation_go W hg v xs hv vm ms hm vr rs hr
end Go.Proofs.YtneinkpfhkojgaaDoor
/-
  The walk through the law OrderStable.
-/
namespace Go.Proofs.YtneinkpfhkojgaaDoor
open Go.RowKit ND

theorem count_same {xs : List Int} {j : Nat} {c : Int} (h : xs[j]? = some c) : (xs.take (j + 1)).count c = (xs.take j).count c + 1 := by
  obtain ⟨a, e⟩ := List.getElem?_eq_some_iff.1 h
  rw [List.take_succ_eq_append_getElem a, List.count_append, e]; simp
theorem count_else {xs : List Int} {j : Nat} {c x : Int} (h : xs[j]? = some x) (hx : x ≠ c) : (xs.take (j + 1)).count c = (xs.take j).count c := by
  obtain ⟨a, e⟩ := List.getElem?_eq_some_iff.1 h
  rw [List.take_succ_eq_append_getElem a, List.count_append, e, List.count_singleton, if_neg (by simpa using hx)]; rfl

set_option maxRecDepth 100000 in
set_option maxHeartbeats 4000000 in
theorem OrderStable_go (W : World) (hg : Glob W) (v : Value) (xs : List Int) (hv : Ints W W.heap.size .i64 v xs) (vm : Value) (ms : List Int) (hm : Ints W W.heap.size .i64 vm ms) :
    Calls Tryd.prog 12 #[v, vm] W fun e W' => e = .returned (.bool true) ∧ Below W.heap.size W W' := by
  have HG := Lib.hid hg
  have HM := Lib.hid hm
  obtain ⟨Ax, cx, rfl, _⟩ := id hv
  obtain ⟨Am, cm, rfl, _⟩ := id hm
  have HT := Lib.hid (keepTables_any W _ xs hv)
  clear hv hg hm
  go_enter Tryd.func12, Tryd.ntmps12
  go_upto_region 2 with (go_at_call 14; refine HT.out.mono ?_; rintro e w1 ⟨t, T, rfl, ht1, hm1, hb1⟩; obtain ⟨A0, A1, A2, A3, A4, A5, A6, A7, A8, A9, A10, A11, k0, k1, k2, k3, k4, k5, k6, k7, k8, k9, k10, k11, rfl⟩ := ht1.shape; have HT1 := Lib.hid ht1; have HM1 := Lib.hid hm1; have HB1 := Lib.hid hb1; clear ht1 hm1 hb1)
  obtain ⟨t, ht, htb⟩ := Tbl.new HT1.out
  have HT2 := Lib.hid htb
  have HB2 := Lib.hid (HB1.out.alloc HB1.out.size (.cells #[.slice A0 T.category.length k0, .slice A1 T.cls.length k1, .slice A2 T.joining.length k2, .slice A3 T.bidi.length k3, .slice A4 T.script.length k4, .slice A5 T.status.length k5, .slice A6 T.ignorable.length k6, .slice A7 T.extensions.length k7, .slice A8 T.maps.length k8, .slice A9 T.decomps.length k9, .slice A10 T.excluded.length k10, .slice A11 T.prototypes.length k11] 26))
  clear htb HT1 HT
  generalize w1.alloc (.cells #[.slice A0 T.category.length k0, .slice A1 T.cls.length k1, .slice A2 T.joining.length k2, .slice A3 T.bidi.length k3, .slice A4 T.script.length k4, .slice A5 T.status.length k5, .slice A6 T.ignorable.length k6, .slice A7 T.extensions.length k7, .slice A8 T.maps.length k8, .slice A9 T.decomps.length k9, .slice A10 T.excluded.length k10, .slice A11 T.prototypes.length k11] 26) = w2 at *
  generalize w1.heap.size = tb at *
  clear ht
  have hck := HM1.out.check
  have hf0 := fun x => (cls_range hck x).1
  have HCK := Lib.hid hck
  have HG2 := Lib.hid (HG.out.later HB2.out)
  have HM2 := Lib.hid (HM.out.later HB2.out)
  clear HG HM HM1 hck
  go_upto_region 3 with (go_at_call 15; refine (marks_any _ (.slice Am ms.length cm) ms HM2.out).mono ?_; rintro e w3 ⟨u3, as_, rfl, ho3, hal, has, b3, _⟩; obtain ⟨A3, c3, rfl, _⟩ := id (Ints.of_own ho3); have HA3 := Lib.hid (Ints.of_own ho3); have B3 := Lib.hid b3; clear ho3 b3 HM2)
  have ea : accE T as_ = 0 := accE_ok HCK.out (by omega) (marks_scal has)
  obtain ⟨f, hf⟩ : ∃ f, T.classOf = f := ⟨_, rfl⟩
  have hf1 : ∀ x, 0 ≤ f x := fun x => by have := hf0 x; rw [hf] at this; exact this
  have ec : accE T (can f as_) = 0 := accE_ok HCK.out (by rw [can_length]; omega) (by
    have h := marks_scal has
    rw [List.all_eq_true] at h ⊢
    exact fun c hc => h c (can_mem.1 hc))
  have oc : ordL T (can f as_) = can f as_ := by rw [ordL_ok ec, hf, can_can]
  have sc : sortedB T (can f as_) = true := by unfold sortedB; rw [ec, oc, decide_eq_true rfl]; rfl
  have H1 := Lib.hid (fun W (h : Below w2.heap.size w2 W) hi => order_any t T (.slice A3 as_.length c3) as_ W (HT2.out.later h).2 (HG2.out.later h) hi)
  rw [ordL_ok ea, ea, hf] at H1
  have H2 := Lib.hid (fun v W (h : Below w2.heap.size w2 W) hi => order_any t T v (can f as_) W (HT2.out.later h).2 (HG2.out.later h) hi)
  rw [oc, ec] at H2
  have H3 := Lib.hid (fun v W (h : Below w2.heap.size w2 W) hi => sorted_any t T v (can f as_) W (HT2.out.later h).2 (HG2.out.later h) hi)
  rw [sc] at H3
  have HC : Hid (∀ (b : Nat) (W : World) (x : Int), Tbl W b t T → Calls Tryd.prog 18 #[.agg #[t.c0, t.c1, t.c2, t.c3, t.c4, t.c5, t.c6, t.c7, t.c8, t.c9, t.c10, t.c11], .int .i64 x] W fun e W' => e = .returned (.int .i64 (f x)) ∧ Below W.heap.size W W') := Lib.hid fun b W x h => by
    have h2 := refClass_any t T x W h.2
    rw [hf] at h2; exact h2
  have HCN := Lib.hid (fun c => can_count f c as_)
  have HCA := Lib.hid (fun (z : Int) (hz : f z = 0) i (h : as_[i]? = some z) => can_at hf1 hz as_ i h)
  have HCL := Lib.hid (can_length f as_)
  clear ea ec oc sc hf0 hf has hf1
  generalize can f as_ = cs at *
  obtain ⟨x0, x1, x2, x3, x4, x5, x6, x7, x8, x9, x10, x11⟩ := (HT2.out.later B3.out).1.tab
  go_upto_region 4 with (go_at_call 19; refine (H1.out _ B3.out HA3.out).mono ?_; rintro e w5 ⟨u5, rfl, ho5, b5⟩; obtain ⟨A5, c5, rfl, _⟩ := id (Ints.of_own ho5); have HX5 := Lib.hid (Ints.of_own ho5); have B5 := Lib.hid (below_next B3.out b5); have HA5 := Lib.hid (HA3.out.later b5); clear ho5 b5)
  clear x0 x1 x2 x3 x4 x5 x6 x7 x8 x9 x10 x11
  obtain ⟨x0, x1, x2, x3, x4, x5, x6, x7, x8, x9, x10, x11⟩ := (HT2.out.later B5.out).1.tab
  go_upto_region 5 with (go_at_call 19; refine (H2.out (.slice A5 cs.length c5) w5 B5.out HX5.out).mono ?_; rintro e w6 ⟨u6, rfl, ho6, b6⟩; obtain ⟨A6, c6, rfl, _⟩ := id (Ints.of_own ho6); have HY6 := Lib.hid (Ints.of_own ho6); have B6 := Lib.hid (below_next B5.out b6); have HA6 := Lib.hid (HA5.out.later b6); have HX6 := Lib.hid (HX5.out.later b6); clear ho6 b6)
  clear x0 x1 x2 x3 x4 x5 x6 x7 x8 x9 x10 x11 H1 H2 HA3 HA5 HX5
  have hbl : ((cs.length : Int) != (as_.length : Int)) = false := by rw [HCL.out]; simp
  go_upto_region 7 with (first
    | (go_at_call 20; have h := same_any _ _ cs cs w6 HX6.out HY6.out; rw [decide_eq_true rfl] at h; refine h.mono ?_; rintro e w7 ⟨rfl, b7⟩; clear h; have B7 := Lib.hid (below_next B6.out b7); have HX7 := Lib.hid (HX6.out.later b7); have HA7 := Lib.hid (HA6.out.later b7); obtain ⟨x0, x1, x2, x3, x4, x5, x6, x7, x8, x9, x10, x11⟩ := (HT2.out.later B7.out).1.tab)
    | (go_at_call 29; refine (H3.out (.slice A5 cs.length c5) w7 B7.out HX7.out).mono ?_; rintro e w8 ⟨rfl, b8⟩; have B8 := Lib.hid (below_next B7.out b8); have HX8 := Lib.hid (HX7.out.later b8); have HA8 := Lib.hid (HA7.out.later b8); clear b8))
  clear x0 x1 x2 x3 x4 x5 x6 x7 x8 x9 x10 x11 HX6 HX7 HA6 HA7 HY6 H3
  clear hbl
  go_wp2_with fail
  go_loopw [59] (fun s59 wr => ∃ i : Nat, i ≤ as_.length ∧ s59 = .int .i64 i ∧ Hid (Below w8.heap.size w8 wr)) (fun i _ => as_.length - (intOf i).toNat)
  case atStart => exact ⟨0, by omega, rfl, Lib.hid (Below.refl _ _)⟩
  case round =>
    obtain ⟨i, hin, rfl, HBr⟩ := hrel
    by_cases hlt : i < as_.length
    · obtain ⟨c, hc, _⟩ := get_of hlt
      obtain ⟨_, _, hve, _, _, _, hcell⟩ := HA8.out
      cases hve
      obtain ⟨adA, rfl, ha, hce⟩ := hcell i c hc
      have HCLa : Hid (∀ (V : World) (j : Nat) (y : Int), Below w8.heap.size w8 V → as_[j]? = some y → V.cell? (adA.add j) = some (.int .i64 y)) := Lib.hid fun V j y hV hy => by
        obtain ⟨ad', e, ha', hc'⟩ := hcell j y hy
        cases e
        exact (hV.cell (p := adA.add j) (by rw [block_of_add]; exact ha')).trans hc'
      obtain ⟨zi, hzi, _⟩ := get_of (show i < cs.length by rw [HCL.out]; exact hlt)
      obtain ⟨_, _, hve2, _, _, _, hcell2⟩ := HX8.out
      cases hve2
      obtain ⟨adX, rfl, ha2, hce2⟩ := hcell2 i zi hzi
      have HCLx : Hid (∀ (V : World) (j : Nat) (y : Int), Below w8.heap.size w8 V → cs[j]? = some y → V.cell? (adX.add j) = some (.int .i64 y)) := Lib.hid fun V j y hV hy => by
        obtain ⟨ad', e, ha', hc'⟩ := hcell2 j y hy
        cases e
        exact (hV.cell (p := adX.add j) (by rw [block_of_add]; exact ha')).trans hc'
      have HCI := Lib.hid hc
      have HZI := Lib.hid hzi
      clear hcell hcell2 ha ha2 hce hce2 hc hzi
      have ei := HCLa.out wr i c HBr.out HCI.out
      have q0 : (0 : Int) ≤ (i : Int) := by omega
      have q1 : (i : Int) < (as_.length : Int) := by omega
      go_wp2_with fail
      go_loopw [66, 13, 14] (fun s66 s13 s14 wr => ∃ (j n k : Nat), j ≤ as_.length ∧ s66 = .int .i64 j ∧ s13 = .int .i64 n ∧ s14 = .int .i64 k ∧ n ≤ j ∧ k ≤ j ∧ Hid (n = (as_.take j).count c ∧ k = (cs.take j).count c) ∧ Hid (Below w8.heap.size w8 wr)) (fun i _ _ _ => as_.length - (intOf i).toNat)
      case atStart => exact ⟨0, 0, 0, by omega, rfl, rfl, rfl, by omega, by omega, Lib.hid ⟨rfl, rfl⟩, HBr⟩
      case round =>
        clear ei
        obtain ⟨j, n, k, hjn, rfl, rfl, rfl, hnj, hkj, HNK, HBq⟩ := hrel
        by_cases hltj : j < as_.length
        · obtain ⟨y, hy, _⟩ := get_of hltj
          obtain ⟨z, hz, _⟩ := get_of (show j < cs.length by rw [HCL.out]; exact hltj)
          have e1 := HCLa.out wr j y HBq.out hy
          have e2 := HCLx.out wr j z HBq.out hz
          have r0 : (0 : Int) ≤ (j : Int) := by omega
          have r1 : (j : Int) < (as_.length : Int) := by omega
          have r2 : (j : Int) < (cs.length : Int) := by rw [HCL.out]; omega
          by_cases hyc : y = c
          · by_cases hzc : z = c
            · have HN : Hid (n + 1 = (as_.take (j + 1)).count c ∧ k + 1 = (cs.take (j + 1)).count c) := Lib.hid ⟨by rw [count_same (hyc ▸ hy), ← HNK.out.1], by rw [count_same (hzc ▸ hz), ← HNK.out.2]⟩
              clear hy hz
              have hy1 : (y == c) = true := by simpa using hyc
              have hz1 : (z == c) = true := by simpa using hzc
              clear hyc hzc
              go_wp2_with fail
              go_roundw
              case rel => exact ⟨j + 1, n + 1, k + 1, by omega, by go_num, by go_num, by go_num, by omega, by omega, HN, HBq⟩
              case measure => simp [intOf]; omega
            · have HN : Hid (n + 1 = (as_.take (j + 1)).count c ∧ k = (cs.take (j + 1)).count c) := Lib.hid ⟨by rw [count_same (hyc ▸ hy), ← HNK.out.1], by rw [count_else hz hzc, ← HNK.out.2]⟩
              clear hy hz
              have hy1 : (y == c) = true := by simpa using hyc
              have hz1 : (z == c) = false := by simpa using hzc
              clear hyc hzc
              go_wp2_with fail
              go_roundw
              case rel => exact ⟨j + 1, n + 1, k, by omega, by go_num, by go_num, rfl, by omega, by omega, HN, HBq⟩
              case measure => simp [intOf]; omega
          · by_cases hzc : z = c
            · have HN : Hid (n = (as_.take (j + 1)).count c ∧ k + 1 = (cs.take (j + 1)).count c) := Lib.hid ⟨by rw [count_else hy hyc, ← HNK.out.1], by rw [count_same (hzc ▸ hz), ← HNK.out.2]⟩
              clear hy hz
              have hy1 : (y == c) = false := by simpa using hyc
              have hz1 : (z == c) = true := by simpa using hzc
              clear hyc hzc
              go_wp2_with fail
              go_roundw
              case rel => exact ⟨j + 1, n, k + 1, by omega, by go_num, rfl, by go_num, by omega, by omega, HN, HBq⟩
              case measure => simp [intOf]; omega
            · have HN : Hid (n = (as_.take (j + 1)).count c ∧ k = (cs.take (j + 1)).count c) := Lib.hid ⟨by rw [count_else hy hyc, ← HNK.out.1], by rw [count_else hz hzc, ← HNK.out.2]⟩
              clear hy hz
              have hy1 : (y == c) = false := by simpa using hyc
              have hz1 : (z == c) = false := by simpa using hzc
              clear hyc hzc
              go_wp2_with fail
              go_roundw
              case rel => exact ⟨j + 1, n, k, by omega, by go_num, rfl, rfl, by omega, by omega, HN, HBq⟩
              case measure => simp [intOf]; omega
        · obtain rfl : k = n := by
            have h1 := HNK.out.1
            have h2 := HNK.out.2
            rw [List.take_of_length_le (by omega)] at h1
            rw [List.take_of_length_le (by rw [HCL.out]; omega), HCN.out] at h2
            omega
          have HTq := Lib.hid (HT2.out.later (below_next B8.out HBq.out))
          obtain ⟨x0, x1, x2, x3, x4, x5, x6, x7, x8, x9, x10, x11⟩ := HTq.out.1.tab
          have HCc := Lib.hid (HC.out tb wr c HTq.out)
          have r2 : (i : Int) < (cs.length : Int) := by rw [HCL.out]; omega
          by_cases h0 : f c = 0
          · have b0 : (f c == 0) = true := by rw [h0]; rfl
            have hzc : zi = c := by
              have h := HCA.out c h0 i HCI.out
              rw [HZI.out] at h; cases h; rfl
            have HE3 := Lib.hid (fun V hV => HCLx.out V i zi hV HZI.out)
            rw [hzc] at HE3
            clear h0 hzc
            go_wp2_with (go_at_call 18; refine HCc.out.mono ?_; rintro e w9 ⟨rfl, b9⟩; have B9 := Lib.hid (below_then HBq.out (Nat.le_refl _) b9); have e3 := HE3.out w9 B9.out)
            go_roundw
            case rel => exact ⟨i + 1, by omega, by go_num, B9⟩
            case measure => simp [intOf]; omega
          · have b0 : (f c == 0) = false := by simpa using h0
            clear h0
            go_wp2_with (go_at_call 18; refine HCc.out.mono ?_; rintro e w9 ⟨rfl, b9⟩; have B9 := Lib.hid (below_then HBq.out (Nat.le_refl _) b9))
            go_roundw
            case rel => exact ⟨i + 1, by omega, by go_num, B9⟩
            case measure => simp [intOf]; omega
    · have B9 := Lib.hid (below_next B8.out HBr.out)
      go_wp2_with (go_at_call 16; refine (awake6 _ (HG2.out.later B9.out)).mono ?_; rintro e w10 ⟨rfl, b10⟩)
      go_ret
      exact ⟨rfl, below_next (below_next HB2.out B9.out) b10⟩
theorem OrderStable_walk (W : World) (hg : Glob W) (v : Value) (xs : List Int) (hv : Ints W W.heap.size .i64 v xs) (_ : ∀ x ∈ xs, -9223372036854775808 ≤ x ∧ x ≤ 9223372036854775807) (_ : xs.length * 8 ≤ 140737488351232) (vm : Value) (ms : List Int) (hm : Ints W W.heap.size .i64 vm ms) (_ : ∀ x ∈ ms, -9223372036854775808 ≤ x ∧ x ≤ 9223372036854775807) (_ : ms.length * 8 ≤ 140737488351232) :
    Calls Tryd.prog 12 #[v, vm] W fun e W' => e = .returned (.bool true) ∧ Below W.heap.size W W' := OrderStable_go W hg v xs hv vm ms hm
end Go.Proofs.YtneinkpfhkojgaaDoor
/-
  The walk through the law OrderNeighbours.
-/
namespace Go.Proofs.YtneinkpfhkojgaaDoor
open Go.RowKit ND

theorem neigh {f : Int → Int} {l : List Int} {p : Nat} {x y : Int} (h : ∀ z, 0 ≤ f z) (hx : l[p]? = some x) (hy : l[p + 1]? = some y) (h0 : f x ≠ 0) (h1 : f y ≠ 0) : decide (can f l = can f (swapL l p x y)) = (f x != f y || x == y) := by
  obtain ⟨a, b, _, e, s⟩ := cut_two hx hy
  have hx0 := h x
  have hy0 := h y
  by_cases e1 : f x = f y
  · rw [show (f x != f y) = false by rw [e1]; simp, Bool.false_or]
    by_cases e2 : x = y
    · rw [show (x == y) = true by rw [e2]; simp, decide_eq_true_iff, s, e, e2]
    · rw [show (x == y) = false by simpa using e2, decide_eq_false_iff_not, s, e]
      exact fun h => e2 (can_same e1 rfl h)
  · rw [show (f x != f y) = true by simpa using e1, Bool.true_or, decide_eq_true_iff, s, e]
    by_cases e2 : f y < f x
    · exact can_swap (by omega) e2 a b
    · exact (can_swap (by omega) (by omega) a b).symm
theorem swap_scal {l : List Int} {p : Nat} {x y : Int} (hx : l[p]? = some x) (hy : l[p + 1]? = some y) (h : l.all scalarB = true) : (swapL l p x y).all scalarB = true := by
  obtain ⟨a, b, _, e, s⟩ := cut_two hx hy
  rw [s]; rw [e] at h
  simp only [List.all_append, List.all_cons, Bool.and_eq_true] at h ⊢
  exact ⟨h.1, h.2.2.1, h.2.1, h.2.2.2⟩

set_option maxRecDepth 100000 in
set_option maxHeartbeats 4000000 in
theorem OrderNeighbours_go (W : World) (hg : Glob W) (v : Value) (xs : List Int) (hv : Ints W W.heap.size .i64 v xs) (vm : Value) (ms : List Int) (hm : Ints W W.heap.size .i64 vm ms) (at' : Int) :
    Calls Tryd.prog 3 #[v, vm, .int .i64 at'] W fun e W' => e = .returned (.bool true) ∧ Below W.heap.size W W' := by
  have HG := Lib.hid hg
  have HM := Lib.hid hm
  obtain ⟨Ax, cx, rfl, _⟩ := id hv
  obtain ⟨Am, cm, rfl, _⟩ := id hm
  have HT := Lib.hid (keepTables_any W _ xs hv)
  clear hv hg hm
  go_enter Tryd.func3, Tryd.ntmps3
  go_upto_region 2 with (go_at_call 14; refine HT.out.mono ?_; rintro e w1 ⟨t, T, rfl, ht1, hm1, hb1⟩; obtain ⟨A0, A1, A2, A3, A4, A5, A6, A7, A8, A9, A10, A11, k0, k1, k2, k3, k4, k5, k6, k7, k8, k9, k10, k11, rfl⟩ := ht1.shape; have HT1 := Lib.hid ht1; have HM1 := Lib.hid hm1; have HB1 := Lib.hid hb1; clear ht1 hm1 hb1)
  obtain ⟨t, ht, htb⟩ := Tbl.new HT1.out
  have HT2 := Lib.hid htb
  have HB2 := Lib.hid (HB1.out.alloc HB1.out.size (.cells #[.slice A0 T.category.length k0, .slice A1 T.cls.length k1, .slice A2 T.joining.length k2, .slice A3 T.bidi.length k3, .slice A4 T.script.length k4, .slice A5 T.status.length k5, .slice A6 T.ignorable.length k6, .slice A7 T.extensions.length k7, .slice A8 T.maps.length k8, .slice A9 T.decomps.length k9, .slice A10 T.excluded.length k10, .slice A11 T.prototypes.length k11] 26))
  clear htb HT1 HT
  generalize w1.alloc (.cells #[.slice A0 T.category.length k0, .slice A1 T.cls.length k1, .slice A2 T.joining.length k2, .slice A3 T.bidi.length k3, .slice A4 T.script.length k4, .slice A5 T.status.length k5, .slice A6 T.ignorable.length k6, .slice A7 T.extensions.length k7, .slice A8 T.maps.length k8, .slice A9 T.decomps.length k9, .slice A10 T.excluded.length k10, .slice A11 T.prototypes.length k11] 26) = w2 at *
  generalize w1.heap.size = tb at *
  clear ht
  have hck := HM1.out.check
  have HF0 := Lib.hid (fun x => (cls_range hck x).1)
  have HCK := Lib.hid hck
  have HG2 := Lib.hid (HG.out.later HB2.out)
  have HM2 := Lib.hid (HM.out.later HB2.out)
  clear HG HM HM1 hck
  go_upto_region 3 with (go_at_call 15; refine (marks_any _ (.slice Am ms.length cm) ms HM2.out).mono ?_; rintro e w3 ⟨u3, as_, rfl, ho3, hal, has, b3, _⟩; obtain ⟨A3, c3, rfl, _⟩ := id (Ints.of_own ho3); have HA3 := Lib.hid (Ints.of_own ho3); have HAS := Lib.hid (marks_scal has); have B3 := Lib.hid b3; clear ho3 b3 HM2 has)
  have HAW := Lib.hid (fun V (h : Below w2.heap.size w2 V) => awake6 V (HG2.out.later h))
  obtain ⟨f, hf⟩ : ∃ f, T.classOf = f := ⟨_, rfl⟩
  have HC : Hid (∀ (b : Nat) (W : World) (x : Int), Tbl W b t T → Calls Tryd.prog 18 #[.agg #[t.c0, t.c1, t.c2, t.c3, t.c4, t.c5, t.c6, t.c7, t.c8, t.c9, t.c10, t.c11], .int .i64 x] W fun e W' => e = .returned (.int .i64 (f x)) ∧ Below W.heap.size W W') := Lib.hid fun b W x h => by
    have h2 := refClass_any t T x W h.2
    rw [hf] at h2; exact h2
  by_cases h2 : as_.length < 2
  · have g2 : (as_.length : Int) < 2 := by omega
    clear h2
    go_wp2_with (go_at_call 16; refine (HAW.out _ B3.out).mono ?_; rintro e w4 ⟨rfl, b4⟩)
    go_ret
    exact ⟨rfl, below_next HB2.out (below_next B3.out b4)⟩
  have g2 : ¬ (as_.length : Int) < 2 := by omega
  obtain ⟨p0, p1⟩ := pick_in at' (n := (as_.length : Int) - 1) (by omega)
  obtain ⟨k, hpk⟩ := Int.eq_ofNat_of_zero_le p0
  have hk1 : k + 1 < as_.length := by omega
  have HP := Lib.hid (fun w => pick_any at' ((as_.length : Int) - 1) w (by omega) (by omega))
  rw [hpk] at HP
  clear p0 p1 hpk h2
  obtain ⟨c, hc, _⟩ := get_of (show k < as_.length by omega)
  obtain ⟨d, hd, _⟩ := get_of hk1
  have HCI := Lib.hid hc
  have HDI := Lib.hid hd
  obtain ⟨_, _, hve, _, _, _, hcell⟩ := HA3.out
  cases hve
  obtain ⟨adA, rfl, ha, hce⟩ := hcell k c hc
  have HCL : Hid (∀ (V : World) (j : Nat) (y : Int), Below w3.heap.size w3 V → as_[j]? = some y → V.cell? (adA.add j) = some (.int .i64 y)) := Lib.hid fun V j y hV hy => by
    obtain ⟨ad', e, ha', hc'⟩ := hcell j y hy
    cases e
    exact (hV.cell (p := adA.add j) (by rw [block_of_add]; exact ha')).trans hc'
  clear hcell ha hce hc hd
  have q0 : (0 : Int) ≤ (k : Int) := by omega
  have q1 : (k : Int) < (as_.length : Int) := by omega
  have q2 : (0 : Int) ≤ (k : Int) + 1 := by omega
  have q3 : (k : Int) + 1 < (as_.length : Int) := by omega
  have wr1 : IntKind.i64.wrap ((k : Int) + 1) = (k : Int) + 1 := by rw [IntWalk.i64_in _ (by omega)]
  go_upto_region 6 with (go_at_call 17; refine (HP.out _).mono ?_; rintro e w4 ⟨rfl, rfl⟩)
  have HTq := Lib.hid (HT2.out.later B3.out)
  have HCc : Hid (∀ V, Below w3.heap.size w3 V → Calls Tryd.prog 18 #[.agg #[t.c0, t.c1, t.c2, t.c3, t.c4, t.c5, t.c6, t.c7, t.c8, t.c9, t.c10, t.c11], .int .i64 c] V fun e V' => e = .returned (.int .i64 (f c)) ∧ Below V.heap.size V V') := Lib.hid fun V hV => HC.out tb V c (HTq.out.later hV)
  have HCd : Hid (∀ V, Below w3.heap.size w3 V → Calls Tryd.prog 18 #[.agg #[t.c0, t.c1, t.c2, t.c3, t.c4, t.c5, t.c6, t.c7, t.c8, t.c9, t.c10, t.c11], .int .i64 d] V fun e V' => e = .returned (.int .i64 (f d)) ∧ Below V.heap.size V V') := Lib.hid fun V hV => HC.out tb V d (HTq.out.later hV)
  have e1 := cell_regrown (HCL.out w3 k c (Below.refl _ _) HCI.out)
  have e2 := cell_regrown (HCL.out w3 (k + 1) d (Below.refl _ _) HDI.out)
  replace e2 : ∀ d' os, (Go.Sort.grow (redrawn w3 d') os).cell? ⟨adA.block, adA.off + (k + 1), none⟩ = some (.int .i64 d) := fun d' os => by have h := e2 d' os; simpa [Addr.add] using h
  obtain ⟨x0, x1, x2, x3, x4, x5, x6, x7, x8, x9, x10, x11⟩ := HTq.out.1.tabG
  refine wp_region_quiet_below (by kernel_rfl) (by kernel_rfl) ?_
  repeat (go_big_quiet_step (first | (go_at_call 18; with_reducible exact quiet_t HCc.out) | (go_at_call 18; with_reducible exact quiet_t HCd.out)))
  refine wpQuiet_nil ?_
  rintro _ ⟨⟨dq, osq⟩, rfl⟩
  have b5 := below_regrown w3 dq osq
  clear x0 x1 x2 x3 x4 x5 x6 x7 x8 x9 x10 x11 e1 e2 HCc HCd HTq
  have HA5 := Lib.hid (HA3.out.later b5)
  have B5 := Lib.hid (below_next B3.out b5)
  have HCL5 := Lib.hid (fun V j y (hV : Below _ (Go.Sort.grow (redrawn w3 dq) osq) V) hy => HCL.out V j y (below_next b5 hV) hy)
  generalize Go.Sort.grow (redrawn w3 dq) osq = w5 at *
  clear b5 HCL HA3
  by_cases h0 : f c = 0
  · have b0 : (f c == 0) = true := by rw [h0]; rfl
    go_wp2_with (go_at_call 16; refine (HAW.out _ B5.out).mono ?_; rintro e w6 ⟨rfl, b6⟩)
    go_ret
    exact ⟨rfl, below_next HB2.out (below_next B5.out b6)⟩
  have b0 : (f c == 0) = false := by simpa using h0
  by_cases h1 : f d = 0
  · have b1 : (f d == 0) = true := by rw [h1]; rfl
    go_wp2_with (go_at_call 16; refine (HAW.out _ B5.out).mono ?_; rintro e w6 ⟨rfl, b6⟩)
    go_ret
    exact ⟨rfl, below_next HB2.out (below_next B5.out b6)⟩
  have b1 : (f d == 0) = false := by simpa using h1
  have hf1 : ∀ x, 0 ≤ f x := fun x => by have := HF0.out x; rw [hf] at this; exact this
  have HNE := Lib.hid (neigh hf1 HCI.out HDI.out h0 h1)
  have ea : accE T as_ = 0 := accE_ok HCK.out (by omega) HAS.out
  have es : accE T (swapL as_ k c d) = 0 := accE_ok HCK.out (by rw [swapL_length]; omega) (swap_scal HCI.out HDI.out HAS.out)
  have H1 := Lib.hid (fun v W (h : Below w2.heap.size w2 W) hi => order_any t T v as_ W (HT2.out.later h).2 (HG2.out.later h) hi)
  rw [ordL_ok ea, ea, hf] at H1
  have H2 := Lib.hid (fun v W (h : Below w2.heap.size w2 W) hi => order_any t T v (swapL as_ k c d) W (HT2.out.later h).2 (HG2.out.later h) hi)
  rw [ordL_ok es, es, hf] at H2
  have HSL := Lib.hid (swapL_length as_ k c d)
  clear h0 h1 hf1 ea es hf HF0
  obtain ⟨i0, hi, hz0, hz1, hz2⟩ := info_parts Tryd.infoInt'
  go_upto_region 10 with (at_builtin; refine wpList_append_ints (by rfl) (.const (.slice none 0 0)) (.tmp 50) rfl Tryd.underlying22 hi hz0 hz1 hz2 w5.heap.size w5.heap.size (.slice none 0 0) [] (.slice (some adA) as_.length c3) as_ rfl (World.ownsRow_nil _ _ _ _) rfl HA5.out (by simp; omega) (Nat.le_refl _) ?_; intro v6 w6 ho hg _; simp only [List.nil_append] at ho; obtain ⟨A9, c9, rfl, _⟩ := id (Ints.of_own ho); have HO := Lib.hid ho; have b6 : Below w5.heap.size w5 w6 := (Below.refl _ _).grown hg (Nat.le_refl _) (fun k hk => by cases hk); have HB6 := Lib.hid b6; clear ho hg b6)
  obtain ⟨gb, cap, e, hgb, _⟩ := HO.out.form (by omega)
  cases e
  have e1 := HCL5.out w6 k c HB6.out HCI.out
  have e2 := HCL5.out w6 (k + 1) d HB6.out HDI.out
  replace e2 : w6.cell? ⟨adA.block, adA.off + (k + 1), none⟩ = some (.int .i64 d) := by simpa [Addr.add] using e2
  have e3 := (HO.out.cellAt k (by omega)).trans (by rw [List.getElem?_map, HCI.out]; rfl : (as_.map (Value.int .i64))[k]? = some (.int .i64 c))
  have e4 := (HO.out.cellAt (k + 1) (by omega)).trans (by rw [List.getElem?_map, HDI.out]; rfl : (as_.map (Value.int .i64))[k + 1]? = some (.int .i64 d))
  have fp := HO.out.frozenAt k
  have fq := HO.out.frozenAt (k + 1)
  have k5 : (0 : Int) ≤ ((k + 1 : Nat) : Int) := by omega
  have k6 : ((k + 1 : Nat) : Int) < (as_.length : Int) := by omega
  go_region
  clear e1 e2 e3 e4 fp fq
  have HO8 : Hid (((w6.setCell ⟨gb, k, none⟩ (.int .i64 d)).setCell ⟨gb, k + 1, none⟩ (.int .i64 c)).drew.ownsRow w5.heap.size 3 1 (.slice (some ⟨gb, 0, none⟩) as_.length c9) as_.length ((swapL as_ k c d).map (Value.int .i64))) := by
    have h := ((HO.out.stored k (.int .i64 d)).1.stored (k + 1) (.int .i64 c)).1
    rw [← List.map_set, ← List.map_set, List.set_comm _ _ (by omega : k ≠ k + 1)] at h
    exact Lib.hid h.drew
  have b8 : Below w5.heap.size w5 ((w6.setCell ⟨gb, k, none⟩ (.int .i64 d)).setCell ⟨gb, k + 1, none⟩ (.int .i64 c)).drew := ((HB6.out.setCell (p := ⟨gb, k, none⟩) hgb _).setCell (p := ⟨gb, k + 1, none⟩) hgb _).drew
  have HB8 := Lib.hid b8
  generalize ((w6.setCell ⟨gb, k, none⟩ (.int .i64 d)).setCell ⟨gb, k + 1, none⟩ (.int .i64 c)).drew = w8 at *
  have HI8 := HO8.out
  rw [show as_.length = (swapL as_ k c d).length from HSL.out.symm] at HI8
  have HI9 := Ints.of_own HI8
  rw [HSL.out] at HI9
  have HU8 : Hid (Ints w8 w8.heap.size .i64 (.slice (some ⟨gb, 0, none⟩) as_.length c9) (swapL as_ k c d)) := Lib.hid HI9
  clear HI8 HI9 b8 HO HO8 HB6
  have B8 := Lib.hid (below_next B5.out HB8.out)
  have HA8 := Lib.hid (HA5.out.later HB8.out)
  have HCL8 := Lib.hid (fun V j y (hV : Below w8.heap.size w8 V) hy => HCL5.out V j y (below_next HB8.out hV) hy)
  obtain ⟨x0, x1, x2, x3, x4, x5, x6, x7, x8, x9, x10, x11⟩ := (HT2.out.later B8.out).1.tab
  go_upto_region 12 with (go_at_call 19; refine (H1.out (.slice (some adA) as_.length c3) w8 B8.out HA8.out).mono ?_; rintro e w9 ⟨u9, rfl, ho9, b9⟩; obtain ⟨A9, m9, rfl, _⟩ := id (Ints.of_own ho9); have HX9 := Lib.hid (Ints.of_own ho9); have B9 := Lib.hid (below_next B8.out b9); have HU9 := Lib.hid (HU8.out.later b9); have b89 := Lib.hid b9; clear ho9 b9)
  clear x0 x1 x2 x3 x4 x5 x6 x7 x8 x9 x10 x11
  obtain ⟨x0, x1, x2, x3, x4, x5, x6, x7, x8, x9, x10, x11⟩ := (HT2.out.later B9.out).1.tab
  go_upto_region 13 with (go_at_call 19; refine (H2.out (.slice (some ⟨gb, 0, none⟩) as_.length c9) w9 B9.out HU9.out).mono ?_; rintro e w10 ⟨u10, rfl, ho10, b10⟩; obtain ⟨A10, m10, rfl, _⟩ := id (Ints.of_own ho10); have HY10 := Lib.hid (Ints.of_own ho10); have B10 := Lib.hid (below_next B9.out b10); have HX10 := Lib.hid (HX9.out.later b10); have b810 := Lib.hid (below_next b89.out b10); clear ho10 b10)
  clear x0 x1 x2 x3 x4 x5 x6 x7 x8 x9 x10 x11 H1 H2 HX9 HU9 HU8 HA8 b89
  have e1 := cell_regrown (HCL8.out w10 k c b810.out HCI.out)
  have e2 := cell_regrown (HCL8.out w10 (k + 1) d b810.out HDI.out)
  replace e2 : ∀ d' os, (Go.Sort.grow (redrawn w10 d') os).cell? ⟨adA.block, adA.off + (k + 1), none⟩ = some (.int .i64 d) := fun d' os => by have h := e2 d' os; simpa [Addr.add] using h
  have HAW9 : Hid (∀ V, Below w10.heap.size w10 V → Calls Tryd.prog 16 #[] V fun e V' => e = .returned (.bool true) ∧ Below V.heap.size V V') := Lib.hid fun V hV => HAW.out V (B10.out.trans (hV.mono B10.out.size))
  clear k5 k6 b0 b1
  by_cases hcd : f c = f d
  · have n1 : (f c != f d) = false := by rw [hcd]; simp
    clear hcd
    by_cases hcc : c = d
    · have n2 : (c == d) = true := by rw [hcc]; simp
      clear hcc
      have hN : (f c != f d || c == d) = true := by rw [n1, n2]; rfl
      have HS : Hid (∀ V, Below w10.heap.size w10 V → Calls Tryd.prog 20 #[.slice A9 (can f as_).length m9, .slice A10 (can f (swapL as_ k c d)).length m10] V fun e V' => e = .returned (.bool true) ∧ Below V.heap.size V V') := Lib.hid fun V hV => by
        have h := same_any _ _ _ _ V (HX10.out.later hV) (HY10.out.later hV)
        rw [HNE.out, hN] at h; exact h
      clear hN
      refine wp_region_quiet_below (by kernel_rfl) (by kernel_rfl) ?_
      repeat (go_big_quiet_step (first | (go_at_call 16; with_reducible exact quiet_t HAW9.out) | (go_at_call 20; with_reducible exact quiet_t HS.out)))
      refine wpQuiet_nil ?_
      rintro _ ⟨⟨dq, osq⟩, rfl⟩
      go_wp2
      go_ret
      exact ⟨rfl, below_next HB2.out (below_next B10.out (below_regrown _ dq osq))⟩
    · have n2 : (c == d) = false := by simpa using hcc
      have hN : (f c != f d || c == d) = false := by rw [n1, n2]; rfl
      have HS : Hid (∀ V, Below w10.heap.size w10 V → Calls Tryd.prog 20 #[.slice A9 (can f as_).length m9, .slice A10 (can f (swapL as_ k c d)).length m10] V fun e V' => e = .returned (.bool false) ∧ Below V.heap.size V V') := Lib.hid fun V hV => by
        have h := same_any _ _ _ _ V (HX10.out.later hV) (HY10.out.later hV)
        rw [HNE.out, hN] at h; exact h
      clear hN
      refine wp_region_quiet_below (by kernel_rfl) (by kernel_rfl) ?_
      repeat (go_big_quiet_step (first | (go_at_call 16; with_reducible exact quiet_t HAW9.out) | (go_at_call 20; with_reducible exact quiet_t HS.out)))
      refine wpQuiet_nil ?_
      rintro _ ⟨⟨dq, osq⟩, rfl⟩
      go_wp2
      go_ret
      exact ⟨rfl, below_next HB2.out (below_next B10.out (below_regrown _ dq osq))⟩
  · have n1 : (f c != f d) = true := by simpa using hcd
    have hN : (f c != f d || c == d) = true := by rw [n1]; rfl
    have HS : Hid (∀ V, Below w10.heap.size w10 V → Calls Tryd.prog 20 #[.slice A9 (can f as_).length m9, .slice A10 (can f (swapL as_ k c d)).length m10] V fun e V' => e = .returned (.bool true) ∧ Below V.heap.size V V') := Lib.hid fun V hV => by
      have h := same_any _ _ _ _ V (HX10.out.later hV) (HY10.out.later hV)
      rw [HNE.out, hN] at h; exact h
    clear hN
    refine wp_region_quiet_below (by kernel_rfl) (by kernel_rfl) ?_
    repeat (go_big_quiet_step (first | (go_at_call 16; with_reducible exact quiet_t HAW9.out) | (go_at_call 20; with_reducible exact quiet_t HS.out)))
    refine wpQuiet_nil ?_
    rintro _ ⟨⟨dq, osq⟩, rfl⟩
    go_wp2
    go_ret
    exact ⟨rfl, below_next HB2.out (below_next B10.out (below_regrown _ dq osq))⟩
theorem OrderNeighbours_walk (W : World) (hg : Glob W) (v : Value) (xs : List Int) (hv : Ints W W.heap.size .i64 v xs) (_ : ∀ x ∈ xs, -9223372036854775808 ≤ x ∧ x ≤ 9223372036854775807) (_ : xs.length * 8 ≤ 140737488351232) (vm : Value) (ms : List Int) (hm : Ints W W.heap.size .i64 vm ms) (_ : ∀ x ∈ ms, -9223372036854775808 ≤ x ∧ x ≤ 9223372036854775807) (_ : ms.length * 8 ≤ 140737488351232) (a : Int) (_ : -9223372036854775808 ≤ a ∧ a ≤ 9223372036854775807) :
    Calls Tryd.prog 3 #[v, vm, .int .i64 a] W fun e W' => e = .returned (.bool true) ∧ Below W.heap.size W W' := OrderNeighbours_go W hg v xs hv vm ms hm a
end Go.Proofs.YtneinkpfhkojgaaDoor
