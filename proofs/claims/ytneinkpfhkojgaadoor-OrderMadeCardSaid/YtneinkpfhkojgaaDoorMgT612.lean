/-
  Merged texts: lemmas and walks that the last text of this claim leans on.
-/
import Derived.Test.YtneinkpfhkojgaaDoorMgT62
import Derived.Test.YtneinkpfhkojgaaDoorMgT61
import Derived.Test.YtneinkpfhkojgaaDoorMgT67
import Derived.Test.YtneinkpfhkojgaaDoorMgT68
import Derived.Test.YtneinkpfhkojgaaDoorMgT611
import Derived.Test.YtneinkpfhkojgaaDoorMgT63
import Derived.Shelf.Abstract
/-
  The walk through keep.Points.
-/
namespace Go.Proofs.YtneinkpfhkojgaaDoor
open Go.RowKit ND

theorem all_snoc {f : Int → Bool} {acc : List Int} {y : Int} (h : ∀ x ∈ acc, f x = true) (h0 : f y = true) : ∀ x ∈ acc ++ [y], f x = true := by
  intro x hx
  rcases List.mem_append.1 hx with h2 | h2
  · exact h x h2
  · rw [List.mem_singleton] at h2; subst h2; exact h0

/-- At most ten scalar values come back. -/
def RetPoints (w : World) (e : Ending) (w' : World) : Prop :=
  ∃ v ys, e = .returned v ∧ Ints w' w'.heap.size .i64 v ys ∧ ys.length ≤ 10 ∧ (∀ c ∈ ys, scalarB c = true) ∧ Below w.heap.size w w'

/-- At most ten scalar values come back, in a row of the call's own. -/
def RetPointsO (w : World) (e : Ending) (w' : World) : Prop :=
  ∃ (v : Value) (ys : List Int), e = .returned v ∧ w'.ownsRow (w.heap.size + 1) 3 1 v ys.length (ys.map (Value.int .i64)) ∧ ys.length ≤ 10 ∧ (∀ c ∈ ys, scalarB c = true) ∧ Below w.heap.size w w' ∧ w.heap.size + 1 ≤ w'.heap.size

set_option maxRecDepth 100000 in
set_option maxHeartbeats 1000000 in
theorem pointsO_any (w : World) (v : Value) (xs : List Int) (hv : Ints w w.heap.size .i64 v xs) : Calls Tryd.prog 25 #[v] w (RetPointsO w) := by
  obtain ⟨i0, hi, hz0, hz1, hz2⟩ := info_parts Tryd.infoInt'
  obtain ⟨A, c, rfl⟩ : ∃ A c, v = .slice A xs.length c := by obtain ⟨A, c, h, _⟩ := hv; exact ⟨A, c, h⟩
  go_enter Tryd.func25, Tryd.ntmps25
  go_wp2_with fail
  refine (from_any A xs.length c w).mono ?_
  rintro e w1 ⟨rfl, rfl⟩
  have hs1 : Src (w.alloc (.cells #[.slice A xs.length c, .int .i64 0] 72)) w.heap.size (.slice A xs.length c) xs.length := ⟨0, Nat.zero_le _, Blk.new w _ _⟩
  have hbel1 : Below w.heap.size w (w.alloc (.cells #[.slice A xs.length c, .int .i64 0] 72)) := (Below.refl _ _).alloc (Nat.le_refl _) _
  have hsz1 : w.heap.size + 1 ≤ (w.alloc (.cells #[.slice A xs.length c, .int .i64 0] 72)).heap.size := by simp
  generalize w.alloc (.cells #[.slice A xs.length c, .int .i64 0] 72) = w1 at *
  have hv1 := hv.below hbel1
  go_wp2_with fail
  refine (next_src w1 w.heap.size _ xs 11 hv1 hs1 (by decide) (by decide)).mono ?_
  rintro e w2 ⟨r, rfl, hr0, hr1, hs2, hg2⟩
  have hbel2 := below_of_grown hbel1 hg2 (Nat.le_refl _) (by omega)
  have hsz2 := Nat.le_trans hsz1 hg2.size
  obtain ⟨m0, rfl⟩ := Int.eq_ofNat_of_zero_le hr0
  have hm0 : m0 ≤ 10 := by omega
  have HS2 := Lib.hid hs2
  have HV := Lib.hid hv
  clear hs2 hs1 hbel1 hsz1 hv1 hg2 hr0 hr1 hv
  go_wp2_with fail
  go_loopw [4, 5] (fun l n wr => ∃ (m : Nat) (acc : List Int), n = .int .i64 m ∧ acc.length + m ≤ 10 ∧ wr.ownsRow (w.heap.size + 1) 3 1 l acc.length (acc.map (Value.int .i64)) ∧ Hid (∀ x ∈ acc, scalarB x = true) ∧ Hid (Src wr w.heap.size (.slice A xs.length c) xs.length) ∧ Below w.heap.size w wr ∧ w.heap.size + 1 ≤ wr.heap.size) (fun _ n _ => (intOf n).toNat)
  case atStart => exact ⟨m0, [], rfl, by simpa using hm0, World.ownsRow_nil _ _ _ _, Lib.hid (by simp), HS2, hbel2, hsz2⟩
  case round =>
    obtain ⟨m, acc, rfl, hm, hown, HF, HS, hbel, hsz⟩ := hrel
    by_cases hlt : 0 < m
    · have hv' := HV.out.below hbel
      go_wp2_with fail
      refine (point_src wr w.heap.size _ xs hv' HS.out).mono ?_
      rintro e w3 ⟨x, rfl, hx, hs3, hg3⟩
      have hbel3 := below_of_grown hbel hg3 (Nat.le_refl _) (by omega)
      have hsz3 := Nat.le_trans hsz hg3.size
      have hown3 := own_grown hown hg3 (by omega)
      have HF' := Lib.hid (all_snoc HF.out hx)
      clear hv' hown hbel hsz hg3 HS HF hx
      have HS3 := Lib.hid hs3; clear hs3
      go_wp2_with (at_builtin; refine wpList_append_own _ rfl _ _ 22 rfl (w.heap.size + 1) 3 i0 (.int .i64 0) 1 8 Tryd.underlying22 hi hz0 hz1 hz2 rfl (by decide) _ _ _ rfl (hown3.alloc _) ⟨w3.heap.size, 0, none⟩ 1 1 [.int .i64 x] rfl rfl (cell_one_new _ _ _) ?c1 ?c2 ?c3 ?c4 ?_)
      case c1 => intro u hu; simp at hu; subst hu; rfl
      case c2 => unfold maxLen; omega
      case c3 => omega
      case c4 => simp; omega
      intro v' w4 hown4 hgrow _
      have hbel4 : Below w.heap.size w w4 := (hbel3.alloc hbel3.size _).grown hgrow (by have := hbel3.size; simp; omega) (fun k hk => by have := (hown3.lt k hk).1; omega)
      have hsz4 : w.heap.size + 1 ≤ w4.heap.size := by have := hgrow.size; simp at this; omega
      have HS4 := Lib.hid ((HS3.out.alloc _).grown hgrow (fun hk => by have := (hown3.lt _ hk.symm).1; omega))
      clear hgrow hown3 hbel3 hsz3 HS3
      go_wp2_with fail
      go_roundw
      case rel => exact ⟨m - 1, acc ++ [x], by go_num, by simp; omega, by simpa using hown4, HF', HS4, hbel4, hsz4⟩
      case measure => simp [intOf]; omega
    · go_wp2_with fail
      go_ret
      exact ⟨_, acc, rfl, hown, by omega, HF.out, hbel, hsz⟩

theorem points_any (w : World) (v : Value) (xs : List Int) (hv : Ints w w.heap.size .i64 v xs) : Calls Tryd.prog 25 #[v] w (RetPoints w) :=
  (pointsO_any w v xs hv).mono fun _ _ ⟨v, ys, h1, h2, h3, h4, h5, _⟩ => ⟨v, ys, h1, Ints.of_own h2, h3, h4, h5⟩
end Go.Proofs.YtneinkpfhkojgaaDoor
/-
  The walk through marks of the laws of layer 6.
-/
namespace Go.Proofs.YtneinkpfhkojgaaDoor
open Go.RowKit ND

def markL : List Int := [769, 776, 803, 837, 2381, 97, 945, 44032]
def markB (c : Int) : Bool := markL.contains c
theorem mark_mem : ∀ c ∈ markL, markB c = true := by decide
theorem mark_scal : ∀ c ∈ markL, scalarB c = true := by decide
theorem marks_scal {ys : List Int} (h : ∀ c ∈ ys, markB c = true) : ys.all scalarB = true := by
  rw [List.all_eq_true]
  exact fun c hc => mark_scal c (by have := h c hc; unfold markB at this; simpa using this)
theorem mall_snoc {acc : List Int} {y : Int} (h : ∀ x ∈ acc, markB x = true) (h0 : markB y = true) : ∀ x ∈ acc ++ [y], markB x = true := by
  intro x hx
  rcases List.mem_append.1 hx with h2 | h2
  · exact h x h2
  · rw [List.mem_singleton] at h2; subst h2; exact h0

/-- At most nine marks come back, in a row of the call's own. -/
def RetMarks (w : World) (e : Ending) (w' : World) : Prop :=
  ∃ (v : Value) (ys : List Int), e = .returned v ∧ w'.ownsRow (w.heap.size + 1) 3 1 v ys.length (ys.map (Value.int .i64)) ∧ ys.length ≤ 9 ∧ (∀ c ∈ ys, markB c = true) ∧ Below w.heap.size w w' ∧ w.heap.size + 1 ≤ w'.heap.size

set_option maxRecDepth 100000 in
set_option maxHeartbeats 1000000 in
theorem marks_any (w : World) (v : Value) (xs : List Int) (hv : Ints w w.heap.size .i64 v xs) : Calls Tryd.prog 15 #[v] w (RetMarks w) := by
  obtain ⟨i0, hi, hz0, hz1, hz2⟩ := info_parts Tryd.infoInt'
  obtain ⟨A, c, rfl⟩ : ∃ A c, v = .slice A xs.length c := by obtain ⟨A, c, h, _⟩ := hv; exact ⟨A, c, h⟩
  go_enter Tryd.func15, Tryd.ntmps15
  go_wp2_with fail
  refine (from_any A xs.length c w).mono ?_
  rintro e w1 ⟨rfl, rfl⟩
  have hs1 : Src (w.alloc (.cells #[.slice A xs.length c, .int .i64 0] 72)) w.heap.size (.slice A xs.length c) xs.length := ⟨0, Nat.zero_le _, Blk.new w _ _⟩
  have hbel1 : Below w.heap.size w (w.alloc (.cells #[.slice A xs.length c, .int .i64 0] 72)) := (Below.refl _ _).alloc (Nat.le_refl _) _
  have hsz1 : w.heap.size + 1 ≤ (w.alloc (.cells #[.slice A xs.length c, .int .i64 0] 72)).heap.size := by simp
  generalize w.alloc (.cells #[.slice A xs.length c, .int .i64 0] 72) = w1 at *
  have hv1 := hv.below hbel1
  go_wp2_with fail
  refine (next_src w1 w.heap.size _ xs 10 hv1 hs1 (by decide) (by decide)).mono ?_
  rintro e w2 ⟨r, rfl, hr0, hr1, hs2, hg2⟩
  have hbel2 := below_of_grown hbel1 hg2 (Nat.le_refl _) (by omega)
  have hsz2 := Nat.le_trans hsz1 hg2.size
  obtain ⟨m0, rfl⟩ := Int.eq_ofNat_of_zero_le hr0
  have hm0 : m0 ≤ 9 := by omega
  have HS2 := Lib.hid hs2
  have HV := Lib.hid hv
  clear hs2 hs1 hbel1 hsz1 hv1 hg2 hr0 hr1 hv
  go_wp2_with fail
  go_loopw [4, 5] (fun l n wr => ∃ (m : Nat) (acc : List Int), n = .int .i64 m ∧ acc.length + m ≤ 9 ∧ wr.ownsRow (w.heap.size + 1) 3 1 l acc.length (acc.map (Value.int .i64)) ∧ Hid (∀ x ∈ acc, markB x = true) ∧ Hid (Src wr w.heap.size (.slice A xs.length c) xs.length) ∧ Below w.heap.size w wr ∧ w.heap.size + 1 ≤ wr.heap.size) (fun _ n _ => (intOf n).toNat)
  case atStart => exact ⟨m0, [], rfl, by simpa using hm0, World.ownsRow_nil _ _ _ _, Lib.hid (by simp), HS2, hbel2, hsz2⟩
  case round =>
    obtain ⟨m, acc, rfl, hm, hown, HF, HS, hbel, hsz⟩ := hrel
    by_cases hlt : 0 < m
    · have hv' := HV.out.below hbel
      go_wp2_with fail
      have hlw := HS.out.lt
      have hga := grown_alloc wr (.cells #[.int .i64 769, .int .i64 776, .int .i64 803, .int .i64 837, .int .i64 2381, .int .i64 97, .int .i64 945, .int .i64 44032] 3) (some w.heap.size)
      refine (next_src _ w.heap.size _ xs 8 (hv'.grown hga hlw) (HS.out.alloc _) (by decide) (by decide)).mono ?_
      rintro e w3 ⟨q, rfl, hq0, hq1, hs3, hgq⟩
      have hk := cell_kept wr.heap.size (cells_new wr [.int .i64 769, .int .i64 776, .int .i64 803, .int .i64 837, .int .i64 2381, .int .i64 97, .int .i64 945, .int .i64 44032] 3) hgq (by simp) (by omega)
      have hg3 := grown_trans hga hgq
      obtain ⟨mm, rfl⟩ := Int.eq_ofNat_of_zero_le hq0
      have hmm : mm < markL.length := by show mm < 8; omega
      obtain ⟨x, hx0, hxm⟩ := get_of hmm
      have y0 := hk mm (.int .i64 x) (by have h : (markL.map (Value.int .i64))[mm]? = some (.int .i64 x) := by rw [List.getElem?_map, hx0]; rfl
                                         exact h)
      have hx := mark_mem x hxm
      clear hk hx0 hxm hga hgq hq0 hmm
      have hbel3 := below_of_grown hbel hg3 (Nat.le_refl _) (by omega)
      have hsz3 := Nat.le_trans hsz hg3.size
      have hown3 := own_grown hown hg3 (by omega)
      have HF' := Lib.hid (mall_snoc HF.out hx)
      clear hv' hown hbel hsz hg3 HS HF hx
      have HS3 := Lib.hid hs3; clear hs3
      go_wp2_with (at_builtin; refine wpList_append_own _ rfl _ _ 22 rfl (w.heap.size + 1) 3 i0 (.int .i64 0) 1 8 Tryd.underlying22 hi hz0 hz1 hz2 rfl (by decide) _ _ _ rfl (hown3.alloc _) ⟨w3.heap.size, 0, none⟩ 1 1 [.int .i64 x] rfl rfl (cell_one_new _ _ _) ?c1 ?c2 ?c3 ?c4 ?_)
      case c1 => intro u hu; simp at hu; subst hu; rfl
      case c2 => unfold maxLen; omega
      case c3 => omega
      case c4 => simp; omega
      intro v' w4 hown4 hgrow _
      have hbel4 : Below w.heap.size w w4 := (hbel3.alloc hbel3.size _).grown hgrow (by have := hbel3.size; simp; omega) (fun k hk => by have := (hown3.lt k hk).1; omega)
      have hsz4 : w.heap.size + 1 ≤ w4.heap.size := by have := hgrow.size; simp at this; omega
      have HS4 := Lib.hid ((HS3.out.alloc _).grown hgrow (fun hk => by have := (hown3.lt _ hk.symm).1; omega))
      clear hgrow hown3 hbel3 hsz3 HS3
      go_wp2_with fail
      go_roundw
      case rel => exact ⟨m - 1, acc ++ [x], by go_num, by simp; omega, by simpa using hown4, HF', HS4, hbel4, hsz4⟩
      case measure => simp [intOf]; omega
    · go_wp2_with fail
      go_ret
      exact ⟨_, acc, rfl, hown, by omega, HF.out, hbel, hsz⟩

end Go.Proofs.YtneinkpfhkojgaaDoor
/-
  The walk through the law OrderErrors.
-/
namespace Go.Proofs.YtneinkpfhkojgaaDoor
open Go.RowKit ND

theorem short_of {T : Tab} (h : Shape T) : ShortT 256 T := ⟨h.c0.2.1, h.c1.2.1, h.c2.2.1, h.c3.2.1, h.c4.2.1, h.c5.2.1, h.c6.2.1, h.lx, h.lm, h.ld, h.lenX, h.lp⟩

set_option maxRecDepth 100000 in
set_option maxHeartbeats 4000000 in
theorem OrderErrors_go (W : World) (hg : Glob W) (v : Value) (xs : List Int) (hv : Ints W W.heap.size .i64 v xs) (u : Value) (ms : List Int) (hu : Ints W W.heap.size .i64 u ms) (a1 a2 a3 : Int) (t : Tv) (T : Tab) (ht : TabR W W.heap.size t T) :
    Calls Tryd.prog 11 #[v, u, .int .i64 a1, .int .i64 a2, .int .i64 a3, t.val] W fun e W' => e = .returned (.bool true) ∧ Below W.heap.size W W' := by
  obtain ⟨A, c, rfl, _⟩ := id hv
  obtain ⟨Au, cu, rfl, _⟩ := id hu
  have HB0 : Hid (Below W.heap.size W (W.alloc (.cells t.cells 26))) := Lib.hid ((Below.refl _ _).alloc (Nat.le_refl _) _)
  have HT : Hid (Tbl (W.alloc (.cells t.cells 26)) W.heap.size t T) := Lib.hid ⟨Blk.new _ _ _, ht.later HB0.out⟩
  have HV := Lib.hid (hv.later HB0.out)
  have HU := Lib.hid (hu.later HB0.out)
  have HG := Lib.hid (hg.later HB0.out)
  clear hv hu ht hg
  go_enter Tryd.func11, Tryd.ntmps11
  go_upto_region 1 with fail
  generalize W.alloc (.cells t.cells 26) = w1 at *
  obtain ⟨tb, htb⟩ : ∃ tb, W.heap.size = tb := ⟨_, rfl⟩
  rw [htb] at HT
  simp only [htb]
  have HX : Hid (∀ V, Below w1.heap.size w1 V → V.cell? ⟨tb, 0, none⟩ = some t.c0 ∧ V.cell? ⟨tb, 1, none⟩ = some t.c1 ∧ V.cell? ⟨tb, 2, none⟩ = some t.c2 ∧ V.cell? ⟨tb, 3, none⟩ = some t.c3 ∧ V.cell? ⟨tb, 4, none⟩ = some t.c4 ∧ V.cell? ⟨tb, 5, none⟩ = some t.c5 ∧ V.cell? ⟨tb, 6, none⟩ = some t.c6 ∧ V.cell? ⟨tb, 7, none⟩ = some t.c7 ∧ V.cell? ⟨tb, 8, none⟩ = some t.c8 ∧ V.cell? ⟨tb, 9, none⟩ = some t.c9 ∧ V.cell? ⟨tb, 10, none⟩ = some t.c10 ∧ V.cell? ⟨tb, 11, none⟩ = some t.c11) := Lib.hid fun V hV => (HT.out.later hV).1.tab
  go_wp2_with (first
    | (go_at_call 16; refine (awake6 _ HG.out).mono ?_; rintro e w2 ⟨rfl, b2⟩)
    | (go_at_call 14; refine (keepTables_any _ _ xs (HV.out.later b2)).mono ?_; rintro e w3 ⟨t3, T3, rfl, ht3, hm3, b3⟩; have B3 := Lib.hid (below_next b2 b3))
    | (go_at_call 28; refine (other_any _ t3 T3 a1 a2 a3 256 ht3 (short_of hm3.shape) (by omega)).mono ?_; rintro e w4 ⟨t4, T4, rfl, ht4, hs4, b4⟩; have B4 := Lib.hid (below_next B3.out b4); clear hm3 hs4)
    | (go_at_call 15; refine (marks_any _ _ ms (HU.out.later B4.out)).mono ?_; rintro e w5 ⟨u5, ys, rfl, ho5, hyl, hys, b5, _⟩; have B5 := Lib.hid (below_next B4.out b5))
    | (go_at_call 27; refine (agrees6_any t4 T4 u5 ys _ (ht4.later b5) (HG.out.later B5.out) (Ints.of_own ho5)).mono ?_; rintro e w6 ⟨rfl, b6⟩; have B6 := Lib.hid (below_next B5.out b6); obtain ⟨x0, x1, x2, x3, x4, x5, x6, x7, x8, x9, x10, x11⟩ := HX.out _ B6.out; clear ht4 ho5 ht3)
    | (go_at_call 27; refine (agrees6_any t T _ ms _ (HT.out.later B6.out).2 (HG.out.later B6.out) (HU.out.later B6.out)).mono ?_; rintro e w7 ⟨rfl, b7⟩; have B7 := Lib.hid (below_next B6.out b7)))
  go_ret
  exact ⟨rfl, below_next HB0.out B7.out⟩
theorem OrderErrors_walk (W : World) (hg : Glob W) (v : Value) (xs : List Int) (hv : Ints W W.heap.size .i64 v xs) (_ : ∀ x ∈ xs, -9223372036854775808 ≤ x ∧ x ≤ 9223372036854775807) (_ : xs.length * 8 ≤ 140737488351232) (u : Value) (ms : List Int) (hu : Ints W W.heap.size .i64 u ms) (_ : ∀ x ∈ ms, -9223372036854775808 ≤ x ∧ x ≤ 9223372036854775807) (_ : ms.length * 8 ≤ 140737488351232) (a1 : Int) (_ : -9223372036854775808 ≤ a1 ∧ a1 ≤ 9223372036854775807) (a2 : Int) (_ : -9223372036854775808 ≤ a2 ∧ a2 ≤ 9223372036854775807) (a3 : Int) (_ : -9223372036854775808 ≤ a3 ∧ a3 ≤ 9223372036854775807) (t : Tv) (T : Tab) (ht : TabR W W.heap.size t T) :
    Calls Tryd.prog 11 #[v, u, .int .i64 a1, .int .i64 a2, .int .i64 a3, t.val] W fun e W' => e = .returned (.bool true) ∧ Below W.heap.size W W' := OrderErrors_go W hg v xs hv u ms hu a1 a2 a3 t T ht
end Go.Proofs.YtneinkpfhkojgaaDoor
/-
  A drawn region by what holds of each slot: values, sequences that have a property, tables that have one.
-/
namespace Go.Proofs.YtneinkpfhkojgaaDoor
open Go.RowKit ND

/-- What is said of a slot. -/
inductive SpecQ where
  | val (v : Value)
  | lst (p : List Int → Prop)
  | tab (p : Tab → Prop)
  | two (n : Int) (p : List Int → Prop)
def SpecQ.ok : SpecQ → Value → World → Prop
  | .val u, v, _ => v = u
  | .lst p, v, w => ∃ ys, Ints w w.heap.size .i64 v ys ∧ p ys
  | .tab p, v, w => ∃ (t : Tv) (T : Tab), v = t.val ∧ TabR w w.heap.size t T ∧ p T
  | .two n p, v, w => ∃ u ys, v = .tuple #[u, .int .i64 n] ∧ Ints w w.heap.size .i64 u ys ∧ p ys
def RQ (specs : List SpecQ) (i : Nat) (v : Value) (w : World) : Prop := ∀ s, specs[i]? = some s → s.ok v w
theorem SpecQ.later {s : SpecQ} {v : Value} {w w' : World} (h : s.ok v w) (hb : Below w.heap.size w w') : s.ok v w' := by
  cases s with
  | val u => exact h
  | lst p => obtain ⟨ys, h1, h2⟩ := h; exact ⟨ys, h1.later hb, h2⟩
  | tab p => obtain ⟨t, T, e, h1, h2⟩ := h; exact ⟨t, T, e, h1.later hb, h2⟩
  | two n p => obtain ⟨u, ys, e, h1, h2⟩ := h; exact ⟨u, ys, e, h1.later hb, h2⟩
theorem RQ.later {specs : List SpecQ} {i : Nat} {v : Value} {w w' : World} (h : RQ specs i v w) (hb : Below w.heap.size w w') : RQ specs i v w' := fun s hs => SpecQ.later (h s hs) hb

/-- The obligation of one operation. -/
def ObQ (P : Program) (ops : Array Oper) (n : Nat) (ds : List Deferred) (fixed : List (Tmp × Value)) (C : World → Prop) (specs : List SpecQ) (Q : Exit → Act → World → Prop) (i : Nat) (o : Oper) : Prop :=
  ∀ a w, C w → FS n ds fixed a → Deps .any ops (RQ specs) o a w → ∀ K : Act → World → Prop, (∀ v w', RQ specs i v w' → C w' → Below w.heap.size w w' → K (a.put o.dst v) w') →
    if Region.wanted o (yielded ops a.tmps) = true then o.wp P a w K Q else K (a.put o.dst undef) w

theorem dep_q {ops : Array Oper} {specs : List SpecQ} {k : Nat} {o : Oper} {a : Act} {w : World} (ho : ops[k]? = some o) (hd : Deps .any ops (RQ specs) o a w) (j : Nat) (d : Tmp) (s : SpecQ)
    (h1 : ((ops[k]?).map fun o => o.after.any fun e => Region.binds .any e && e.on == j) = some true) (h2 : ((ops[j]?).map (·.dst)) = some (some d)) (h3 : specs[j]? = some s) : ∃ v, a.tmps[d]? = some v ∧ s.ok v w := by
  have h4 := get_op (fun o => o.after.any fun e => Region.binds .any e && e.on == j) ho h1
  obtain ⟨e, he, hb⟩ := Array.any_eq_true'.1 h4
  rw [Bool.and_eq_true, beq_iff_eq] at hb
  cases hj : ops[j]? with
  | none => rw [hj] at h2; cases h2
  | some oj =>
    rw [hj] at h2
    obtain ⟨v, hv, hr⟩ := hd e he hb.1 oj d (by rw [hb.2, hj]) (by simpa using h2)
    exact ⟨v, hv, hr s (by rw [hb.2]; exact h3)⟩

theorem rq_of {specs : List SpecQ} {k : Nat} {s0 : SpecQ} {v : Value} {w : World} (h : specs[k]? = some s0) (hok : s0.ok v w) : RQ specs k v w := fun s hs => by
  rw [h] at hs; cases hs; exact hok
theorem end_q {ops : Array Oper} {specs : List SpecQ} {a : Act} {w : World} (hr : ∀ (i : Nat) (o : Oper) (d : Tmp), ops[i]? = some o → o.dst = some d → ∃ v, a.tmps[d]? = some v ∧ RQ specs i v w) (i : Nat) (d : Tmp) (s : SpecQ)
    (h2 : ((ops[i]?).map (·.dst)) = some (some d)) (h3 : specs[i]? = some s) : ∃ v, a.tmps[d]? = some v ∧ s.ok v w := by
  cases hj : ops[i]? with
  | none => rw [hj] at h2; cases h2
  | some oj =>
    rw [hj] at h2
    obtain ⟨v, hv, h⟩ := hr i oj d hj (by simpa using h2)
    exact ⟨v, hv, h s h3⟩

theorem wp_region_q {P : Program} {id n : Nat} {ops : Array Oper} {Q : Exit → Act → World → Prop} {a : Act} {w : World} {ds : List Deferred} {fixed : List (Tmp × Value)} {C : World → Prop} {specs : List SpecQ} (hm : P.follows .mixedOrders = true)
    (hck : checksB ops n (fixed.map (·.1)) = true) (hf : FS n ds fixed a) (hc : C w.drew)
    (hob : ∀ (i : Nat) (o : Oper), ops[i]? = some o → ObQ P ops n ds fixed C specs Q i o)
    (hend : ∀ a w, C w → FS n ds fixed a → (∀ (i : Nat) (o : Oper) (d : Tmp), ops[i]? = some o → o.dst = some d → ∃ v, a.tmps[d]? = some v ∧ RQ specs i v w) → Q .normal a w) : (Code.region id ops true).wp P Q a w := by
  unfold checksB at hck
  rw [Bool.and_eq_true, Bool.and_eq_true, List.all_eq_true] at hck
  obtain ⟨⟨h1, h2⟩, h3⟩ := hck
  have hat : ∀ {i : Nat} {o : Oper}, ops[i]? = some o → ops.toList[i]? = some o := fun h => by simpa using h
  have hin : ∀ {i : Nat} {o : Oper} {d : Tmp}, ops[i]? = some o → o.dst = some d → d < n ∧ d ∉ fixed.map (·.1) := fun h hd => by
    have := h3 _ (List.mem_of_getElem? (hat h))
    rw [hd] at this
    simpa using this
  refine wp_region_any hm (wpAny_inv (F := FS n ds fixed) (C := C) (R := RQ specs) ?_ ?_ ?_ ?_ (fun i v w w' h hb => RQ.later h hb) ?_ hend _ _ _ _ ⟨by simp, hc, hf, fun i o d _ hl _ => ?_⟩ ?_)
  · intro i o ho e he _
    have := lowB_at h1 (hat ho) e he
    omega
  · intro i j o o' d hi hj hij hd hd'
    have hi' : (ops.toList.map (·.dst))[i]? = some (some d) := by rw [List.getElem?_map, hat hi]; simp [hd]
    have hj' : (ops.toList.map (·.dst))[j]? = some (some d) := by rw [List.getElem?_map, hat hj]; simp [hd']
    rcases Nat.lt_or_gt_of_ne hij with h | h
    · exact nodupB_at h2 h hi' hj'
    · exact nodupB_at h2 h hj' hi'
  · intro i o a v ho ⟨q1, q2, q3⟩
    cases hd : o.dst with
    | none => exact ⟨q1, q2, q3⟩
    | some d =>
      obtain ⟨_, hn⟩ := hin ho hd
      refine ⟨by simpa [Act.put] using q1, q2, fun p hp => ?_⟩
      have hne : d ≠ p.1 := fun e => hn (e ▸ List.mem_map_of_mem hp)
      simp [Act.put, hne, q3 p hp]
  · intro i o d a ho hd hf
    rw [hf.1]; exact (hin ho hd).1
  · intro i o ho a w hc hf hd K hK
    refine hob i o ho a w hc hf hd K fun v w' hr hc' hb => hK v w' (fun _ _ => hr) hc' hb
  · rw [Array.getD_eq_getD_getElem?, Array.getElem?_replicate] at hl
    split at hl <;> simp at hl
  · unfold unl
    exact Nat.le_trans List.countP_le_length (by simp)

section
variable {P : Program} {f : FuncId} {tys : Array TypeId} {a : Act} {o : Oper} {w : World}
theorem enter0 (ho : o.op = .call { callee := .value (.func f), args := #[], argTypes := tys })
    (eg : ∀ args w, (callFunc f args).run P w = .ok (.enter f args) w) : (execOp a.eval o).run P w = .ok (.enter f #[]) w := by
  unfold execOp
  rw [ho]
  have hf : a.eval (.func f) = .func (.func f) #[] #[] := rfl
  simp [resolve, invoke, Deferred.ofValue, hf, eg]
theorem enter1 {x : Operand} {vx : Value} (ho : o.op = .call { callee := .value (.func f), args := #[x], argTypes := tys }) (hx : a.eval x = vx)
    (eg : ∀ args w, (callFunc f args).run P w = .ok (.enter f args) w) : (execOp a.eval o).run P w = .ok (.enter f #[vx]) w := by
  unfold execOp
  rw [ho]
  have hf : a.eval (.func f) = .func (.func f) #[] #[] := rfl
  simp [resolve, invoke, Deferred.ofValue, hx, hf, eg]
theorem enter3 {x y z : Operand} {vx vy vz : Value} (ho : o.op = .call { callee := .value (.func f), args := #[x, y, z], argTypes := tys }) (hx : a.eval x = vx) (hy : a.eval y = vy) (hz : a.eval z = vz)
    (eg : ∀ args w, (callFunc f args).run P w = .ok (.enter f args) w) : (execOp a.eval o).run P w = .ok (.enter f #[vx, vy, vz]) w := by
  unfold execOp
  rw [ho]
  have hf : a.eval (.func f) = .func (.func f) #[] #[] := rfl
  simp [resolve, invoke, Deferred.ofValue, hx, hy, hz, hf, eg]
theorem enter4 {x y z q : Operand} {vx vy vz vq : Value} (ho : o.op = .call { callee := .value (.func f), args := #[x, y, z, q], argTypes := tys }) (hx : a.eval x = vx) (hy : a.eval y = vy) (hz : a.eval z = vz) (hq : a.eval q = vq)
    (eg : ∀ args w, (callFunc f args).run P w = .ok (.enter f args) w) : (execOp a.eval o).run P w = .ok (.enter f #[vx, vy, vz, vq]) w := by
  unfold execOp
  rw [ho]
  have hf : a.eval (.func f) = .func (.func f) #[] #[] := rfl
  simp [resolve, invoke, Deferred.ofValue, hx, hy, hz, hq, hf, eg]
end
theorem unwanted_at {ops : Array Oper} {k g : Nat} {b c : Bool} {o : Oper} {a : Act} {d : Tmp} {v : Value} (ho : ops[k]? = some o) (hg : ((ops[k]?).map (·.guard)) = some (some (g, b))) (h2 : ((ops[g]?).map (·.dst)) = some (some d)) (hv : a.tmps[d]? = some v) (he : v = .bool c) (hc : c ≠ b) : ¬ Region.wanted o (yielded ops a.tmps) = true := by
  subst he
  cases hj : ops[g]? with
  | none => rw [hj] at h2; cases h2
  | some og =>
    rw [hj] at h2
    have hd : og.dst = some d := by simpa using h2
    have hgo := get_op (·.guard) ho hg
    cases b <;> cases c <;> first | exact absurd rfl hc | simp [Region.wanted, hgo, yielded, hj, hd, hv]
end Go.Proofs.YtneinkpfhkojgaaDoor
/-
  The walk through the law OrderMade.
-/
namespace Go.Proofs.YtneinkpfhkojgaaDoor
open Go.RowKit ND

/-- What holds ahead of region 2. -/
structure made6Ctx (w0 : World) (b : Nat) (t : Tv) (T : Tab) (vm : Value) (ms : List Int) (vr : Value) (rs : List Int) : Prop where
  tb : Tbl w0 b t T
  g : Glob w0
  m : Ints w0 w0.heap.size .i64 vm ms
  r : Ints w0 w0.heap.size .i64 vr rs
def made6Specs (t : Tv) (vm : Value) (vr : Value) : List SpecQ := [.val (.bool true), .val (.bool true), .val t.val, .val vm, .lst (fun _ => True), .val (.bool true), .val (.bool true), .val (.bool true), .val t.val, .val vm, .lst (fun _ => True), .val (.bool true), .val (.bool true), .val (.bool true), .val t.val, .val vr, .val (.bool true), .val (.bool true), .val (.bool true)]
def made6Fixed (b : Nat) (vm : Value) (vr : Value) : List (Tmp × Value) := [(1, vm), (2, vr), (7, .pointer (some ⟨b, 0, none⟩))]
def made6C (w0 w : World) : Prop := Below w0.heap.size w0 w
def made6Ob (w0 : World) (b : Nat) (t : Tv) (vm : Value) (vr : Value) (Q : Exit → Act → World → Prop) (k : Nat) : Prop :=
  ∀ o, (opsAt Tryd.f10 2)[k]? = some o → ObQ Tryd.prog (opsAt Tryd.f10 2) 28 [] (made6Fixed b vm vr) (made6C w0) (made6Specs t vm vr) Q k o
section
variable {w0 : World} {b : Nat} {t : Tv} {T : Tab} {vm : Value} {ms : List Int} {vr : Value} {rs : List Int} {Q : Exit → Act → World → Prop}
theorem made6_ob0 (H : made6Ctx w0 b t T vm ms vr rs) : made6Ob w0 b t vm vr Q 0 := by
  intro o ho a w hb hf hd K hK
  rw [if_pos (wanted_none _ (get_op (·.guard) ho (by kernel_rfl)))]
  refine ob_enter (enter0 (tys := #[]) (get_op (·.op) ho (by kernel_rfl)) (fun args w => enters_of Tryd.func16 (by kernel_rfl) rfl args w)) (awake6 w (H.g.later hb)) fun e w' ⟨he, h1⟩ => ⟨_, he, ?_⟩
  exact hK _ _ (rq_of rfl rfl) (below_next hb h1) h1
theorem made6_ob1 : made6Ob w0 b t vm vr Q 1 := by
  intro o ho a w hb hf hd K hK
  rw [if_pos (wanted_none _ (get_op (·.guard) ho (by kernel_rfl)))]
  obtain ⟨v0, h0, e0⟩ := dep_q ho hd 0 10 (.val (.bool true)) (by kernel_rfl) (by kernel_rfl) rfl
  obtain rfl : v0 = _ := e0
  exact ob_move (get_op (·.op) ho (by kernel_rfl)) (eval_tmp h0) (hK _ _ (rq_of rfl rfl) hb (Below.refl _ _))
theorem made6_ob2 (H : made6Ctx w0 b t T vm ms vr rs) : made6Ob w0 b t vm vr Q 2 := by
  intro o ho a w hb hf hd K hK
  obtain ⟨v1, h1, e1⟩ := dep_q ho hd 1 11 (.val (.bool true)) (by kernel_rfl) (by kernel_rfl) rfl
  obtain rfl : v1 = _ := e1
  rw [if_pos (wanted_at (g := 1) (b := true) ho (by kernel_rfl) (by kernel_rfl) h1 rfl)]
  exact ob_value (load_tab (H.tb.later hb) (get_op (·.op) ho (by kernel_rfl)) (eval_tmp (hf.2.2 (7, _) (by simp [made6Fixed])))) (hK _ _ (rq_of rfl rfl) hb (Below.refl _ _))
theorem made6_ob3 : made6Ob w0 b t vm vr Q 3 := by
  intro o ho a w hb hf hd K hK
  obtain ⟨v1, h1, e1⟩ := dep_q ho hd 1 11 (.val (.bool true)) (by kernel_rfl) (by kernel_rfl) rfl
  obtain rfl : v1 = _ := e1
  rw [if_pos (wanted_at (g := 1) (b := true) ho (by kernel_rfl) (by kernel_rfl) h1 rfl)]
  exact ob_move (get_op (·.op) ho (by kernel_rfl)) (eval_tmp (hf.2.2 (1, _) (by simp [made6Fixed]))) (hK _ _ (rq_of rfl rfl) hb (Below.refl _ _))
theorem made6_ob4 (H : made6Ctx w0 b t T vm ms vr rs) : made6Ob w0 b t vm vr Q 4 := by
  intro o ho a w hb hf hd K hK
  obtain ⟨v1, h1, e1⟩ := dep_q ho hd 1 11 (.val (.bool true)) (by kernel_rfl) (by kernel_rfl) rfl
  obtain rfl : v1 = _ := e1
  rw [if_pos (wanted_at (g := 1) (b := true) ho (by kernel_rfl) (by kernel_rfl) h1 rfl)]
  obtain ⟨v3, h3, e3⟩ := dep_q ho hd 3 13 (.val vm) (by kernel_rfl) (by kernel_rfl) rfl
  obtain rfl : v3 = _ := e3
  refine ob_enter (enter1 (tys := #[22]) (x := .tmp 13) (get_op (·.op) ho (by kernel_rfl)) (eval_tmp h3) (fun args w => enters_of Tryd.func15 (by kernel_rfl) rfl args w)) (marks_any w _ ms (H.m.later hb)) fun e w' ⟨v, ys, he, h2, _, _, h1, _⟩ => ⟨v, he, ?_⟩
  exact hK _ _ (rq_of rfl ⟨ys, Ints.of_own h2, trivial⟩) (below_next hb h1) h1
theorem made6_ob5 (H : made6Ctx w0 b t T vm ms vr rs) : made6Ob w0 b t vm vr Q 5 := by
  intro o ho a w hb hf hd K hK
  obtain ⟨v1, h1, e1⟩ := dep_q ho hd 1 11 (.val (.bool true)) (by kernel_rfl) (by kernel_rfl) rfl
  obtain rfl : v1 = _ := e1
  rw [if_pos (wanted_at (g := 1) (b := true) ho (by kernel_rfl) (by kernel_rfl) h1 rfl)]
  obtain ⟨v2, h2, e2⟩ := dep_q ho hd 2 12 (.val t.val) (by kernel_rfl) (by kernel_rfl) rfl
  obtain rfl : v2 = _ := e2
  obtain ⟨v4, h4, e4⟩ := dep_q ho hd 4 14 (.lst (fun _ => True)) (by kernel_rfl) (by kernel_rfl) rfl
  obtain ⟨ys4, hi4, _⟩ := e4
  refine ob_enter (enter2 (tys := #[26, 22]) (x := .tmp 12) (y := .tmp 14) (get_op (·.op) ho (by kernel_rfl)) (eval_tmp h2) (eval_tmp h4) (fun args w => enters_of Tryd.func27 (by kernel_rfl) rfl args w)) (agrees6_any t T _ _ w (H.tb.later hb).2 (H.g.later hb) hi4) fun e w' ⟨he, h1⟩ => ⟨_, he, ?_⟩
  exact hK _ _ (rq_of rfl rfl) (below_next hb h1) h1
theorem made6_ob6 : made6Ob w0 b t vm vr Q 6 := by
  intro o ho a w hb hf hd K hK
  rw [if_pos (wanted_none _ (get_op (·.guard) ho (by kernel_rfl)))]
  obtain ⟨v1, h1, e1⟩ := dep_q ho hd 1 11 (.val (.bool true)) (by kernel_rfl) (by kernel_rfl) rfl
  obtain rfl : v1 = _ := e1
  obtain ⟨v5, h5, e5⟩ := dep_q ho hd 5 15 (.val (.bool true)) (by kernel_rfl) (by kernel_rfl) rfl
  obtain rfl : v5 = _ := e5
  exact ob_pick (c := .tmp 11) (x := .tmp 15) (y := .const (.bool false)) (b := true) (get_op (·.op) ho (by kernel_rfl)) (eval_tmp h1) (eval_tmp h5) (hK _ _ (rq_of rfl rfl) hb (Below.refl _ _))
theorem made6_ob7 : made6Ob w0 b t vm vr Q 7 := by
  intro o ho a w hb hf hd K hK
  rw [if_pos (wanted_none _ (get_op (·.guard) ho (by kernel_rfl)))]
  obtain ⟨v6, h6, e6⟩ := dep_q ho hd 6 16 (.val (.bool true)) (by kernel_rfl) (by kernel_rfl) rfl
  obtain rfl : v6 = _ := e6
  exact ob_move (get_op (·.op) ho (by kernel_rfl)) (eval_tmp h6) (hK _ _ (rq_of rfl rfl) hb (Below.refl _ _))
theorem made6_ob8 (H : made6Ctx w0 b t T vm ms vr rs) : made6Ob w0 b t vm vr Q 8 := by
  intro o ho a w hb hf hd K hK
  obtain ⟨v7, h7, e7⟩ := dep_q ho hd 7 17 (.val (.bool true)) (by kernel_rfl) (by kernel_rfl) rfl
  obtain rfl : v7 = _ := e7
  rw [if_pos (wanted_at (g := 7) (b := true) ho (by kernel_rfl) (by kernel_rfl) h7 rfl)]
  exact ob_value (load_tab (H.tb.later hb) (get_op (·.op) ho (by kernel_rfl)) (eval_tmp (hf.2.2 (7, _) (by simp [made6Fixed])))) (hK _ _ (rq_of rfl rfl) hb (Below.refl _ _))
theorem made6_ob9 : made6Ob w0 b t vm vr Q 9 := by
  intro o ho a w hb hf hd K hK
  obtain ⟨v7, h7, e7⟩ := dep_q ho hd 7 17 (.val (.bool true)) (by kernel_rfl) (by kernel_rfl) rfl
  obtain rfl : v7 = _ := e7
  rw [if_pos (wanted_at (g := 7) (b := true) ho (by kernel_rfl) (by kernel_rfl) h7 rfl)]
  exact ob_move (get_op (·.op) ho (by kernel_rfl)) (eval_tmp (hf.2.2 (1, _) (by simp [made6Fixed]))) (hK _ _ (rq_of rfl rfl) hb (Below.refl _ _))
theorem made6_ob10 (H : made6Ctx w0 b t T vm ms vr rs) : made6Ob w0 b t vm vr Q 10 := by
  intro o ho a w hb hf hd K hK
  obtain ⟨v7, h7, e7⟩ := dep_q ho hd 7 17 (.val (.bool true)) (by kernel_rfl) (by kernel_rfl) rfl
  obtain rfl : v7 = _ := e7
  rw [if_pos (wanted_at (g := 7) (b := true) ho (by kernel_rfl) (by kernel_rfl) h7 rfl)]
  obtain ⟨v9, h9, e9⟩ := dep_q ho hd 9 19 (.val vm) (by kernel_rfl) (by kernel_rfl) rfl
  obtain rfl : v9 = _ := e9
  refine ob_enter (enter1 (tys := #[22]) (x := .tmp 19) (get_op (·.op) ho (by kernel_rfl)) (eval_tmp h9) (fun args w => enters_of Tryd.func25 (by kernel_rfl) rfl args w)) (points_any w _ ms (H.m.later hb)) fun e w' ⟨v, ys, he, h2, _, _, h1⟩ => ⟨v, he, ?_⟩
  exact hK _ _ (rq_of rfl ⟨ys, h2, trivial⟩) (below_next hb h1) h1
theorem made6_ob11 (H : made6Ctx w0 b t T vm ms vr rs) : made6Ob w0 b t vm vr Q 11 := by
  intro o ho a w hb hf hd K hK
  obtain ⟨v7, h7, e7⟩ := dep_q ho hd 7 17 (.val (.bool true)) (by kernel_rfl) (by kernel_rfl) rfl
  obtain rfl : v7 = _ := e7
  rw [if_pos (wanted_at (g := 7) (b := true) ho (by kernel_rfl) (by kernel_rfl) h7 rfl)]
  obtain ⟨v8, h8, e8⟩ := dep_q ho hd 8 18 (.val t.val) (by kernel_rfl) (by kernel_rfl) rfl
  obtain rfl : v8 = _ := e8
  obtain ⟨v10, h10, e10⟩ := dep_q ho hd 10 20 (.lst (fun _ => True)) (by kernel_rfl) (by kernel_rfl) rfl
  obtain ⟨ys10, hi10, _⟩ := e10
  refine ob_enter (enter2 (tys := #[26, 22]) (x := .tmp 18) (y := .tmp 20) (get_op (·.op) ho (by kernel_rfl)) (eval_tmp h8) (eval_tmp h10) (fun args w => enters_of Tryd.func27 (by kernel_rfl) rfl args w)) (agrees6_any t T _ _ w (H.tb.later hb).2 (H.g.later hb) hi10) fun e w' ⟨he, h1⟩ => ⟨_, he, ?_⟩
  exact hK _ _ (rq_of rfl rfl) (below_next hb h1) h1
theorem made6_ob12 : made6Ob w0 b t vm vr Q 12 := by
  intro o ho a w hb hf hd K hK
  rw [if_pos (wanted_none _ (get_op (·.guard) ho (by kernel_rfl)))]
  obtain ⟨v7, h7, e7⟩ := dep_q ho hd 7 17 (.val (.bool true)) (by kernel_rfl) (by kernel_rfl) rfl
  obtain rfl : v7 = _ := e7
  obtain ⟨v11, h11, e11⟩ := dep_q ho hd 11 21 (.val (.bool true)) (by kernel_rfl) (by kernel_rfl) rfl
  obtain rfl : v11 = _ := e11
  exact ob_pick (c := .tmp 17) (x := .tmp 21) (y := .const (.bool false)) (b := true) (get_op (·.op) ho (by kernel_rfl)) (eval_tmp h7) (eval_tmp h11) (hK _ _ (rq_of rfl rfl) hb (Below.refl _ _))
theorem made6_ob13 : made6Ob w0 b t vm vr Q 13 := by
  intro o ho a w hb hf hd K hK
  rw [if_pos (wanted_none _ (get_op (·.guard) ho (by kernel_rfl)))]
  obtain ⟨v12, h12, e12⟩ := dep_q ho hd 12 22 (.val (.bool true)) (by kernel_rfl) (by kernel_rfl) rfl
  obtain rfl : v12 = _ := e12
  exact ob_move (get_op (·.op) ho (by kernel_rfl)) (eval_tmp h12) (hK _ _ (rq_of rfl rfl) hb (Below.refl _ _))
theorem made6_ob14 (H : made6Ctx w0 b t T vm ms vr rs) : made6Ob w0 b t vm vr Q 14 := by
  intro o ho a w hb hf hd K hK
  obtain ⟨v13, h13, e13⟩ := dep_q ho hd 13 23 (.val (.bool true)) (by kernel_rfl) (by kernel_rfl) rfl
  obtain rfl : v13 = _ := e13
  rw [if_pos (wanted_at (g := 13) (b := true) ho (by kernel_rfl) (by kernel_rfl) h13 rfl)]
  exact ob_value (load_tab (H.tb.later hb) (get_op (·.op) ho (by kernel_rfl)) (eval_tmp (hf.2.2 (7, _) (by simp [made6Fixed])))) (hK _ _ (rq_of rfl rfl) hb (Below.refl _ _))
theorem made6_ob15 : made6Ob w0 b t vm vr Q 15 := by
  intro o ho a w hb hf hd K hK
  obtain ⟨v13, h13, e13⟩ := dep_q ho hd 13 23 (.val (.bool true)) (by kernel_rfl) (by kernel_rfl) rfl
  obtain rfl : v13 = _ := e13
  rw [if_pos (wanted_at (g := 13) (b := true) ho (by kernel_rfl) (by kernel_rfl) h13 rfl)]
  exact ob_move (get_op (·.op) ho (by kernel_rfl)) (eval_tmp (hf.2.2 (2, _) (by simp [made6Fixed]))) (hK _ _ (rq_of rfl rfl) hb (Below.refl _ _))
theorem made6_ob16 (H : made6Ctx w0 b t T vm ms vr rs) : made6Ob w0 b t vm vr Q 16 := by
  intro o ho a w hb hf hd K hK
  obtain ⟨v13, h13, e13⟩ := dep_q ho hd 13 23 (.val (.bool true)) (by kernel_rfl) (by kernel_rfl) rfl
  obtain rfl : v13 = _ := e13
  rw [if_pos (wanted_at (g := 13) (b := true) ho (by kernel_rfl) (by kernel_rfl) h13 rfl)]
  obtain ⟨v14, h14, e14⟩ := dep_q ho hd 14 24 (.val t.val) (by kernel_rfl) (by kernel_rfl) rfl
  obtain rfl : v14 = _ := e14
  obtain ⟨v15, h15, e15⟩ := dep_q ho hd 15 25 (.val vr) (by kernel_rfl) (by kernel_rfl) rfl
  obtain rfl : v15 = _ := e15
  refine ob_enter (enter2 (tys := #[26, 22]) (x := .tmp 24) (y := .tmp 25) (get_op (·.op) ho (by kernel_rfl)) (eval_tmp h14) (eval_tmp h15) (fun args w => enters_of Tryd.func27 (by kernel_rfl) rfl args w)) (agrees6_any t T _ _ w (H.tb.later hb).2 (H.g.later hb) (H.r.later hb)) fun e w' ⟨he, h1⟩ => ⟨_, he, ?_⟩
  exact hK _ _ (rq_of rfl rfl) (below_next hb h1) h1
theorem made6_ob17 : made6Ob w0 b t vm vr Q 17 := by
  intro o ho a w hb hf hd K hK
  rw [if_pos (wanted_none _ (get_op (·.guard) ho (by kernel_rfl)))]
  obtain ⟨v13, h13, e13⟩ := dep_q ho hd 13 23 (.val (.bool true)) (by kernel_rfl) (by kernel_rfl) rfl
  obtain rfl : v13 = _ := e13
  obtain ⟨v16, h16, e16⟩ := dep_q ho hd 16 26 (.val (.bool true)) (by kernel_rfl) (by kernel_rfl) rfl
  obtain rfl : v16 = _ := e16
  exact ob_pick (c := .tmp 23) (x := .tmp 26) (y := .const (.bool false)) (b := true) (get_op (·.op) ho (by kernel_rfl)) (eval_tmp h13) (eval_tmp h16) (hK _ _ (rq_of rfl rfl) hb (Below.refl _ _))
theorem made6_ob18 : made6Ob w0 b t vm vr Q 18 := by
  intro o ho a w hb hf hd K hK
  rw [if_pos (wanted_none _ (get_op (·.guard) ho (by kernel_rfl)))]
  obtain ⟨v17, h17, e17⟩ := dep_q ho hd 17 27 (.val (.bool true)) (by kernel_rfl) (by kernel_rfl) rfl
  obtain rfl : v17 = _ := e17
  exact ob_assign (get_op (·.op) ho (by kernel_rfl)) (eval_tmp h17) (hK _ _ (rq_of rfl rfl) hb (Below.refl _ _))
theorem made6_obs (H : made6Ctx w0 b t T vm ms vr rs) (k : Nat) (hk : k < 19) : made6Ob w0 b t vm vr Q k := by
  match k, hk with
  | 0, _ => exact made6_ob0 H
  | 1, _ => exact made6_ob1
  | 2, _ => exact made6_ob2 H
  | 3, _ => exact made6_ob3
  | 4, _ => exact made6_ob4 H
  | 5, _ => exact made6_ob5 H
  | 6, _ => exact made6_ob6
  | 7, _ => exact made6_ob7
  | 8, _ => exact made6_ob8 H
  | 9, _ => exact made6_ob9
  | 10, _ => exact made6_ob10 H
  | 11, _ => exact made6_ob11 H
  | 12, _ => exact made6_ob12
  | 13, _ => exact made6_ob13
  | 14, _ => exact made6_ob14 H
  | 15, _ => exact made6_ob15
  | 16, _ => exact made6_ob16 H
  | 17, _ => exact made6_ob17
  | 18, _ => exact made6_ob18
  | m + 19, h => exact absurd h (by omega)
theorem made6_region {a : Act} (H : made6Ctx w0 b t T vm ms vr rs) (hf : FS 28 [] (made6Fixed b vm vr) a)
    (hend : ∀ a w, Below w0.heap.size w0 w → a.defers = [] → a.tmps[6]? = some (.bool true) → Q .normal a w) : (Code.region 2 (opsAt Tryd.f10 2) true).wp Tryd.prog Q a w0 := by
  refine wp_region_q (n := 28) (ds := []) (fixed := made6Fixed b vm vr) (C := made6C w0) (specs := made6Specs t vm vr) (by kernel_rfl) (by kernel_rfl) hf ((Below.refl _ _).drew) (fun i o ho => made6_obs H i ?_ o ho) ?_
  · have := (Array.getElem?_eq_some_iff.1 ho).1
    have hn : (opsAt Tryd.f10 2).size = 19 := by kernel_rfl
    omega
  · intro a w' hc hf hr
    obtain ⟨v, hv, hs⟩ := end_q hr 18 6 (.val (.bool true)) (by kernel_rfl) rfl
    obtain rfl : v = .bool true := hs
    exact hend a w' hc hf.2.1 hv
end

set_option maxRecDepth 100000 in
set_option maxHeartbeats 4000000 in
theorem OrderMade_go (W : World) (hg : Glob W) (v : Value) (xs : List Int) (hv : Ints W W.heap.size .i64 v xs) (vm : Value) (ms : List Int) (hm : Ints W W.heap.size .i64 vm ms) (vr : Value) (rs : List Int) (hr : Ints W W.heap.size .i64 vr rs) :
    Calls Tryd.prog 10 #[v, vm, vr] W fun e W' => e = .returned (.bool true) ∧ Below W.heap.size W W' := by
  have HG := Lib.hid hg
  have HM := Lib.hid hm
  have HR := Lib.hid hr
  obtain ⟨Ax, cx, rfl, _⟩ := id hv
  have HT := Lib.hid (keepTables_any W _ xs hv)
  clear hv hg hm hr
  go_enter Tryd.func10, Tryd.ntmps10
  go_upto_region 2 with (go_at_call 14; refine HT.out.mono ?_; rintro e w1 ⟨t, T, rfl, ht1, _, hb1⟩; obtain ⟨A0, A1, A2, A3, A4, A5, A6, A7, A8, A9, A10, A11, k0, k1, k2, k3, k4, k5, k6, k7, k8, k9, k10, k11, rfl⟩ := ht1.shape; have HT1 := Lib.hid ht1; have HB1 := Lib.hid hb1; clear ht1 hb1)
  obtain ⟨t, ht, htb⟩ := Tbl.new HT1.out
  have HT2 := Lib.hid htb
  have HB2 := Lib.hid (HB1.out.alloc HB1.out.size (.cells #[.slice A0 T.category.length k0, .slice A1 T.cls.length k1, .slice A2 T.joining.length k2, .slice A3 T.bidi.length k3, .slice A4 T.script.length k4, .slice A5 T.status.length k5, .slice A6 T.ignorable.length k6, .slice A7 T.extensions.length k7, .slice A8 T.maps.length k8, .slice A9 T.decomps.length k9, .slice A10 T.excluded.length k10, .slice A11 T.prototypes.length k11] 26))
  clear htb HT1 HT
  generalize w1.alloc (.cells #[.slice A0 T.category.length k0, .slice A1 T.cls.length k1, .slice A2 T.joining.length k2, .slice A3 T.bidi.length k3, .slice A4 T.script.length k4, .slice A5 T.status.length k5, .slice A6 T.ignorable.length k6, .slice A7 T.extensions.length k7, .slice A8 T.maps.length k8, .slice A9 T.decomps.length k9, .slice A10 T.excluded.length k10, .slice A11 T.prototypes.length k11] 26) = w2 at *
  generalize w1.heap.size = tb at *
  clear ht
  refine wp_region_as (ops := (opsAt Tryd.f10 2)) (by kernel_rfl) ?_
  refine made6_region (b := tb) (t := t) (T := T) (vm := vm) (ms := ms) (vr := vr) (rs := rs) ⟨HT2.out, HG.out.later HB2.out, HM.out.later HB2.out, HR.out.later HB2.out⟩ ⟨rfl, rfl, by intro p hp; simp [made6Fixed] at hp; rcases hp with rfl | rfl | rfl <;> rfl⟩ ?_
  intro a w' hc hf hv
  rename_i K hK
  refine hK a w' ?_
  go_wp2
  exact bodyPost_ret (v := .bool true) (by simp [results, Tryd.results10, hv]) hf ⟨rfl, below_next HB2.out hc⟩
theorem OrderMade_walk (W : World) (hg : Glob W) (v : Value) (xs : List Int) (hv : Ints W W.heap.size .i64 v xs) (_ : ∀ x ∈ xs, -9223372036854775808 ≤ x ∧ x ≤ 9223372036854775807) (_ : xs.length * 8 ≤ 140737488351232) (vm : Value) (ms : List Int) (hm : Ints W W.heap.size .i64 vm ms) (_ : ∀ x ∈ ms, -9223372036854775808 ≤ x ∧ x ≤ 9223372036854775807) (_ : ms.length * 8 ≤ 140737488351232) (vr : Value) (rs : List Int) (hr : Ints W W.heap.size .i64 vr rs) (_ : ∀ x ∈ rs, -9223372036854775808 ≤ x ∧ x ≤ 9223372036854775807) (_ : rs.length * 8 ≤ 140737488351232) :
    Calls Tryd.prog 10 #[v, vm, vr] W fun e W' => e = .returned (.bool true) ∧ Below W.heap.size W W' := OrderMade_go W hg v xs hv vm ms hm vr rs hr
end Go.Proofs.YtneinkpfhkojgaaDoor
