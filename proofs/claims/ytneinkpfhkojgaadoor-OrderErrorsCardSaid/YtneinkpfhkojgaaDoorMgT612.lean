/-
  Merged texts: lemmas and walks that the last text of this claim leans on.
-/
import Derived.Test.YtneinkpfhkojgaaDoorMgT62
import Derived.Test.YtneinkpfhkojgaaDoorMgT61
import Derived.Test.YtneinkpfhkojgaaDoorMgT67
import Derived.Test.YtneinkpfhkojgaaDoorMgT68
import Derived.Test.YtneinkpfhkojgaaDoorMgT611
/-
  The walk through keep.Points.
-/
namespace Go.Proofs.YtneinkpfhkojgaaDoor
open Go.RowKit ND

theorem all_snoc {f : Int → Bool} {acc : List Int} {y : Int} (h : ∀ x ∈ acc, f x = true) (h0 : f y = true) : ∀ x ∈ acc ++ [y], f x = true := by
  intro x hx
  rcases List.mem_append.1 hx with h2 | h2
  · exact h x h2
  · rw [List.mem_singleton] at h2; subst h2; exact h0

/-- At most ten scalar values come back. -/
def RetPoints (w : World) (e : Ending) (w' : World) : Prop :=
  ∃ v ys, e = .returned v ∧ Ints w' w'.heap.size .i64 v ys ∧ ys.length ≤ 10 ∧ (∀ c ∈ ys, scalarB c = true) ∧ Below w.heap.size w w'

/-- At most ten scalar values come back, in a row of the call's own. -/
def RetPointsO (w : World) (e : Ending) (w' : World) : Prop :=
  ∃ (v : Value) (ys : List Int), e = .returned v ∧ w'.ownsRow (w.heap.size + 1) 3 1 v ys.length (ys.map (Value.int .i64)) ∧ ys.length ≤ 10 ∧ (∀ c ∈ ys, scalarB c = true) ∧ Below w.heap.size w w' ∧ w.heap.size + 1 ≤ w'.heap.size

set_option maxRecDepth 100000 in
set_option maxHeartbeats 1000000 in
theorem pointsO_any (w : World) (v : Value) (xs : List Int) (hv : Ints w w.heap.size .i64 v xs) : Calls Tryd.prog 25 #[v] w (RetPointsO w) := by
  obtain ⟨i0, hi, hz0, hz1, hz2⟩ := info_parts Tryd.infoInt'
  obtain ⟨A, c, rfl⟩ : ∃ A c, v = .slice A xs.length c := by obtain ⟨A, c, h, _⟩ := hv; exact ⟨A, c, h⟩
  go_enter Tryd.func25, Tryd.ntmps25
  go_wp2_with fail
  refine (from_any A xs.length c w).mono ?_
  rintro e w1 ⟨rfl, rfl⟩
  have hs1 : Src (w.alloc (.cells #[.slice A xs.length c, .int .i64 0] 72)) w.heap.size (.slice A xs.length c) xs.length := ⟨0, Nat.zero_le _, Blk.new w _ _⟩
  have hbel1 : Below w.heap.size w (w.alloc (.cells #[.slice A xs.length c, .int .i64 0] 72)) := (Below.refl _ _).alloc (Nat.le_refl _) _
  have hsz1 : w.heap.size + 1 ≤ (w.alloc (.cells #[.slice A xs.length c, .int .i64 0] 72)).heap.size := by simp
  generalize w.alloc (.cells #[.slice A xs.length c, .int .i64 0] 72) = w1 at *
  have hv1 := hv.below hbel1
  go_wp2_with fail
  refine (next_src w1 w.heap.size _ xs 11 hv1 hs1 (by decide) (by decide)).mono ?_
  rintro e w2 ⟨r, rfl, hr0, hr1, hs2, hg2⟩
  have hbel2 := below_of_grown hbel1 hg2 (Nat.le_refl _) (by omega)
  have hsz2 := Nat.le_trans hsz1 hg2.size
  obtain ⟨m0, rfl⟩ := Int.eq_ofNat_of_zero_le hr0
  have hm0 : m0 ≤ 10 := by omega
  have HS2 := Lib.hid hs2
  have HV := Lib.hid hv
  clear hs2 hs1 hbel1 hsz1 hv1 hg2 hr0 hr1 hv
  go_wp2_with fail
  go_loopw [4, 5] (fun l n wr => ∃ (m : Nat) (acc : List Int), n = .int .i64 m ∧ acc.length + m ≤ 10 ∧ wr.ownsRow (w.heap.size + 1) 3 1 l acc.length (acc.map (Value.int .i64)) ∧ Hid (∀ x ∈ acc, scalarB x = true) ∧ Hid (Src wr w.heap.size (.slice A xs.length c) xs.length) ∧ Below w.heap.size w wr ∧ w.heap.size + 1 ≤ wr.heap.size) (fun _ n _ => (intOf n).toNat)
  case atStart => exact ⟨m0, [], rfl, by simpa using hm0, World.ownsRow_nil _ _ _ _, Lib.hid (by simp), HS2, hbel2, hsz2⟩
  case round =>
    obtain ⟨m, acc, rfl, hm, hown, HF, HS, hbel, hsz⟩ := hrel
    by_cases hlt : 0 < m
    · have hv' := HV.out.below hbel
      go_wp2_with fail
      refine (point_src wr w.heap.size _ xs hv' HS.out).mono ?_
      rintro e w3 ⟨x, rfl, hx, hs3, hg3⟩
      have hbel3 := below_of_grown hbel hg3 (Nat.le_refl _) (by omega)
      have hsz3 := Nat.le_trans hsz hg3.size
      have hown3 := own_grown hown hg3 (by omega)
      have HF' := Lib.hid (all_snoc HF.out hx)
      clear hv' hown hbel hsz hg3 HS HF hx
      have HS3 := Lib.hid hs3; clear hs3
      go_wp2_with (at_builtin; refine wpList_append_own _ rfl _ _ 22 rfl (w.heap.size + 1) 3 i0 (.int .i64 0) 1 8 Tryd.underlying22 hi hz0 hz1 hz2 rfl (by decide) _ _ _ rfl (hown3.alloc _) ⟨w3.heap.size, 0, none⟩ 1 1 [.int .i64 x] rfl rfl (cell_one_new _ _ _) ?c1 ?c2 ?c3 ?c4 ?_)
      case c1 => intro u hu; simp at hu; subst hu; rfl
      case c2 => unfold maxLen; omega
      case c3 => omega
      case c4 => simp; omega
      intro v' w4 hown4 hgrow _
      have hbel4 : Below w.heap.size w w4 := (hbel3.alloc hbel3.size _).grown hgrow (by have := hbel3.size; simp; omega) (fun k hk => by have := (hown3.lt k hk).1; omega)
      have hsz4 : w.heap.size + 1 ≤ w4.heap.size := by have := hgrow.size; simp at this; omega
      have HS4 := Lib.hid ((HS3.out.alloc _).grown hgrow (fun hk => by have := (hown3.lt _ hk.symm).1; omega))
      clear hgrow hown3 hbel3 hsz3 HS3
      go_wp2_with fail
      go_roundw
      case rel => exact ⟨m - 1, acc ++ [x], by go_num, by simp; omega, by simpa using hown4, HF', HS4, hbel4, hsz4⟩
      case measure => simp [intOf]; omega
    · go_wp2_with fail
      go_ret
      exact ⟨_, acc, rfl, hown, by omega, HF.out, hbel, hsz⟩

theorem points_any (w : World) (v : Value) (xs : List Int) (hv : Ints w w.heap.size .i64 v xs) : Calls Tryd.prog 25 #[v] w (RetPoints w) :=
  (pointsO_any w v xs hv).mono fun _ _ ⟨v, ys, h1, h2, h3, h4, h5, _⟩ => ⟨v, ys, h1, Ints.of_own h2, h3, h4, h5⟩
end Go.Proofs.YtneinkpfhkojgaaDoor
/-
  The walk through marks of the laws of layer 6.
-/
namespace Go.Proofs.YtneinkpfhkojgaaDoor
open Go.RowKit ND

def markL : List Int := [769, 776, 803, 837, 2381, 97, 945, 44032]
def markB (c : Int) : Bool := markL.contains c
theorem mark_mem : ∀ c ∈ markL, markB c = true := by decide
theorem mark_scal : ∀ c ∈ markL, scalarB c = true := by decide
theorem marks_scal {ys : List Int} (h : ∀ c ∈ ys, markB c = true) : ys.all scalarB = true := by
  rw [List.all_eq_true]
  exact fun c hc => mark_scal c (by have := h c hc; unfold markB at this; simpa using this)
theorem mall_snoc {acc : List Int} {y : Int} (h : ∀ x ∈ acc, markB x = true) (h0 : markB y = true) : ∀ x ∈ acc ++ [y], markB x = true := by
  intro x hx
  rcases List.mem_append.1 hx with h2 | h2
  · exact h x h2
  · rw [List.mem_singleton] at h2; subst h2; exact h0

/-- At most nine marks come back, in a row of the call's own. -/
def RetMarks (w : World) (e : Ending) (w' : World) : Prop :=
  ∃ (v : Value) (ys : List Int), e = .returned v ∧ w'.ownsRow (w.heap.size + 1) 3 1 v ys.length (ys.map (Value.int .i64)) ∧ ys.length ≤ 9 ∧ (∀ c ∈ ys, markB c = true) ∧ Below w.heap.size w w' ∧ w.heap.size + 1 ≤ w'.heap.size

set_option maxRecDepth 100000 in
set_option maxHeartbeats 1000000 in
theorem marks_any (w : World) (v : Value) (xs : List Int) (hv : Ints w w.heap.size .i64 v xs) : Calls Tryd.prog 15 #[v] w (RetMarks w) := by
  obtain ⟨i0, hi, hz0, hz1, hz2⟩ := info_parts Tryd.infoInt'
  obtain ⟨A, c, rfl⟩ : ∃ A c, v = .slice A xs.length c := by obtain ⟨A, c, h, _⟩ := hv; exact ⟨A, c, h⟩
  go_enter Tryd.func15, Tryd.ntmps15
  go_wp2_with fail
  refine (from_any A xs.length c w).mono ?_
  rintro e w1 ⟨rfl, rfl⟩
  have hs1 : Src (w.alloc (.cells #[.slice A xs.length c, .int .i64 0] 72)) w.heap.size (.slice A xs.length c) xs.length := ⟨0, Nat.zero_le _, Blk.new w _ _⟩
  have hbel1 : Below w.heap.size w (w.alloc (.cells #[.slice A xs.length c, .int .i64 0] 72)) := (Below.refl _ _).alloc (Nat.le_refl _) _
  have hsz1 : w.heap.size + 1 ≤ (w.alloc (.cells #[.slice A xs.length c, .int .i64 0] 72)).heap.size := by simp
  generalize w.alloc (.cells #[.slice A xs.length c, .int .i64 0] 72) = w1 at *
  have hv1 := hv.below hbel1
  go_wp2_with fail
  refine (next_src w1 w.heap.size _ xs 10 hv1 hs1 (by decide) (by decide)).mono ?_
  rintro e w2 ⟨r, rfl, hr0, hr1, hs2, hg2⟩
  have hbel2 := below_of_grown hbel1 hg2 (Nat.le_refl _) (by omega)
  have hsz2 := Nat.le_trans hsz1 hg2.size
  obtain ⟨m0, rfl⟩ := Int.eq_ofNat_of_zero_le hr0
  have hm0 : m0 ≤ 9 := by omega
  have HS2 := Lib.hid hs2
  have HV := Lib.hid hv
  clear hs2 hs1 hbel1 hsz1 hv1 hg2 hr0 hr1 hv
  go_wp2_with fail
  go_loopw [4, 5] (fun l n wr => ∃ (m : Nat) (acc : List Int), n = .int .i64 m ∧ acc.length + m ≤ 9 ∧ wr.ownsRow (w.heap.size + 1) 3 1 l acc.length (acc.map (Value.int .i64)) ∧ Hid (∀ x ∈ acc, markB x = true) ∧ Hid (Src wr w.heap.size (.slice A xs.length c) xs.length) ∧ Below w.heap.size w wr ∧ w.heap.size + 1 ≤ wr.heap.size) (fun _ n _ => (intOf n).toNat)
  case atStart => exact ⟨m0, [], rfl, by simpa using hm0, World.ownsRow_nil _ _ _ _, Lib.hid (by simp), HS2, hbel2, hsz2⟩
  case round =>
    obtain ⟨m, acc, rfl, hm, hown, HF, HS, hbel, hsz⟩ := hrel
    by_cases hlt : 0 < m
    · have hv' := HV.out.below hbel
      go_wp2_with fail
      have hlw := HS.out.lt
      have hga := grown_alloc wr (.cells #[.int .i64 769, .int .i64 776, .int .i64 803, .int .i64 837, .int .i64 2381, .int .i64 97, .int .i64 945, .int .i64 44032] 3) (some w.heap.size)
      refine (next_src _ w.heap.size _ xs 8 (hv'.grown hga hlw) (HS.out.alloc _) (by decide) (by decide)).mono ?_
      rintro e w3 ⟨q, rfl, hq0, hq1, hs3, hgq⟩
      have hk := cell_kept wr.heap.size (cells_new wr [.int .i64 769, .int .i64 776, .int .i64 803, .int .i64 837, .int .i64 2381, .int .i64 97, .int .i64 945, .int .i64 44032] 3) hgq (by simp) (by omega)
      have hg3 := grown_trans hga hgq
      obtain ⟨mm, rfl⟩ := Int.eq_ofNat_of_zero_le hq0
      have hmm : mm < markL.length := by show mm < 8; omega
      obtain ⟨x, hx0, hxm⟩ := get_of hmm
      have y0 := hk mm (.int .i64 x) (by have h : (markL.map (Value.int .i64))[mm]? = some (.int .i64 x) := by rw [List.getElem?_map, hx0]; rfl
                                         exact h)
      have hx := mark_mem x hxm
      clear hk hx0 hxm hga hgq hq0 hmm
      have hbel3 := below_of_grown hbel hg3 (Nat.le_refl _) (by omega)
      have hsz3 := Nat.le_trans hsz hg3.size
      have hown3 := own_grown hown hg3 (by omega)
      have HF' := Lib.hid (mall_snoc HF.out hx)
      clear hv' hown hbel hsz hg3 HS HF hx
      have HS3 := Lib.hid hs3; clear hs3
      go_wp2_with (at_builtin; refine wpList_append_own _ rfl _ _ 22 rfl (w.heap.size + 1) 3 i0 (.int .i64 0) 1 8 Tryd.underlying22 hi hz0 hz1 hz2 rfl (by decide) _ _ _ rfl (hown3.alloc _) ⟨w3.heap.size, 0, none⟩ 1 1 [.int .i64 x] rfl rfl (cell_one_new _ _ _) ?c1 ?c2 ?c3 ?c4 ?_)
      case c1 => intro u hu; simp at hu; subst hu; rfl
      case c2 => unfold maxLen; omega
      case c3 => omega
      case c4 => simp; omega
      intro v' w4 hown4 hgrow _
      have hbel4 : Below w.heap.size w w4 := (hbel3.alloc hbel3.size _).grown hgrow (by have := hbel3.size; simp; omega) (fun k hk => by have := (hown3.lt k hk).1; omega)
      have hsz4 : w.heap.size + 1 ≤ w4.heap.size := by have := hgrow.size; simp at this; omega
      have HS4 := Lib.hid ((HS3.out.alloc _).grown hgrow (fun hk => by have := (hown3.lt _ hk.symm).1; omega))
      clear hgrow hown3 hbel3 hsz3 HS3
      go_wp2_with fail
      go_roundw
      case rel => exact ⟨m - 1, acc ++ [x], by go_num, by simp; omega, by simpa using hown4, HF', HS4, hbel4, hsz4⟩
      case measure => simp [intOf]; omega
    · go_wp2_with fail
      go_ret
      exact ⟨_, acc, rfl, hown, by omega, HF.out, hbel, hsz⟩

end Go.Proofs.YtneinkpfhkojgaaDoor
/-
  The walk through the law OrderErrors.
-/
namespace Go.Proofs.YtneinkpfhkojgaaDoor
open Go.RowKit ND

theorem short_of {T : Tab} (h : Shape T) : ShortT 256 T := ⟨h.c0.2.1, h.c1.2.1, h.c2.2.1, h.c3.2.1, h.c4.2.1, h.c5.2.1, h.c6.2.1, h.lx, h.lm, h.ld, h.lenX, h.lp⟩

set_option maxRecDepth 100000 in
set_option maxHeartbeats 4000000 in
theorem OrderErrors_go (W : World) (hg : Glob W) (v : Value) (xs : List Int) (hv : Ints W W.heap.size .i64 v xs) (u : Value) (ms : List Int) (hu : Ints W W.heap.size .i64 u ms) (a1 a2 a3 : Int) (t : Tv) (T : Tab) (ht : TabR W W.heap.size t T) :
    Calls Tryd.prog 11 #[v, u, .int .i64 a1, .int .i64 a2, .int .i64 a3, t.val] W fun e W' => e = .returned (.bool true) ∧ Below W.heap.size W W' := by
  obtain ⟨A, c, rfl, _⟩ := id hv
  obtain ⟨Au, cu, rfl, _⟩ := id hu
  have HB0 : Hid (Below W.heap.size W (W.alloc (.cells t.cells 26))) := Lib.hid ((Below.refl _ _).alloc (Nat.le_refl _) _)
  have HT : Hid (Tbl (W.alloc (.cells t.cells 26)) W.heap.size t T) := Lib.hid ⟨Blk.new _ _ _, ht.later HB0.out⟩
  have HV := Lib.hid (hv.later HB0.out)
  have HU := Lib.hid (hu.later HB0.out)
  have HG := Lib.hid (hg.later HB0.out)
  clear hv hu ht hg
  go_enter Tryd.func11, Tryd.ntmps11
  go_upto_region 1 with fail
  generalize W.alloc (.cells t.cells 26) = w1 at *
  obtain ⟨tb, htb⟩ : ∃ tb, W.heap.size = tb := ⟨_, rfl⟩
  rw [htb] at HT
  simp only [htb]
  have HX : Hid (∀ V, Below w1.heap.size w1 V → V.cell? ⟨tb, 0, none⟩ = some t.c0 ∧ V.cell? ⟨tb, 1, none⟩ = some t.c1 ∧ V.cell? ⟨tb, 2, none⟩ = some t.c2 ∧ V.cell? ⟨tb, 3, none⟩ = some t.c3 ∧ V.cell? ⟨tb, 4, none⟩ = some t.c4 ∧ V.cell? ⟨tb, 5, none⟩ = some t.c5 ∧ V.cell? ⟨tb, 6, none⟩ = some t.c6 ∧ V.cell? ⟨tb, 7, none⟩ = some t.c7 ∧ V.cell? ⟨tb, 8, none⟩ = some t.c8 ∧ V.cell? ⟨tb, 9, none⟩ = some t.c9 ∧ V.cell? ⟨tb, 10, none⟩ = some t.c10 ∧ V.cell? ⟨tb, 11, none⟩ = some t.c11) := Lib.hid fun V hV => (HT.out.later hV).1.tab
  go_wp2_with (first
    | (go_at_call 16; refine (awake6 _ HG.out).mono ?_; rintro e w2 ⟨rfl, b2⟩)
    | (go_at_call 14; refine (keepTables_any _ _ xs (HV.out.later b2)).mono ?_; rintro e w3 ⟨t3, T3, rfl, ht3, hm3, b3⟩; have B3 := Lib.hid (below_next b2 b3))
    | (go_at_call 28; refine (other_any _ t3 T3 a1 a2 a3 256 ht3 (short_of hm3.shape) (by omega)).mono ?_; rintro e w4 ⟨t4, T4, rfl, ht4, hs4, b4⟩; have B4 := Lib.hid (below_next B3.out b4); clear hm3 hs4)
    | (go_at_call 15; refine (marks_any _ _ ms (HU.out.later B4.out)).mono ?_; rintro e w5 ⟨u5, ys, rfl, ho5, hyl, hys, b5, _⟩; have B5 := Lib.hid (below_next B4.out b5))
    | (go_at_call 27; refine (agrees6_any t4 T4 u5 ys _ (ht4.later b5) (HG.out.later B5.out) (Ints.of_own ho5)).mono ?_; rintro e w6 ⟨rfl, b6⟩; have B6 := Lib.hid (below_next B5.out b6); obtain ⟨x0, x1, x2, x3, x4, x5, x6, x7, x8, x9, x10, x11⟩ := HX.out _ B6.out; clear ht4 ho5 ht3)
    | (go_at_call 27; refine (agrees6_any t T _ ms _ (HT.out.later B6.out).2 (HG.out.later B6.out) (HU.out.later B6.out)).mono ?_; rintro e w7 ⟨rfl, b7⟩; have B7 := Lib.hid (below_next B6.out b7)))
  go_ret
  exact ⟨rfl, below_next HB0.out B7.out⟩
theorem OrderErrors_walk (W : World) (hg : Glob W) (v : Value) (xs : List Int) (hv : Ints W W.heap.size .i64 v xs) (_ : ∀ x ∈ xs, -9223372036854775808 ≤ x ∧ x ≤ 9223372036854775807) (_ : xs.length * 8 ≤ 140737488351232) (u : Value) (ms : List Int) (hu : Ints W W.heap.size .i64 u ms) (_ : ∀ x ∈ ms, -9223372036854775808 ≤ x ∧ x ≤ 9223372036854775807) (_ : ms.length * 8 ≤ 140737488351232) (a1 : Int) (_ : -9223372036854775808 ≤ a1 ∧ a1 ≤ 9223372036854775807) (a2 : Int) (_ : -9223372036854775808 ≤ a2 ∧ a2 ≤ 9223372036854775807) (a3 : Int) (_ : -9223372036854775808 ≤ a3 ∧ a3 ≤ 9223372036854775807) (t : Tv) (T : Tab) (ht : TabR W W.heap.size t T) :
    Calls Tryd.prog 11 #[v, u, .int .i64 a1, .int .i64 a2, .int .i64 a3, t.val] W fun e W' => e = .returned (.bool true) ∧ Below W.heap.size W W' := OrderErrors_go W hg v xs hv u ms hu a1 a2 a3 t T ht
end Go.Proofs.YtneinkpfhkojgaaDoor
