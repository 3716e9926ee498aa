/-
  Merged texts: lemmas and walks that the last text of this claim leans on.
-/
import Derived.Test.YtecpbicfiaifdaaGreatDoorMgB74
import Derived.Test.YtecpbicfiaifdaaGreatDoorMgB71
import Derived.Test.YtecpbicfiaifdaaGreatDoorMgB78
/-
  The walk through keep.Points.
-/
namespace Go.Proofs.YtecpbicfiaifdaaGreatDoor
open Go.RowKit ND

theorem all_snoc {f : Int → Bool} {acc : List Int} {y : Int} (h : ∀ x ∈ acc, f x = true) (h0 : f y = true) : ∀ x ∈ acc ++ [y], f x = true := by
  intro x hx
  rcases List.mem_append.1 hx with h2 | h2
  · exact h x h2
  · rw [List.mem_singleton] at h2; subst h2; exact h0

/-- At most ten scalar values come back. -/
def RetPoints (w : World) (e : Ending) (w' : World) : Prop :=
  ∃ v ys, e = .returned v ∧ Ints w' w'.heap.size .i64 v ys ∧ ys.length ≤ 10 ∧ (∀ c ∈ ys, scalarB c = true) ∧ Below w.heap.size w w'

/-- At most ten scalar values come back, in a row of the call's own. -/
def RetPointsO (w : World) (e : Ending) (w' : World) : Prop :=
  ∃ (v : Value) (ys : List Int), e = .returned v ∧ w'.ownsRow (w.heap.size + 1) 3 1 v ys.length (ys.map (Value.int .i64)) ∧ ys.length ≤ 10 ∧ (∀ c ∈ ys, scalarB c = true) ∧ Below w.heap.size w w' ∧ w.heap.size + 1 ≤ w'.heap.size

set_option maxRecDepth 100000 in
set_option maxHeartbeats 1000000 in
theorem pointsO_any (w : World) (v : Value) (xs : List Int) (hv : Ints w w.heap.size .i64 v xs) : Calls Tryz.prog 13 #[v] w (RetPointsO w) := by
  obtain ⟨i0, hi, hz0, hz1, hz2⟩ := info_parts Tryz.infoInt'
  obtain ⟨A, c, rfl⟩ : ∃ A c, v = .slice A xs.length c := by obtain ⟨A, c, h, _⟩ := hv; exact ⟨A, c, h⟩
  go_enter Tryz.func13, Tryz.ntmps13
  go_wp2_with fail
  refine (from_any A xs.length c w).mono ?_
  rintro e w1 ⟨rfl, rfl⟩
  have hs1 : Src (w.alloc (.cells #[.slice A xs.length c, .int .i64 0] 87)) w.heap.size (.slice A xs.length c) xs.length := ⟨0, Nat.zero_le _, Blk.new w _ _⟩
  have hbel1 : Below w.heap.size w (w.alloc (.cells #[.slice A xs.length c, .int .i64 0] 87)) := (Below.refl _ _).alloc (Nat.le_refl _) _
  have hsz1 : w.heap.size + 1 ≤ (w.alloc (.cells #[.slice A xs.length c, .int .i64 0] 87)).heap.size := by simp
  generalize w.alloc (.cells #[.slice A xs.length c, .int .i64 0] 87) = w1 at *
  have hv1 := hv.below hbel1
  go_wp2_with fail
  refine (next_src w1 w.heap.size _ xs 11 hv1 hs1 (by decide) (by decide)).mono ?_
  rintro e w2 ⟨r, rfl, hr0, hr1, hs2, hg2⟩
  have hbel2 := below_of_grown hbel1 hg2 (Nat.le_refl _) (by omega)
  have hsz2 := Nat.le_trans hsz1 hg2.size
  obtain ⟨m0, rfl⟩ := Int.eq_ofNat_of_zero_le hr0
  have hm0 : m0 ≤ 10 := by omega
  have HS2 := Lib.hid hs2
  have HV := Lib.hid hv
  clear hs2 hs1 hbel1 hsz1 hv1 hg2 hr0 hr1 hv
  go_wp2_with fail
  go_loopw [4, 5] (fun l n wr => ∃ (m : Nat) (acc : List Int), n = .int .i64 m ∧ acc.length + m ≤ 10 ∧ wr.ownsRow (w.heap.size + 1) 3 1 l acc.length (acc.map (Value.int .i64)) ∧ Hid (∀ x ∈ acc, scalarB x = true) ∧ Hid (Src wr w.heap.size (.slice A xs.length c) xs.length) ∧ Below w.heap.size w wr ∧ w.heap.size + 1 ≤ wr.heap.size) (fun _ n _ => (intOf n).toNat)
  case atStart => exact ⟨m0, [], rfl, by simpa using hm0, World.ownsRow_nil _ _ _ _, Lib.hid (by simp), HS2, hbel2, hsz2⟩
  case round =>
    obtain ⟨m, acc, rfl, hm, hown, HF, HS, hbel, hsz⟩ := hrel
    by_cases hlt : 0 < m
    · have hv' := HV.out.below hbel
      go_wp2_with fail
      refine (point_src wr w.heap.size _ xs hv' HS.out).mono ?_
      rintro e w3 ⟨x, rfl, hx, hs3, hg3⟩
      have hbel3 := below_of_grown hbel hg3 (Nat.le_refl _) (by omega)
      have hsz3 := Nat.le_trans hsz hg3.size
      have hown3 := own_grown hown hg3 (by omega)
      have HF' := Lib.hid (all_snoc HF.out hx)
      clear hv' hown hbel hsz hg3 HS HF hx
      have HS3 := Lib.hid hs3; clear hs3
      go_wp2_with (at_builtin; refine wpList_append_own _ rfl _ _ 22 rfl (w.heap.size + 1) 3 i0 (.int .i64 0) 1 8 Tryz.underlying22 hi hz0 hz1 hz2 rfl (by decide) _ _ _ rfl (hown3.alloc _) ⟨w3.heap.size, 0, none⟩ 1 1 [.int .i64 x] rfl rfl (cell_one_new _ _ _) ?c1 ?c2 ?c3 ?c4 ?_)
      case c1 => intro u hu; simp at hu; subst hu; rfl
      case c2 => unfold maxLen; omega
      case c3 => omega
      case c4 => simp; omega
      intro v' w4 hown4 hgrow _
      have hbel4 : Below w.heap.size w w4 := (hbel3.alloc hbel3.size _).grown hgrow (by have := hbel3.size; simp; omega) (fun k hk => by have := (hown3.lt k hk).1; omega)
      have hsz4 : w.heap.size + 1 ≤ w4.heap.size := by have := hgrow.size; simp at this; omega
      have HS4 := Lib.hid ((HS3.out.alloc _).grown hgrow (fun hk => by have := (hown3.lt _ hk.symm).1; omega))
      clear hgrow hown3 hbel3 hsz3 HS3
      go_wp2_with fail
      go_roundw
      case rel => exact ⟨m - 1, acc ++ [x], by go_num, by simp; omega, by simpa using hown4, HF', HS4, hbel4, hsz4⟩
      case measure => simp [intOf]; omega
    · go_wp2_with fail
      go_ret
      exact ⟨_, acc, rfl, hown, by omega, HF.out, hbel, hsz⟩

theorem points_any (w : World) (v : Value) (xs : List Int) (hv : Ints w w.heap.size .i64 v xs) : Calls Tryz.prog 13 #[v] w (RetPoints w) :=
  (pointsO_any w v xs hv).mono fun _ _ ⟨v, ys, h1, h2, h3, h4, h5, _⟩ => ⟨v, ys, h1, Ints.of_own h2, h3, h4, h5⟩
end Go.Proofs.YtecpbicfiaifdaaGreatDoor
/-
  The walks through keep.word and keep.Word.
-/
namespace Go.Proofs.YtecpbicfiaifdaaGreatDoor
open Go.RowKit ND

def wlitL : List Int := [769, 803, 945, 946, 1072, 1488, 1576, 1632, 7680, 7681, 7682, 19968, 44032, 8204, 2381]
def wordL : List Int := [97, 98, 109, 110, 111, 114, 48, 120, 121] ++ wlitL
def wordB (c : Int) : Bool := wordL.contains c
theorem wlit_mem : ∀ c ∈ wlitL, wordB c = true := by decide
theorem word_scal : ∀ c ∈ wordL, scalarB c = true := by decide
theorem words_scal {ys : List Int} (h : ∀ c ∈ ys, wordB c = true) : ys.all scalarB = true := by
  rw [List.all_eq_true]
  exact fun c hc => word_scal c (by have := h c hc; unfold wordB at this; simpa using this)
theorem wall_snoc {acc : List Int} {y : Int} (h : ∀ x ∈ acc, wordB x = true) (h0 : wordB y = true) : ∀ x ∈ acc ++ [y], wordB x = true := by
  intro x hx
  rcases List.mem_append.1 hx with h2 | h2
  · exact h x h2
  · rw [List.mem_singleton] at h2; subst h2; exact h0

def RetWord1 (w : World) (g : Nat) (v : Value) (n : Nat) (e : Ending) (w' : World) : Prop :=
  ∃ r : Int, e = .returned (.int .i64 r) ∧ wordB r = true ∧ Src w' g v n ∧ w.grownBy w' (some g)

set_option maxRecDepth 100000 in
set_option maxHeartbeats 1000000 in
theorem word_src (w : World) (g : Nat) (v : Value) (xs : List Int) (hv : Ints w g .i64 v xs) (hs : Src w g v xs.length) :
    Calls Tryz.prog 57 #[.pointer (some ⟨g, 0, none⟩)] w (RetWord1 w g v xs.length) := by
  have hlt := hs.lt
  go_enter Tryz.func57, Tryz.ntmps57
  go_wp2_with fail
  refine (next_src w g v xs 2 hv hs (by decide) (by decide)).mono ?_
  rintro e w2 ⟨r, rfl, hr0, hr1, hs2, hg2⟩
  have hv2 := hv.grown hg2 hlt
  have hc2 : r = 0 ∨ 1 ≤ r ∧ (r == 0) = false := by
    have : r = 0 ∨ 1 ≤ r := by omega
    rcases this with h | h
    · exact .inl h
    · exact .inr ⟨h, beq_eq_false_iff_ne.2 (by omega)⟩
  rcases hc2 with rfl | ⟨h5, q0⟩
  · go_wp2_with fail
    refine (next_src w2 g v xs 9 hv2 hs2 (by decide) (by decide)).mono ?_
    rintro e w3 ⟨s, rfl, hs0, hs1', hs3, hg3⟩
    have hG3 := grown_trans hg2 hg3
    have h12 : s = 0 ∨ s = 1 ∨ s = 2 ∨ s = 3 ∨ s = 4 ∨ s = 5 ∨ s = 6 ∨ s = 7 ∨ s = 8 := by omega
    clear hs0 hs1' hg3 hv2 hs2 hg2 hv hs
    rcases h12 with rfl | rfl | rfl | rfl | rfl | rfl | rfl | rfl | rfl
    all_goals
      go_wp2_with fail
      go_ret
      exact ⟨_, rfl, by first | decide +kernel | kernel_rfl | rfl, hs3, hG3⟩
  · go_wp2_with fail
    have hg' := grown_alloc w2 (.cells #[.int .i64 769, .int .i64 803, .int .i64 945, .int .i64 946, .int .i64 1072, .int .i64 1488, .int .i64 1576, .int .i64 1632, .int .i64 7680, .int .i64 7681, .int .i64 7682, .int .i64 19968, .int .i64 44032, .int .i64 8204, .int .i64 2381] 3) (some g)
    refine (next_src _ g v xs 15 (hv2.grown hg' hs2.lt) (hs2.alloc _) (by decide) (by decide)).mono ?_
    rintro e w3 ⟨s, rfl, hs0, hs1', hs3, hg3⟩
    have hG3 := grown_trans hg2 (grown_trans hg' hg3)
    have hk := cell_kept w2.heap.size (cells_new w2 [.int .i64 769, .int .i64 803, .int .i64 945, .int .i64 946, .int .i64 1072, .int .i64 1488, .int .i64 1576, .int .i64 1632, .int .i64 7680, .int .i64 7681, .int .i64 7682, .int .i64 19968, .int .i64 44032, .int .i64 8204, .int .i64 2381] 3) hg3 (by simp) (by have := hs2.lt; omega)
    obtain ⟨m, rfl⟩ := Int.eq_ofNat_of_zero_le hs0
    have hm : m < wlitL.length := by show m < 15; omega
    obtain ⟨x, hx, hxm⟩ := get_of hm
    have k0 := hk m (.int .i64 x) (by
      have h : (wlitL.map (Value.int .i64))[m]? = some (.int .i64 x) := by rw [List.getElem?_map, hx]; rfl
      exact h)
    have hsx := Lib.hid (wlit_mem x hxm)
    clear hk hx hxm hg3 hg'
    go_wp2_with fail
    go_ret
    exact ⟨_, rfl, hsx.out, hs3, hG3⟩

/-- One to six code points of a word come back, in a row of the call's own. -/
def RetWords (w : World) (e : Ending) (w' : World) : Prop :=
  ∃ (v : Value) (ys : List Int), e = .returned v ∧ w'.ownsRow (w.heap.size + 1) 3 1 v ys.length (ys.map (Value.int .i64)) ∧ ys.length ≤ 6 ∧ (∀ c ∈ ys, wordB c = true) ∧ Below w.heap.size w w' ∧ w.heap.size + 1 ≤ w'.heap.size

set_option maxRecDepth 100000 in
set_option maxHeartbeats 1000000 in
theorem word_any (w : World) (v : Value) (xs : List Int) (hv : Ints w w.heap.size .i64 v xs) : Calls Tryz.prog 24 #[v] w (RetWords w) := by
  obtain ⟨i0, hi, hz0, hz1, hz2⟩ := info_parts Tryz.infoInt'
  obtain ⟨A, c, rfl⟩ : ∃ A c, v = .slice A xs.length c := by obtain ⟨A, c, h, _⟩ := hv; exact ⟨A, c, h⟩
  go_enter Tryz.func24, Tryz.ntmps24
  go_wp2_with fail
  refine (from_any A xs.length c w).mono ?_
  rintro e w1 ⟨rfl, rfl⟩
  have hs1 : Src (w.alloc (.cells #[.slice A xs.length c, .int .i64 0] 87)) w.heap.size (.slice A xs.length c) xs.length := ⟨0, Nat.zero_le _, Blk.new w _ _⟩
  have hbel1 : Below w.heap.size w (w.alloc (.cells #[.slice A xs.length c, .int .i64 0] 87)) := (Below.refl _ _).alloc (Nat.le_refl _) _
  have hsz1 : w.heap.size + 1 ≤ (w.alloc (.cells #[.slice A xs.length c, .int .i64 0] 87)).heap.size := by simp
  generalize w.alloc (.cells #[.slice A xs.length c, .int .i64 0] 87) = w1 at *
  have hv1 := hv.below hbel1
  go_wp2_with fail
  refine (next_src w1 w.heap.size _ xs 6 hv1 hs1 (by decide) (by decide)).mono ?_
  rintro e w2 ⟨r, rfl, hr0, hr1, hs2, hg2⟩
  have hbel2 := below_of_grown hbel1 hg2 (Nat.le_refl _) (by omega)
  have hsz2 := Nat.le_trans hsz1 hg2.size
  obtain ⟨m9, hm9⟩ := Int.eq_ofNat_of_zero_le hr0
  obtain ⟨m0, hm00⟩ : ∃ m0, m0 = m9 + 1 := ⟨_, rfl⟩
  have hm0 : m0 ≤ 6 := by omega
  have hme : 1 + r = (m0 : Int) := by omega
  clear hm9 hm00
  have HS2 := Lib.hid hs2
  have HV := Lib.hid hv
  clear hs2 hs1 hbel1 hsz1 hv1 hg2 hr0 hr1 hv
  go_wp2_with fail
  go_loopw [4, 5] (fun l n wr => ∃ (m : Nat) (acc : List Int), n = .int .i64 m ∧ acc.length + m ≤ 6 ∧ wr.ownsRow (w.heap.size + 1) 3 1 l acc.length (acc.map (Value.int .i64)) ∧ Hid (∀ x ∈ acc, wordB x = true) ∧ Hid (Src wr w.heap.size (.slice A xs.length c) xs.length) ∧ Below w.heap.size w wr ∧ w.heap.size + 1 ≤ wr.heap.size) (fun _ n _ => (intOf n).toNat)
  case atStart => exact ⟨m0, [], rfl, by simpa using hm0, World.ownsRow_nil _ _ _ _, Lib.hid (by simp), HS2, hbel2, hsz2⟩
  case round =>
    obtain ⟨m, acc, rfl, hm, hown, HF, HS, hbel, hsz⟩ := hrel
    by_cases hlt : 0 < m
    · have hv' := HV.out.below hbel
      go_wp2_with fail
      refine (word_src wr w.heap.size _ xs hv' HS.out).mono ?_
      rintro e w3 ⟨x, rfl, hx, hs3, hg3⟩
      have hbel3 := below_of_grown hbel hg3 (Nat.le_refl _) (by omega)
      have hsz3 := Nat.le_trans hsz hg3.size
      have hown3 := own_grown hown hg3 (by omega)
      have HF' := Lib.hid (wall_snoc HF.out hx)
      clear hv' hown hbel hsz hg3 HS HF hx
      have HS3 := Lib.hid hs3; clear hs3
      go_wp2_with (at_builtin; refine wpList_append_own _ rfl _ _ 22 rfl (w.heap.size + 1) 3 i0 (.int .i64 0) 1 8 Tryz.underlying22 hi hz0 hz1 hz2 rfl (by decide) _ _ _ rfl (hown3.alloc _) ⟨w3.heap.size, 0, none⟩ 1 1 [.int .i64 x] rfl rfl (cell_one_new _ _ _) ?c1 ?c2 ?c3 ?c4 ?_)
      case c1 => intro u hu; simp at hu; subst hu; rfl
      case c2 => unfold maxLen; omega
      case c3 => omega
      case c4 => simp; omega
      intro v' w4 hown4 hgrow _
      have hbel4 : Below w.heap.size w w4 := (hbel3.alloc hbel3.size _).grown hgrow (by have := hbel3.size; simp; omega) (fun k hk => by have := (hown3.lt k hk).1; omega)
      have hsz4 : w.heap.size + 1 ≤ w4.heap.size := by have := hgrow.size; simp at this; omega
      have HS4 := Lib.hid ((HS3.out.alloc _).grown hgrow (fun hk => by have := (hown3.lt _ hk.symm).1; omega))
      clear hgrow hown3 hbel3 hsz3 HS3
      go_wp2_with fail
      go_roundw
      case rel => exact ⟨m - 1, acc ++ [x], by go_num, by simp; omega, by simpa using hown4, HF', HS4, hbel4, hsz4⟩
      case measure => simp [intOf]; omega
    · go_wp2_with fail
      go_ret
      exact ⟨_, acc, rfl, hown, by omega, HF.out, hbel, hsz⟩

end Go.Proofs.YtecpbicfiaifdaaGreatDoor
/-
  The reference's find hands back a value that is known ahead of the call.
-/
namespace Go.Proofs.YtecpbicfiaifdaaGreatDoor
open Go.RowKit ND

/-- What the reference's find hands back in whatever later world. -/
def RefFindsIn (w : World) (v : Value) (c : Int) (u : Value) : Prop := ∀ W, Below w.heap.size w W → Calls Tryz.prog 56 #[v, .int .i64 c] W fun e W' => e = .returned u ∧ Below W.heap.size W W'

set_option maxRecDepth 100000 in
set_option maxHeartbeats 1000000 in
theorem refFind_v (v : Value) (xs : List Mp) (c : Int) (w : World) (hv : Mapps w w.heap.size v xs) (hs : sortM xs) :
    ∃ u, Ints w w.heap.size .i64 u (findL xs c) ∧ (findL xs c = [] → ∃ A k, u = .slice A 0 k) ∧ RefFindsIn w v c u := by
  obtain ⟨A, cap, rfl, hc1, hc2, _, hcell⟩ := hv
  have hlm : xs.length ≤ 9223372036854775807 := by unfold maxLen at hc2; omega
  clear hc1 hc2
  by_cases hk : ∃ (k0 : Nat) (a : Mp), xs[k0]? = some a ∧ a.1 = c
  · obtain ⟨k0, ⟨f, ys⟩, hx0, hfc⟩ := hk
    simp only at hfc
    subst hfc
    obtain ⟨ad, sv, rfl, ha, d0, d1, hsv⟩ := hcell k0 _ hx0
    simp only at d0 d1 hsv
    have hlow0 : ∀ i a, i < k0 → xs[i]? = some a → a.1 < f := fun i a hi hxi => hs i k0 a (f, ys) hi hxi hx0
    have hfind : findL xs f = ys := findL_at hlow0 hx0 rfl
    rw [hfind]
    obtain ⟨A', c', rfl, _⟩ := id hsv
    refine ⟨_, hsv, fun e => ⟨A', c', by rw [e]; rfl⟩, fun W hW => ?_⟩
    have hk0 : k0 < xs.length := (List.getElem?_eq_some_iff.1 hx0).1
    have HC := Lib.hid hcell
    have HLO := Lib.hid hlow0
    have HD := Lib.hid (And.intro d0 d1)
    clear hcell hsv d0 d1 hfind hx0 hlow0 hs
    go_enter Tryz.func56, Tryz.ntmps56
    go_wp2_with fail
    go_loopw [9] (fun i wr => ∃ (j : Nat), j ≤ k0 ∧ i = .int .i64 j ∧ Below W.heap.size W wr) (fun i _ => k0 + 1 - (intOf i).toNat)
    case atStart => exact ⟨0, by omega, rfl, Below.refl _ _⟩
    case round =>
      obtain ⟨j, hj, rfl, hbel⟩ := hrel
      have hbw : Below w.heap.size w wr := below_next hW hbel
      by_cases hjl : j < k0
      · obtain ⟨⟨g, tg⟩, hxj, _⟩ := get_el (xs := xs) (k := j) (by omega)
        obtain ⟨aj, sv, hA, haj, d0, d1, hto⟩ := HC.out j _ hxj
        cases hA
        simp only at d0 d1 hto
        obtain ⟨Aj, cj, rfl, _⟩ := hto
        obtain ⟨e0, e1⟩ := map_cells hbw ha d0 d1
        have hne := HLO.out j _ hjl hxj
        simp only at hne
        have p1 : (g == f) = false := by rw [beq_eq_false_iff_ne]; omega
        clear d0 d1 hxj hne haj
        have r0 : (0 : Int) ≤ (j : Int) := by omega
        have r1 : (j : Int) < (xs.length : Int) := by omega
        go_wp2_with fail
        go_roundw
        case rel => exact ⟨j + 1, by omega, by go_num, hbel.alloc hbel.size _⟩
        case measure => simp [intOf]; omega
      · obtain rfl : j = k0 := by omega
        obtain ⟨e0, e1⟩ := map_cells hbw ha HD.out.1 HD.out.2
        have r0 : (0 : Int) ≤ (j : Int) := by omega
        have r1 : (j : Int) < (xs.length : Int) := by omega
        go_wp2_with fail
        go_ret
        exact ⟨rfl, hbel.alloc hbel.size _⟩
  · have hno : ∀ (i : Nat) (a : Mp), xs[i]? = some a → a.1 ≠ c := fun i a hi e => hk ⟨i, a, hi, e⟩
    have hfind : findL xs c = [] := findL_no hno
    rw [hfind]
    refine ⟨.slice none 0 0, Ints.none_, fun _ => ⟨_, _, rfl⟩, fun W hW => ?_⟩
    have HC := Lib.hid hcell
    have HNO := Lib.hid hno
    clear hcell hno hfind hk hs
    go_enter Tryz.func56, Tryz.ntmps56
    go_wp2_with fail
    go_loopw [9] (fun i wr => ∃ (j : Nat), j ≤ xs.length ∧ i = .int .i64 j ∧ Below W.heap.size W wr) (fun i _ => xs.length - (intOf i).toNat)
    case atStart => exact ⟨0, by omega, rfl, Below.refl _ _⟩
    case round =>
      obtain ⟨j, hj, rfl, hbel⟩ := hrel
      have hbw : Below w.heap.size w wr := below_next hW hbel
      by_cases hjl : j < xs.length
      · obtain ⟨⟨g, tg⟩, hxj, _⟩ := get_el hjl
        obtain ⟨aj, sv, rfl, haj, d0, d1, hto⟩ := HC.out j _ hxj
        simp only at d0 d1 hto
        obtain ⟨Aj, cj, rfl, _⟩ := hto
        obtain ⟨e0, e1⟩ := map_cells hbw haj d0 d1
        have hne := HNO.out j _ hxj
        simp only at hne
        have p1 : (g == c) = false := by rw [beq_eq_false_iff_ne]; exact hne
        clear d0 d1 hxj hne haj
        have r0 : (0 : Int) ≤ (j : Int) := by omega
        have r1 : (j : Int) < (xs.length : Int) := by omega
        go_wp2_with fail
        go_roundw
        case rel => exact ⟨j + 1, by omega, by go_num, hbel.alloc hbel.size _⟩
        case measure => simp [intOf]; omega
      · go_wp2_with fail
        go_ret
        exact ⟨rfl, hbel⟩
end Go.Proofs.YtecpbicfiaifdaaGreatDoor
