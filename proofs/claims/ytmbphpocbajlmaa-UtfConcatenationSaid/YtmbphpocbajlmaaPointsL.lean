/-
  The walk through keep.Points.
-/
import Derived.Test.YtmbphpocbajlmaaPoints
import Derived.Test.YtmbphpocbajlmaaUtfA
namespace Go.Proofs.Ytmbphpocbajlmaa
open Go.RowKit ND

theorem Try.infoInt2 : (Try.prog.info? 3).map (fun i => (i.zero, i.size, i.bytes)) = some (some (.int .i64 0), 1, 8) := by kernel_rfl
theorem all_snoc {f : Int → Bool} {acc : List Int} {y : Int} (h : ∀ x ∈ acc, f x = true) (h0 : f y = true) : ∀ x ∈ acc ++ [y], f x = true := by
  intro x hx
  rcases List.mem_append.1 hx with h2 | h2
  · exact h x h2
  · rw [List.mem_singleton] at h2; subst h2; exact h0

/-- At most ten scalar values come back. -/
def RetPoints (w : World) (e : Ending) (w' : World) : Prop :=
  ∃ v ys, e = .returned v ∧ Ints w' w'.heap.size .i64 v ys ∧ ys.length ≤ 10 ∧ (∀ c ∈ ys, scalarB c = true) ∧ Below w.heap.size w w'

set_option maxRecDepth 100000 in
set_option maxHeartbeats 1000000 in
theorem points_any (w : World) (v : Value) (xs : List Int) (hv : Ints w w.heap.size .i64 v xs) : Calls Try.prog 23 #[v] w (RetPoints w) := by
  obtain ⟨i0, hi, hz0, hz1, hz2⟩ := info_parts Try.infoInt2
  obtain ⟨A, c, rfl⟩ : ∃ A c, v = .slice A xs.length c := by obtain ⟨A, c, h, _⟩ := hv; exact ⟨A, c, h⟩
  go_enter Try.func23, Try.ntmps23
  go_wp2_with fail
  refine (from_any A xs.length c w).mono ?_
  rintro e w1 ⟨rfl, rfl⟩
  have hs1 : Src (w.alloc (.cells #[.slice A xs.length c, .int .i64 0] 79)) w.heap.size (.slice A xs.length c) xs.length := ⟨0, Nat.zero_le _, Blk.new w _ _⟩
  have hbel1 : Below w.heap.size w (w.alloc (.cells #[.slice A xs.length c, .int .i64 0] 79)) := (Below.refl _ _).alloc (Nat.le_refl _) _
  have hsz1 : w.heap.size + 1 ≤ (w.alloc (.cells #[.slice A xs.length c, .int .i64 0] 79)).heap.size := by simp
  generalize w.alloc (.cells #[.slice A xs.length c, .int .i64 0] 79) = w1 at *
  have hv1 := hv.below hbel1
  go_wp2_with fail
  refine (next_src w1 w.heap.size _ xs 11 hv1 hs1 (by decide) (by decide)).mono ?_
  rintro e w2 ⟨r, rfl, hr0, hr1, hs2, hg2⟩
  have hbel2 := below_of_grown hbel1 hg2 (Nat.le_refl _) (by omega)
  have hsz2 := Nat.le_trans hsz1 hg2.size
  obtain ⟨m0, rfl⟩ := Int.eq_ofNat_of_zero_le hr0
  have hm0 : m0 ≤ 10 := by omega
  have HS2 := Lib.hid hs2
  have HV := Lib.hid hv
  clear hs2 hs1 hbel1 hsz1 hv1 hg2 hr0 hr1 hv
  go_wp2_with fail
  go_loopw [4, 5] (fun l n wr => ∃ (m : Nat) (acc : List Int), n = .int .i64 m ∧ acc.length + m ≤ 10 ∧ wr.ownsRow (w.heap.size + 1) 3 1 l acc.length (acc.map (Value.int .i64)) ∧ Hid (∀ x ∈ acc, scalarB x = true) ∧ Hid (Src wr w.heap.size (.slice A xs.length c) xs.length) ∧ Below w.heap.size w wr ∧ w.heap.size + 1 ≤ wr.heap.size) (fun _ n _ => (intOf n).toNat)
  case atStart => exact ⟨m0, [], rfl, by simpa using hm0, World.ownsRow_nil _ _ _ _, Lib.hid (by simp), HS2, hbel2, hsz2⟩
  case round =>
    obtain ⟨m, acc, rfl, hm, hown, HF, HS, hbel, hsz⟩ := hrel
    by_cases hlt : 0 < m
    · have hv' := HV.out.below hbel
      go_wp2_with fail
      refine (point_src wr w.heap.size _ xs hv' HS.out).mono ?_
      rintro e w3 ⟨x, rfl, hx, hs3, hg3⟩
      have hbel3 := below_of_grown hbel hg3 (Nat.le_refl _) (by omega)
      have hsz3 := Nat.le_trans hsz hg3.size
      have hown3 := own_grown hown hg3 (by omega)
      have HF' := Lib.hid (all_snoc HF.out hx)
      clear hv' hown hbel hsz hg3 HS HF hx
      have HS3 := Lib.hid hs3; clear hs3
      go_wp2_with (at_builtin; refine wpList_append_own _ rfl _ _ 35 rfl (w.heap.size + 1) 3 i0 (.int .i64 0) 1 8 Try.underlying35 hi hz0 hz1 hz2 rfl (by decide) _ _ _ rfl (hown3.alloc _) ⟨w3.heap.size, 0, none⟩ 1 1 [.int .i64 x] rfl rfl (cell_one_new _ _ _) ?c1 ?c2 ?c3 ?c4 ?_)
      case c1 => intro u hu; simp at hu; subst hu; rfl
      case c2 => unfold maxLen; omega
      case c3 => omega
      case c4 => simp; omega
      intro v' w4 hown4 hgrow _
      have hbel4 : Below w.heap.size w w4 := (hbel3.alloc hbel3.size _).grown hgrow (by have := hbel3.size; simp; omega) (fun k hk => by have := (hown3.lt k hk).1; omega)
      have hsz4 : w.heap.size + 1 ≤ w4.heap.size := by have := hgrow.size; simp at this; omega
      have HS4 := Lib.hid ((HS3.out.alloc _).grown hgrow (fun hk => by have := (hown3.lt _ hk.symm).1; omega))
      clear hgrow hown3 hbel3 hsz3 HS3
      go_wp2_with fail
      go_roundw
      case rel => exact ⟨m - 1, acc ++ [x], by go_num, by simp; omega, by simpa using hown4, HF', HS4, hbel4, hsz4⟩
      case measure => simp [intOf]; omega
    · go_wp2_with fail
      go_ret
      exact ⟨_, acc, rfl, Ints.of_own hown, by omega, HF.out, hbel⟩
end Go.Proofs.Ytmbphpocbajlmaa
