/-
  The walk of PackedList.
-/
import Derived.Test.YtmbphpocbajlmaaPkPutList
import Derived.Test.YtmbphpocbajlmaaL3Int
import Derived.Test.YtmbphpocbajlmaaSame
import Derived.Test.YtmbphpocbajlmaaPush
namespace Go.Proofs.Ytmbphpocbajlmaa
open Go.RowKit ND

theorem fits_snoc {acc : List Int} {y : Int} (h : ∀ x ∈ acc, fitsB x = true) (h0 : -1073741824 ≤ y) (h1 : y ≤ 1073741824) : ∀ x ∈ acc ++ [y], fitsB x = true := by
  intro x hx
  rcases List.mem_append.1 hx with h2 | h2
  · exact h x h2
  · rw [List.mem_singleton] at h2; subst h2; exact (fitsB_iff _).2 ⟨h0, h1⟩
theorem putAll_len (ds : List Int) : ∀ l : List UInt8, (putAll l ds).length ≤ l.length + 10 * ds.length := by
  induction ds with
  | nil => intro l; simp [putAll]
  | cons d ds ih =>
    intro l
    have h1 := ih (putInt l d)
    have h2 := putInt_len l d
    rw [putAll_cons, List.length_cons]
    omega
theorem diffs_len (l : List Int) : ∀ last, (diffs last l).length = l.length := by
  induction l with
  | nil => intro _; rfl
  | cons v r ih => intro _; simp [diffs, ih]
theorem quiet_c {P : Program} {f : FuncId} {args : Array Value} {w : World} {v : Value} (h : Calls P f args w fun e w' => e = .returned v ∧ w = w') : Calls P f args w fun e w' => e = .returned v ∧ w' = w :=
  h.mono fun _ _ ⟨a, b⟩ => ⟨a, b.symm⟩

set_option maxRecDepth 100000 in
set_option maxHeartbeats 200000 in
theorem PackedList_walk (W : World) (b : ByteArray) (hb : b.size ≤ 140737488351232) (t : ByteArray) (ht : t.size ≤ 140737488351232) (v : Value) (xs : List Int) (hv : Ints W W.heap.size .i64 v xs) (hx : ∀ x ∈ xs, -9223372036854775808 ≤ x ∧ x ≤ 9223372036854775807) (_hl : xs.length * 8 ≤ 140737488351232) (sh : Int) (_hsh : -9223372036854775808 ≤ sh ∧ sh ≤ 9223372036854775807) :
    Calls Try.prog 12 #[.string b, .string t, v, .int .i64 sh] W fun e W' => e = .returned (.bool true) ∧ Below W.heap.size W W' := by
  obtain ⟨i0, hi, hz0, hz1, hz2⟩ := info_parts Try.infoInt'
  obtain ⟨A, c, rfl, hc1, hc2, _, hcell⟩ := hv
  have HC := Lib.hid hcell; clear hcell
  have HX := Lib.hid hx; clear hx
  clear hc1 hc2 _hsh
  go_enter Try.func12, Try.ntmps12
  go_wp2_with fail
  go_loopw [9, 10] (fun l i wr => ∃ (k : Nat) (acc : List Int), k ≤ xs.length ∧ k ≤ 100 ∧ i = .int .i64 k ∧ acc.length = k ∧ wr.ownsRow W.heap.size 3 1 l acc.length (acc.map (Value.int .i64)) ∧ Hid (∀ x ∈ acc, fitsB x = true) ∧ Below W.heap.size W wr) (fun _ i _ => xs.length - (intOf i).toNat)
  case atStart => exact ⟨0, [], by omega, by omega, rfl, rfl, World.ownsRow_nil _ _ _ _, Lib.hid (by simp), Below.refl _ _⟩
  case round =>
    obtain ⟨k, acc, hk, hk2, rfl, hacc, hown, HF, hbel⟩ := hrel
    by_cases hlt : k < xs.length ∧ k < 100
    · obtain ⟨hlt, hlt2⟩ := hlt
      obtain ⟨x, hxk, hxm⟩ := get_of hlt
      obtain ⟨ad, rfl, ha, hce⟩ := HC.out k x hxk
      have e1 := (hbel.cell (p := ad.add k) (by rw [block_of_add]; exact ha)).trans hce
      have hxr := HX.out x hxm
      clear hxk hxm ha hce
      go_wp2_with fail
      have hV := pick_in (x / 2 ^ min (IntKind.u64.wrap (pick sh 60)).toNat 64) (n := 2147483649) (by decide)
      have k0 : (0 : Int) ≤ (k : Int) := by omega
      have k1 : (k : Int) < (xs.length : Int) := by omega
      have hp := pick_in sh (n := 60) (by decide)
      obtain ⟨hp0, hp1⟩ := hp
      go_region_law (first
        | (go_simp; go_at_call 17; refine (pick_any _ _ _ ?_ ?_).mono ?_; decide; decide; rintro e w2 ⟨rfl, rfl⟩)
        | (refine step_push_int rfl (.tmp 26) (.tmp 37) rfl Try.underlying35 hi hz0 hz1 hz2 _ acc _ rfl hown hbel rfl ?_ ?_; omega; intro v' w1 hown1 hbel1))
      all_goals
        generalize pick (x / 2 ^ min (IntKind.u64.wrap (pick sh 60)).toNat 64) 2147483649 = V at *
        have hw : IntKind.i64.wrap (V - 1073741824) = V - 1073741824 := IntWalk.i64_in _ (by omega)
        rw [hw] at hown1
        clear hw hown
        go_wp2_with fail
        go_roundw
        case rel => exact ⟨k + 1, acc ++ [V - 1073741824], by omega, by omega, by go_num, by simp; omega, hown1, Lib.hid (fits_snoc HF.out (by omega) (by omega)), hbel1⟩
        case measure => simp [intOf]; omega
    · have hd : (k < xs.length ∧ 100 ≤ k) ∨ xs.length ≤ k := by omega
      clear hlt
      obtain ⟨hp, hg⟩ := getList_putList b.data.toList t.data.toList acc (by omega) HF.out
      obtain ⟨S, hS⟩ : ∃ S : ByteArray, S = ⟨(putList b.data.toList acc).1.toArray⟩ := ⟨_, rfl⟩
      have hSl : S.data.toList = (putList b.data.toList acc).1 := by rw [hS]
      have hSs : S.size ≤ b.size + 10 * acc.length + 10 := by
        rw [← sz_list, hSl, hp]
        have h1 := putAll_len (diffs 0 acc) (putInt b.data.toList (acc.length : Int))
        have h2 := putInt_len b.data.toList (acc.length : Int)
        rw [diffs_len] at h1
        rw [sz_list] at h2
        simp only
        omega
      have hP := Lib.hid (fun v w hv => putList_any b v acc w hv (by omega))
      have hp2 : putList b.data.toList acc = (S.data.toList, 0) := by rw [hSl, hp]
      rw [hp2] at hP
      have hap : (S ++ t).data.toList = S.data.toList ++ t.data.toList := by simp
      rw [← hSl, ← hap, sz_list, sz_list] at hg
      have hG := Lib.hid (fun w => getList_any (S ++ t) (b.size : Int) w (by rw [ByteArray.size_append]; unfold maxLen; omega))
      rw [hg] at hG
      have hI := Ints.of_own hown
      clear hS hSl hp hp2 hg hap HF
      have hadd := fun w => run_string_add_sum (P := Try.prog) w S t (by omega)
      rcases hd with ⟨hd, hd'⟩ | hd
      all_goals
        go_wp2_with fail
        refine (hP.out _ _ hI).mono ?_
        rintro e w1 ⟨rfl, b1⟩
        have hI1 := Lib.hid (hI.later b1)
        clear hI
        go_wp2_with fail
        refine (hG.out _).mono ?_
        rintro e w2 ⟨v2, rfl, hv2, b2⟩
        have hI2 := Lib.hid (hI1.out.later b2)
        have HV2 := Lib.hid hv2
        clear hI1 hv2
        have B2 := below_next hbel (below_next b1 b2)
        clear b1 b2
        go_wp2_with fail
        refine (awake3 _).mono ?_
        rintro e w3 ⟨rfl, b3⟩
        have hI3 := Lib.hid (hI2.out.later b3)
        have HV3 := Lib.hid (HV2.out.later b3)
        have B3 := below_next B2 b3
        clear hI2 HV2 B2 b3
        go_wp2_with fail
        refine (same_any _ _ acc acc w3 HV3.out hI3.out).mono ?_
        rintro e w4 ⟨rfl, b4⟩
        have B4 := below_next B3 b4
        clear hI3 HV3 B3 b4
        go_wp2_with fail
        go_ret
        exact ⟨by simp, B4⟩
end Go.Proofs.Ytmbphpocbajlmaa
