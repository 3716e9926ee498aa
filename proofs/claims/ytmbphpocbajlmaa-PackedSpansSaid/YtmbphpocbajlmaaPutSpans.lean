/-
  The walks through PutSpans, of packed and of the reference.
-/
import Derived.Test.YtmbphpocbajlmaaCheck
import Derived.Test.YtmbphpocbajlmaaPkGetList
import Derived.Test.YtmbphpocbajlmaaPkRefPut
import Derived.Test.YtmbphpocbajlmaaQuiet
namespace Go.Proofs.Ytmbphpocbajlmaa
open Go.RowKit ND

theorem putSpans_arg {b : List UInt8} {xs : List Sp} (h : checkS xs 0 1114111 = false) : putSpans b xs = ([], 1) := by unfold putSpans; rw [if_pos h]
theorem putSpans_range {b : List UInt8} {xs : List Sp} (h : checkS xs 0 1114111 = true) (ha : xs.all (fun s => fitsB s.2.2) = false) : putSpans b xs = ([], 3) := by unfold putSpans; rw [if_neg (by simp [h]), if_neg (by simp [ha])]
theorem putSpans_ok {b : List UInt8} {xs : List Sp} (h : checkS xs 0 1114111 = true) (ha : xs.all (fun s => fitsB s.2.2) = true) : putSpans b xs = (putAll (putInt b xs.length) (nums 0 xs), 0) := by unfold putSpans; rw [if_neg (by simp [h]), if_pos ha]
theorem nums_more {xs : List Sp} {k : Nat} {f t x last : Int} {acc R : List UInt8} (hx : xs[k]? = some (f, t, x)) (h : putAll acc (nums last (xs.drop k)) = R) :
    putAll (putInt (putInt (putInt acc (f - last)) (t - f)) x) (nums t (xs.drop (k + 1))) = R := by
  rw [drop_of_get hx] at h; exact h
theorem nums_end {xs : List Sp} {k : Nat} {last : Int} {acc R : List UInt8} (hk : xs.length ≤ k) (h : putAll acc (nums last (xs.drop k)) = R) : acc = R := by
  rw [List.drop_eq_nil_of_le hk] at h; exact h
theorem okS_all {xs : List Sp} {lo hi : Int} : ∀ {last : Int}, -1 ≤ last → okS lo hi last xs = true → ∀ s ∈ xs, last < s.1 ∧ s.1 ≤ s.2.1 ∧ s.2.1 ≤ 1114111 := by
  induction xs with
  | nil => intro last _ _ s hs; cases hs
  | cons a r ih =>
    intro last hl h s hs
    obtain ⟨h1, h2⟩ := okS_cons.1 h
    rcases List.mem_cons.1 hs with rfl | hs
    · omega
    · have := ih (by omega) h2 s hs; omega
theorem checkS_all {xs : List Sp} (h : checkS xs 0 1114111 = true) : xs.length ≤ 256 ∧ ∀ s ∈ xs, 0 ≤ s.1 ∧ s.1 ≤ s.2.1 ∧ s.2.1 ≤ 1114111 := by
  unfold checkS at h
  rw [Bool.and_eq_true, decide_eq_true_eq] at h
  exact ⟨h.2, fun s hs => by have := okS_all (by omega) h.1 s hs; omega⟩

/-- One more code behind a string. -/
theorem put_one (acc : ByteArray) (v : Int) (h : acc.size ≤ 140737488355318) (h0 : -9223372036854775808 ≤ v) (h1 : v ≤ 9223372036854775807) :
    ∃ S : ByteArray, S.data.toList = putInt acc.data.toList v ∧ S.size ≤ acc.size + 10 ∧
      Hid (∀ W, Calls Try.prog 18 #[.string acc, .int .i64 v] W fun e w' => e = .returned (.string S) ∧ Below W.heap.size W w') := by
  refine ⟨⟨(putInt acc.data.toList v).toArray⟩, rfl, ?_, Lib.hid fun W => putInt_any acc v W h h0 h1⟩
  have := putInt_len acc.data.toList v
  rw [sz_list] at this
  rw [← sz_list]; exact this

/-- The box of a span, wherever the call's world has gone on. -/
theorem box3 (wr : World) (x y z : Value) (e : TypeId) : (∀ d os, (Go.Sort.grow (redrawn (wr.alloc (.cells #[x, y, z] e)) d) os).cell? ⟨wr.heap.size, 0, none⟩ = some x) ∧
    (∀ d os, (Go.Sort.grow (redrawn (wr.alloc (.cells #[x, y, z] e)) d) os).cell? ⟨wr.heap.size, 1, none⟩ = some y) ∧ (∀ d os, (Go.Sort.grow (redrawn (wr.alloc (.cells #[x, y, z] e)) d) os).cell? ⟨wr.heap.size, 2, none⟩ = some z) :=
  ⟨fun d os => cell_regrown (by rw [cell_of_row _ _ _ _ _ _ (heap_alloc_new wr _)]; rfl) d os, fun d os => cell_regrown (by rw [cell_of_row _ _ _ _ _ _ (heap_alloc_new wr _)]; rfl) d os, fun d os => cell_regrown (by rw [cell_of_row _ _ _ _ _ _ (heap_alloc_new wr _)]; rfl) d os⟩

set_option maxRecDepth 100000 in
set_option maxHeartbeats 1000000 in
theorem putSpans_any (b : ByteArray) (v : Value) (xs : List Sp) (w : World) (hv : Spans w w.heap.size v xs) (hs : b.size + 30 * min xs.length 256 + 20 ≤ 140737488355328) :
    Calls Try.prog 30 #[.string b, v] w (RetPut w (putSpans b.data.toList xs)) := by
  have hck := Lib.hid (fun W (h : Spans W W.heap.size v xs) => check_any v xs 0 1114111 W h)
  have HV := Lib.hid hv
  obtain ⟨A, c, rfl, hc1, hc2, _, _⟩ := hv
  have hl : xs.length ≤ 9223372036854775807 := by unfold maxLen at hc2; omega
  clear hc2 hc1
  by_cases hC : checkS xs 0 1114111 = true
  · rw [hC] at hck
    obtain ⟨Z, hZ⟩ : ∃ Z, Z = putSpans b.data.toList xs := ⟨_, rfl⟩
    rw [← hZ]
    have HZ := Lib.hid hZ; clear hZ
    have hxl := (checkS_all hC).1
    have HCk := Lib.hid hC; clear hC
    go_enter Try.func30, Try.ntmps30
    go_wp2_with fail
    refine (hck.out w HV.out).mono ?_
    rintro e w1 ⟨rfl, b1⟩
    obtain ⟨A', c', hA, _, _, _, hcell⟩ := HV.out
    cases hA
    have HC := Lib.hid hcell; clear hcell hck
    go_wp2_with fail
    go_loopw [16] (fun i wr => ∃ k : Nat, k ≤ xs.length ∧ i = .int .i64 k ∧ Hid ((xs.drop k).all (fun s => fitsB s.2.2) = xs.all (fun s => fitsB s.2.2)) ∧ Below w.heap.size w wr) (fun i _ => xs.length - (intOf i).toNat)
    case atStart => exact ⟨0, by omega, rfl, Lib.hid rfl, b1⟩
    case round =>
      obtain ⟨k, hk, rfl, HA, hbel⟩ := hrel
      by_cases hlt : k < xs.length
      · obtain ⟨⟨f, t, x⟩, hxk, _⟩ := get_el hlt
        obtain ⟨ad, rfl, ha, d0, d1, d2⟩ := HC.out k _ hxk
        simp only at d0 d1 d2
        obtain ⟨e0, e1, e2⟩ := span_cells hbel ha d0 d1 d2
        have HX := Lib.hid hxk
        have hft := Lib.hid (fun W => fits_any x W)
        clear hxk ha d0 d1 d2
        have k0 : (0 : Int) ≤ (k : Int) := by omega
        have k1 : (k : Int) < (xs.length : Int) := by omega
        by_cases hf : fitsB x = true
        · rw [hf] at hft
          have HA' := Lib.hid (all_yes HX.out HA.out hf)
          clear hf
          go_wp2_with fail
          refine (hft.out _).mono ?_
          rintro e w2 ⟨rfl, rfl⟩
          go_wp2_with fail
          go_roundw
          case rel => exact ⟨k + 1, by omega, by go_num, HA', hbel.alloc hbel.size _⟩
          case measure => simp [intOf]; omega
        · have hf' : fitsB x = false := by simpa using hf
          rw [hf'] at hft
          have HA' := Lib.hid (putSpans_range (b := b.data.toList) HCk.out (all_no HX.out HA.out hf'))
          clear hf hf'
          go_wp2_with fail
          refine (hft.out _).mono ?_
          rintro e w2 ⟨rfl, rfl⟩
          go_wp2_with fail
          go_ret2
          rw [HZ.out, HA'.out]
          exact ⟨rfl, hbel.alloc hbel.size _⟩
      · have HA' := Lib.hid (putSpans_ok (b := b.data.toList) HCk.out (all_end (by omega) HA.out))
        have hfa := Lib.hid (all_end (by omega) HA.out)
        obtain ⟨S, hSl, hSs, hp⟩ := put_one b (xs.length : Int) (by omega) (by omega) (by omega)
        obtain ⟨R, hR⟩ : ∃ R, R = putAll (putInt b.data.toList xs.length) (nums 0 xs) := ⟨_, rfl⟩
        rw [← hR] at HA'
        have HS : Hid (putAll S.data.toList (nums 0 (xs.drop 0)) = R) := Lib.hid (by rw [hSl, hR]; rfl)
        clear hR hSl HA
        go_wp2_with fail
        refine (hp.out _).mono ?_
        rintro e w2 ⟨rfl, b2⟩
        have hbel2 := below_next hbel b2
        clear hp b1 hbel b2
        go_wp2_with fail
        go_loopw [0, 8, 31] (fun s lv i wr => ∃ (k : Nat) (last : Int) (acc : ByteArray), k ≤ xs.length ∧ i = .int .i64 k ∧ lv = .int .i64 last ∧ s = .string acc ∧ 0 ≤ last ∧ last ≤ 1114111 ∧ acc.size ≤ b.size + 30 * k + 10 ∧
          Hid (putAll acc.data.toList (nums last (xs.drop k)) = R) ∧ Below w.heap.size w wr) (fun _ _ i _ => xs.length - (intOf i).toNat)
        case atStart => exact ⟨0, 0, S, by omega, rfl, rfl, rfl, by omega, by omega, by omega, HS, hbel2⟩
        case round =>
          obtain ⟨k, last, acc, hk, rfl, rfl, rfl, hl1, hl2, hac, HU, hbel⟩ := hrel
          clear HS hbel2
          by_cases hlt : k < xs.length
          · obtain ⟨⟨f, t, x⟩, hxk, hxm⟩ := get_el hlt
            obtain ⟨ad, rfl, ha, d0, d1, d2⟩ := HC.out k _ hxk
            simp only at d0 d1 d2
            obtain ⟨e0, e1, e2⟩ := span_cells hbel ha d0 d1 d2
            have hfx := (fitsB_iff x).1 (List.all_eq_true.1 hfa.out _ hxm)
            have hfs := (checkS_all HCk.out).2 _ hxm
            have HX := Lib.hid (nums_more hxk HU.out)
            simp only at hfx hfs
            clear hxk hxm ha d0 d1 d2 HU
            obtain ⟨hfx1, hfx2⟩ := hfx
            obtain ⟨hf1, hf2, hf3⟩ := hfs
            obtain ⟨S1, s1, z1, hp1⟩ := put_one acc (f - last) (by omega) (by omega) (by omega)
            obtain ⟨S2, s2, z2, hp2⟩ := put_one S1 (t - f) (by omega) (by omega) (by omega)
            obtain ⟨S3, s3, z3, hp3⟩ := put_one S2 x (by omega) (by omega) (by omega)
            have HX' : Hid (putAll S3.data.toList (nums t (xs.drop (k + 1))) = R) := Lib.hid (by rw [s3, s2, s1]; exact HX.out)
            have k0 : (0 : Int) ≤ (k : Int) := by omega
            have k1 : (k : Int) < (xs.length : Int) := by omega
            have hz3 : S3.size ≤ b.size + 30 * (k + 1) + 10 := by omega
            clear s1 s2 s3 HX z1 z2 z3
            have hw1 : IntKind.i64.wrap (f - last) = f - last := IntWalk.i64_in _ (by omega)
            have hw2 : IntKind.i64.wrap (t - f) = t - f := IntWalk.i64_in _ (by omega)
            have HW1 := Lib.hid hw1
            have HW2 := Lib.hid hw2
            clear hw1 hw2
            go_wp2_with fail
            obtain ⟨c0, c1, c2⟩ := box3 wr (.int .i64 f) (.int .i64 t) (.int .i64 x) 60
            have hw1 := HW1.out
            have hw2 := HW2.out
            refine wp_region_quiet_below (by kernel_rfl) (by kernel_rfl) ?_
            repeat (quiet_step (fail))
            quiet_step (exact quiet_b hp1.out)
            repeat (quiet_step (fail))
            quiet_step (exact quiet_b hp2.out)
            repeat (quiet_step (fail))
            quiet_step (exact quiet_b hp3.out)
            repeat (quiet_step (fail))
            refine wpQuiet_nil ?_
            rintro _ ⟨⟨dq, osq⟩, rfl⟩
            clear hp1 hp2 hp3 hw1 hw2 HW1 HW2
            have hbel2 := below_next (hbel.alloc hbel.size _) (below_regrown (wr.alloc (.cells #[.int .i64 f, .int .i64 t, .int .i64 x] 60)) dq osq)
            go_wp2_with fail
            go_roundw
            case rel => exact ⟨k + 1, t, S3, by omega, by go_num, rfl, rfl, by omega, by omega, hz3, HX', hbel2⟩
            case measure => simp [intOf]; omega
          · have HE := Lib.hid (nums_end (by omega) HU.out)
            go_wp2_with fail
            go_ret2
            rw [HZ.out, HA'.out, ← HE.out]
            exact ⟨rfl, hbel⟩
  · have hC' : checkS xs 0 1114111 = false := by simpa using hC
    rw [putSpans_arg hC']
    rw [hC'] at hck
    clear hC hC'
    go_enter Try.func30, Try.ntmps30
    go_wp2_with fail
    refine (hck.out w HV.out).mono ?_
    rintro e w1 ⟨rfl, b1⟩
    go_wp2_with fail
    go_ret2
    exact ⟨rfl, b1⟩
end Go.Proofs.Ytmbphpocbajlmaa
