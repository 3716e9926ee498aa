/-
  Merged texts: lemmas and walks that the last text of this claim leans on.
-/
import Derived.Test.YtikcfoobfobmnaaDoorMgB729
import Derived.Test.YtikcfoobfobmnaaDoorMgB728
import Derived.Test.YtikcfoobfobmnaaDoorMgB72
import Derived.Test.YtikcfoobfobmnaaDoorMgB723
import Derived.Deep.AppendLies
import Derived.Test.YtikcfoobfobmnaaDoorMgB713
import Derived.Test.YtikcfoobfobmnaaDoorMgB77
import Derived.Test.YtikcfoobfobmnaaDoorMgB73
/-
  The walk through the reference's PutSpans.
-/
namespace Go.Proofs.YtikcfoobfobmnaaDoor
open Go.RowKit ND

theorem ref_put_one (acc : ByteArray) (v : Int) (h : acc.size ≤ 140737488355318) (h0 : -9223372036854775808 ≤ v) (h1 : v ≤ 9223372036854775807) :
    ∃ S : ByteArray, S.data.toList = putInt acc.data.toList v ∧ S.size ≤ acc.size + 10 ∧
      Hid (∀ W, Calls Tryd.prog 33 #[.string acc, .int .i64 v] W fun e w' => e = .returned (.string S) ∧ Below W.heap.size W w') := by
  refine ⟨⟨(putInt acc.data.toList v).toArray⟩, rfl, ?_, Lib.hid fun W => refPutInt_any acc v W h h0 h1⟩
  have := putInt_len acc.data.toList v
  rw [sz_list] at this
  rw [← sz_list]; exact this

set_option maxRecDepth 100000 in
set_option maxHeartbeats 400000 in
theorem refValid_any (v : Value) (xs : List Sp) (w : World) (hv : Spans w w.heap.size v xs) :
    Calls Tryd.prog 68 #[v] w fun e w' => e = .returned (.bool (checkS xs 0 1114111)) ∧ Below w.heap.size w w' := by
  have hck := Lib.hid (refCheck_any v xs 0 1114111 w hv)
  clear hv
  go_enter Tryd.func68, Tryd.ntmps68
  go_wp2_with fail
  refine hck.out.mono ?_
  rintro e w1 ⟨rfl, b1⟩
  go_wp2_with fail
  go_ret
  exact ⟨rfl, b1⟩

set_option maxRecDepth 100000 in
set_option maxHeartbeats 1000000 in
theorem refPutSpans_any (b : ByteArray) (v : Value) (xs : List Sp) (w : World) (hv : Spans w w.heap.size v xs) (hs : b.size + 30 * min xs.length 256 + 20 ≤ 140737488355328) :
    Calls Tryd.prog 31 #[.string b, v] w (RetPut w (putSpans b.data.toList xs)) := by
  have hck := Lib.hid (fun W (h : Spans W W.heap.size v xs) => refValid_any v xs W h)
  have HV := Lib.hid hv
  obtain ⟨A, c, rfl, hc1, hc2, _, _⟩ := hv
  have hl : xs.length ≤ 9223372036854775807 := by unfold maxLen at hc2; omega
  clear hc2 hc1
  by_cases hC : checkS xs 0 1114111 = true
  · rw [hC] at hck
    obtain ⟨Z, hZ⟩ : ∃ Z, Z = putSpans b.data.toList xs := ⟨_, rfl⟩
    rw [← hZ]
    have HZ := Lib.hid hZ; clear hZ
    have hxl := (checkS_all hC).1
    have HCk := Lib.hid hC; clear hC
    obtain ⟨S, hSl, hSs, hp⟩ := ref_put_one b (xs.length : Int) (by omega) (by omega) (by omega)
    obtain ⟨R, hR⟩ : ∃ R, R = putAll (putInt b.data.toList xs.length) (nums 0 xs) := ⟨_, rfl⟩
    have HS : Hid (putAll S.data.toList (nums 0 (xs.drop 0)) = R) := Lib.hid (by rw [hSl, hR]; rfl)
    have HR := Lib.hid hR
    clear hR hSl
    go_enter Tryd.func31, Tryd.ntmps31
    go_wp2_with fail
    refine (hck.out w HV.out).mono ?_
    rintro e w1 ⟨rfl, b1⟩
    obtain ⟨A', c', hA, _, _, _, hcell⟩ := HV.out
    cases hA
    have HC := Lib.hid hcell; clear hcell hck
    go_wp2_with fail
    refine (hp.out _).mono ?_
    rintro e w2 ⟨rfl, b2⟩
    have hbel2 := below_next b1 b2
    clear hp b1 b2
    go_wp2_with fail
    go_loopw [6, 7, 19] (fun s lv i wr => ∃ (k : Nat) (last : Int) (acc : ByteArray), k ≤ xs.length ∧ i = .int .i64 k ∧ lv = .int .i64 last ∧ s = .string acc ∧ 0 ≤ last ∧ last ≤ 1114111 ∧ acc.size ≤ b.size + 30 * k + 10 ∧
      Hid (putAll acc.data.toList (nums last (xs.drop k)) = R) ∧ Hid ((xs.drop k).all (fun s => fitsB s.2.2) = xs.all (fun s => fitsB s.2.2)) ∧ Below w.heap.size w wr) (fun _ _ i _ => xs.length - (intOf i).toNat)
    case atStart => exact ⟨0, 0, S, by omega, rfl, rfl, rfl, by omega, by omega, by omega, HS, Lib.hid rfl, hbel2⟩
    case round =>
      obtain ⟨k, last, acc, hk, rfl, rfl, rfl, hl1, hl2, hac, HU, HA, hbel⟩ := hrel
      clear HS hbel2
      by_cases hlt : k < xs.length
      · obtain ⟨⟨f, t, x⟩, hxk, hxm⟩ := get_el hlt
        obtain ⟨ad, rfl, ha, d0, d1, d2⟩ := HC.out k _ hxk
        simp only at d0 d1 d2
        obtain ⟨e0, e1, e2⟩ := span_cells hbel ha d0 d1 d2
        have hfs := (checkS_all HCk.out).2 _ hxm
        have HX := Lib.hid hxk
        have hft := Lib.hid (fun W => moderate_any x W)
        simp only at hfs
        clear hxk hxm ha d0 d1 d2
        obtain ⟨hf1, hf2, hf3⟩ := hfs
        have k0 : (0 : Int) ≤ (k : Int) := by omega
        have k1 : (k : Int) < (xs.length : Int) := by omega
        by_cases hf : fitsB x = true
        · rw [hf] at hft
          have HA' := Lib.hid (all_yes HX.out HA.out hf)
          obtain ⟨hfx1, hfx2⟩ := (fitsB_iff x).1 hf
          have HN := Lib.hid (nums_more HX.out HU.out)
          clear hf HU HA
          obtain ⟨S1, s1, z1, hp1⟩ := ref_put_one acc (f - last) (by omega) (by omega) (by omega)
          obtain ⟨S2, s2, z2, hp2⟩ := ref_put_one S1 (t - f) (by omega) (by omega) (by omega)
          obtain ⟨S3, s3, z3, hp3⟩ := ref_put_one S2 x (by omega) (by omega) (by omega)
          have HX' : Hid (putAll S3.data.toList (nums t (xs.drop (k + 1))) = R) := Lib.hid (by rw [s3, s2, s1]; exact HN.out)
          have hz3 : S3.size ≤ b.size + 30 * (k + 1) + 10 := by omega
          clear s1 s2 s3 HN z1 z2 z3
          have hw1 : IntKind.i64.wrap (f - last) = f - last := IntWalk.i64_in _ (by omega)
          have hw2 : IntKind.i64.wrap (t - f) = t - f := IntWalk.i64_in _ (by omega)
          have HW1 := Lib.hid hw1
          have HW2 := Lib.hid hw2
          clear hw1 hw2
          go_wp2_with fail
          refine (hft.out _).mono ?_
          rintro e w3 ⟨rfl, rfl⟩
          go_wp2_with fail
          obtain ⟨c0, c1, c2⟩ := box3 wr (.int .i64 f) (.int .i64 t) (.int .i64 x) 46
          have hw1 := HW1.out
          have hw2 := HW2.out
          refine wp_region_quiet_below (by kernel_rfl) (by kernel_rfl) ?_
          repeat (quiet_step (fail))
          quiet_step (exact quiet_b hp1.out)
          repeat (quiet_step (fail))
          quiet_step (exact quiet_b hp2.out)
          repeat (quiet_step (fail))
          quiet_step (exact quiet_b hp3.out)
          repeat (quiet_step (fail))
          refine wpQuiet_nil ?_
          rintro _ ⟨⟨dq, osq⟩, rfl⟩
          clear hp1 hp2 hp3 hw1 hw2 HW1 HW2
          have hbel2 := below_next (hbel.alloc hbel.size _) (below_regrown (wr.alloc (.cells #[.int .i64 f, .int .i64 t, .int .i64 x] 46)) dq osq)
          go_wp2_with fail
          go_roundw
          case rel => exact ⟨k + 1, t, S3, by omega, by go_num, rfl, rfl, by omega, by omega, hz3, HX', HA', hbel2⟩
          case measure => simp [intOf]; omega
        · have hf' : fitsB x = false := by simpa using hf
          rw [hf'] at hft
          have HA' := Lib.hid (putSpans_range (b := b.data.toList) HCk.out (all_no HX.out HA.out hf'))
          clear hf hf'
          go_wp2_with fail
          refine (hft.out _).mono ?_
          rintro e w3 ⟨rfl, rfl⟩
          go_wp2_with fail
          go_ret2
          rw [HZ.out, HA'.out]
          exact ⟨rfl, hbel.alloc hbel.size _⟩
      · have HE := Lib.hid (nums_end (by omega) HU.out)
        have HA' := Lib.hid (putSpans_ok (b := b.data.toList) HCk.out (all_end (by omega) HA.out))
        go_wp2_with fail
        go_ret2
        rw [HZ.out, HA'.out, ← HR.out, ← HE.out]
        exact ⟨rfl, hbel⟩
  · have hC' : checkS xs 0 1114111 = false := by simpa using hC
    rw [putSpans_arg hC']
    rw [hC'] at hck
    clear hC hC'
    go_enter Tryd.func31, Tryd.ntmps31
    go_wp2_with fail
    refine (hck.out w HV.out).mono ?_
    rintro e w1 ⟨rfl, b1⟩
    go_wp2_with fail
    go_ret2
    exact ⟨rfl, b1⟩
end Go.Proofs.YtikcfoobfobmnaaDoor
/-
  The sum of bytes, in plain Lean; a string turned to bytes.
-/
namespace Go.Proofs.YtikcfoobfobmnaaDoor
open Go.RowKit ND

def sumStep (x : Nat) (c : UInt8) : Nat := (x ^^^ c.toNat) * 16777619 % 4294967296
def sumL (l : List UInt8) : Nat := l.foldl sumStep 2166136261

theorem sumStep_lt (x : Nat) (c : UInt8) : sumStep x c < 4294967296 := Nat.mod_lt _ (by decide)
theorem foldl_lt (l : List UInt8) (x : Nat) (hx : x < 4294967296) : l.foldl sumStep x < 4294967296 := by
  induction l generalizing x with
  | nil => exact hx
  | cons c l ih => exact ih _ (sumStep_lt _ _)
theorem sumL_lt (l : List UInt8) : sumL l < 4294967296 := foldl_lt l _ (by decide)

theorem sumStep_cast (x : Nat) (c : UInt8) : ((x ^^^ c.toNat : Nat) : Int) * 16777619 % 4294967296 = ((sumStep x c : Nat) : Int) := by
  rw [sumStep]
  simp only [Int.natCast_emod, Int.natCast_mul, Int.cast_ofNat_Int]
theorem xor_bits {x : Nat} (c : UInt8) (hx : x < 4294967296) : bits .xor .u32 (x : Int) (c.toNat : Int) = ((x ^^^ c.toNat : Nat) : Int) := by
  have hc := c.toNat_lt
  exact u32_xor_nat _ _ hx (by omega)
theorem byte_mod (c : UInt8) : (c.toNat : Int) % 4294967296 = (c.toNat : Int) := by
  have hc := c.toNat_lt
  omega
theorem bits_byte (c : UInt8) (x : Int) : bits .xor .u32 x ((c.toNat : Int) % 4294967296) = bits .xor .u32 x (c.toNat : Int) := by
  rw [byte_mod]
theorem sumStep_of {x : Nat} (c : UInt8) {z : Int} (h : z = ((x ^^^ c.toNat : Nat) : Int)) : z * 16777619 % 4294967296 = (sumStep x c : Int) := by
  subst h; exact sumStep_cast x c
theorem sumStep_bits {x : Nat} (c : UInt8) (hx : x < 4294967296) : bits .xor .u32 (x : Int) ((c.toNat : Int) % 4294967296) * 16777619 % 4294967296 = (sumStep x c : Int) := by
  have h : bits .xor .u32 (x : Int) ((c.toNat : Int) % 4294967296) = ((x ^^^ c.toNat : Nat) : Int) := (bits_byte c _).trans (xor_bits c hx)
  exact sumStep_of c h

theorem take_snoc (s : ByteArray) (k : Nat) (h : k < s.size) : s.data.toList.take (k + 1) = s.data.toList.take k ++ [s[k]] := by
  rw [List.take_succ_eq_append_getElem (by simpa using h)]; rfl
theorem sumL_snoc (s : ByteArray) (k : Nat) (h : k < s.size) : sumL (s.data.toList.take (k + 1)) = sumStep (sumL (s.data.toList.take k)) s[k] := by
  rw [take_snoc s k h]; unfold sumL; rw [List.foldl_append, List.foldl_cons, List.foldl_nil]

/-- What a conversion of a string to bytes leaves. -/
theorem conv_bytes {P : Program} (w : World) (src dst e : TypeId) (s : ByteArray) (hs : P.underlying src = some .string) (hd : P.underlying dst = some (.slice e)) (he : P.underlying e = some (.int .u8)) :
    ∃ W cap, (convert src dst (.string s)).run P w = .ok (.slice (some ⟨w.heap.size, 0, none⟩) s.size cap) W ∧ (∀ k (h : k < s.size), W.cell? ⟨w.heap.size, k, none⟩ = some (bv s[k])) ∧ Below w.heap.size w W ∧ s.size ≤ cap := by
  refine ⟨_, _, run_bytes_of_string w src dst e s hs hd he, fun k hk => ?_, ((Below.refl _ w).drew).alloc (Nat.le_refl _) _, grownCap_ge _ _ _ _⟩
  have h := cell_of_row (w.drew.alloc (.cells (bytesRow s (grownCap w s.size 0 e)) e ((bytesRow s (grownCap w s.size 0 e)).size, (bytesRow s (grownCap w s.size 0 e)).size + 1))) w.heap.size k _ _ _ (heap_alloc_new w.drew _)
  rw [h, bytesRow_at s _ k hk]
  rfl
end Go.Proofs.YtikcfoobfobmnaaDoor
/-
  The walk through packed.Sum and the reference's: both fold the bytes by one step.
-/
namespace Go.Proofs.YtikcfoobfobmnaaDoor
open Go.RowKit ND

set_option maxRecDepth 100000 in
set_option maxHeartbeats 400000 in
theorem sum_any (s : ByteArray) (w : World) (hs : s.size ≤ maxLen) :
    Calls Tryd.prog 28 #[.string s] w fun e w' => e = .returned (.int .i64 (sumL s.data.toList : Int)) ∧ Below w.heap.size w w' := by
  obtain ⟨W, cap, hcv, hcells, hbel, hcap⟩ := conv_bytes (P := Tryd.prog) w 9 89 5 s Tryd.underlying9 Tryd.underlying89 Tryd.underlying5
  have HC := Lib.hid hcells; clear hcells
  unfold maxLen at hs
  go_enter Tryd.func28, Tryd.ntmps28
  go_wp2
  clear hcv
  go_loop [3, 9] (fun x i => ∃ (k n : Nat), k ≤ s.size ∧ i = .int .i64 k ∧ x = .int .u32 n ∧ n < 4294967296 ∧ Hid (n = sumL (s.data.toList.take k))) (fun _ i => s.size - (intOf i).toNat)
  case atStart => exact ⟨0, 2166136261, by omega, rfl, rfl, by omega, Lib.hid (by simp [sumL])⟩
  case round =>
    obtain ⟨k, n, hk, rfl, rfl, hn, HN⟩ := hrel
    by_cases hlt : k < s.size
    · have hc := HC.out k hlt
      unfold bv at hc
      go_wp2
      go_round
      case rel => exact ⟨k + 1, sumStep n s[k], by omega, by go_num, by rw [sumStep_bits _ hn], sumStep_lt _ _, Lib.hid (by rw [sumL_snoc s k hlt, ← HN.out])⟩
      case measure => simp [intOf]; omega
    · go_wp2
      go_ret
      refine ⟨?_, hbel⟩
      have h := HN.out
      rw [List.take_of_length_le (by simp; omega)] at h
      rw [← h]
      first | rfl | go_num

set_option maxRecDepth 100000 in
set_option maxHeartbeats 400000 in
theorem refSum_any (s : ByteArray) (w : World) (hs : s.size ≤ maxLen) :
    Calls Tryd.prog 35 #[.string s] w fun e w' => e = .returned (.int .i64 (sumL s.data.toList : Int)) ∧ w = w' := by
  unfold maxLen at hs
  go_enter Tryd.func35, Tryd.ntmps35
  go_wp2
  go_loop [3, 4] (fun x i => ∃ (k n : Nat), k ≤ s.size ∧ i = .int .i64 k ∧ x = .int .u32 n ∧ n < 4294967296 ∧ Hid (n = sumL (s.data.toList.take k))) (fun _ i => s.size - (intOf i).toNat)
  case atStart => exact ⟨0, 2166136261, by omega, rfl, rfl, by omega, Lib.hid (by simp [sumL])⟩
  case round =>
    obtain ⟨k, n, hk, rfl, rfl, hn, HN⟩ := hrel
    by_cases hlt : k < s.size
    · go_wp2
      go_round
      case rel => exact ⟨k + 1, sumStep n s[k], by omega, by go_num, by rw [sumStep_bits _ hn], sumStep_lt _ _, Lib.hid (by rw [sumL_snoc s k hlt, ← HN.out])⟩
      case measure => simp [intOf]; omega
    · go_wp2
      go_ret
      refine ⟨?_, rfl⟩
      have h := HN.out
      rw [List.take_of_length_le (by simp; omega)] at h
      rw [← h]
      first | rfl | go_num
end Go.Proofs.YtikcfoobfobmnaaDoor
/-
  What is read of spans, step by step: no program in sight.
-/
namespace ND
open Go

/-- What is made of the spans so far and of what is still to come. -/
def finS (at_ : Int) (acc : List Sp) (q : Int × List Sp × Int) : List Sp × Int × Int := if q.1 ≠ 0 then ([], at_, q.1) else (acc ++ q.2.1, q.2.2, 0)
section
variable {s : List UInt8} {at_ p n q e d q2 d2 e2 q3 d3 e3 last gap : Int} {m : Nat} {acc : List Sp}
theorem getSpans_err (h : getInt s p = (n, q, e)) (he : e ≠ 0) : getSpans s p = ([], p, e) := by unfold getSpans; rw [h, if_pos he]
theorem getSpans_form (h : getInt s p = (n, q, 0)) (hn : n < 0 ∨ 256 < n) : getSpans s p = ([], p, 4) := by unfold getSpans; rw [h]; simp only [ne_eq, not_true_eq_false, if_false]; rw [if_pos hn]
theorem getSpans_go {n : Nat} (h : getInt s p = ((n : Int), q, 0)) (hn : n ≤ 256) : getSpans s p = finS p [] (getS s n 0 0 q) := by
  unfold getSpans; rw [h]; simp only [ne_eq, not_true_eq_false, if_false, Int.toNat_natCast]; rw [if_neg (by omega)]; unfold finS; simp
theorem finS_e1 (h : getInt s p = (d, q, e)) (he : e ≠ 0) : finS at_ acc (getS s (m + 1) last gap p) = ([], at_, e) := by
  unfold finS; simp only [getS, h, if_pos he]
theorem finS_f1 (h : getInt s p = (d, q, 0)) (hb : d < gap ∨ 1114111 - last < d) : finS at_ acc (getS s (m + 1) last gap p) = ([], at_, 4) := by
  unfold finS; simp [getS, h, hb]
theorem finS_e2 (h : getInt s p = (d, q, 0)) (h1 : gap ≤ d) (h2 : d ≤ 1114111 - last) (g : getInt s q = (d2, q2, e2)) (he : e2 ≠ 0) : finS at_ acc (getS s (m + 1) last gap p) = ([], at_, e2) := by
  have c1 : ¬(d < gap ∨ 1114111 - last < d) := by omega
  unfold finS; simp [getS, h, g, if_neg c1, he]
theorem finS_f2 (h : getInt s p = (d, q, 0)) (_h1 : gap ≤ d) (_h2 : d ≤ 1114111 - last) (g : getInt s q = (d2, q2, 0)) (hb : d2 < 0 ∨ 1114111 - (last + d) < d2) : finS at_ acc (getS s (m + 1) last gap p) = ([], at_, 4) := by
  unfold finS; simp [getS, h, g, hb]
theorem finS_e3 (h : getInt s p = (d, q, 0)) (h1 : gap ≤ d) (h2 : d ≤ 1114111 - last) (g : getInt s q = (d2, q2, 0)) (g1 : 0 ≤ d2) (g2 : d2 ≤ 1114111 - (last + d)) (f : getInt s q2 = (d3, q3, e3)) (he : e3 ≠ 0) :
    finS at_ acc (getS s (m + 1) last gap p) = ([], at_, e3) := by
  have c1 : ¬(d < gap ∨ 1114111 - last < d) := by omega
  have c2 : ¬(d2 < 0 ∨ 1114111 - (last + d) < d2) := by omega
  unfold finS; simp [getS, h, g, f, if_neg c1, if_neg c2, he]
theorem finS_f3 (h : getInt s p = (d, q, 0)) (_h1 : gap ≤ d) (_h2 : d ≤ 1114111 - last) (g : getInt s q = (d2, q2, 0)) (_g1 : 0 ≤ d2) (_g2 : d2 ≤ 1114111 - (last + d)) (f : getInt s q2 = (d3, q3, 0)) (hb : fitsB d3 = false) :
    finS at_ acc (getS s (m + 1) last gap p) = ([], at_, 4) := by
  unfold finS; simp [getS, h, g, f, hb]
theorem finS_go (h : getInt s p = (d, q, 0)) (h1 : gap ≤ d) (h2 : d ≤ 1114111 - last) (g : getInt s q = (d2, q2, 0)) (g1 : 0 ≤ d2) (g2 : d2 ≤ 1114111 - (last + d)) (f : getInt s q2 = (d3, q3, 0)) (hb : fitsB d3 = true) :
    finS at_ acc (getS s (m + 1) last gap p) = finS at_ (acc ++ [(last + d, last + d + d2, d3)]) (getS s m (last + d + d2) 1 q3) := by
  have c1 : ¬(d < gap ∨ 1114111 - last < d) := by omega
  have c2 : ¬(d2 < 0 ∨ 1114111 - (last + d) < d2) := by omega
  unfold finS
  by_cases hx : (getS s m (last + d + d2) 1 q3).1 = 0
  · simp [getS, h, g, f, if_neg c1, if_neg c2, hb, hx]
  · simp [getS, h, g, f, if_neg c1, if_neg c2, hb, hx]
theorem finS_end : finS at_ acc (getS s 0 last gap p) = (acc, p, 0) := by unfold finS; simp [getS]
end
end ND
/-
  The walk through packed.GetSpans.
-/
namespace Go.Proofs.YtikcfoobfobmnaaDoor
open Go.RowKit ND


/-- The same, the spans in a row of the call's own. -/
def RetSpansO (w : World) (r : List Sp × Int × Int) (e : Ending) (w' : World) : Prop :=
  ∃ v, e = .returned (.tuple #[v, .int .i64 r.2.1, .int .i64 r.2.2]) ∧ w'.ownsRow w.heap.size 46 3 v r.1.length (r.1.flatMap spCells) ∧ Below w.heap.size w w'
/-- Spans, an index and an error come back. -/
def RetSpans (w : World) (r : List Sp × Int × Int) (e : Ending) (w' : World) : Prop :=
  ∃ v, e = .returned (.tuple #[v, .int .i64 r.2.1, .int .i64 r.2.2]) ∧ Spans w' w'.heap.size v r.1 ∧ Below w.heap.size w w'


/-- The ways through a test 'lo ≤ d && d ≤ hi'. -/
theorem two_ways (lo d hi : Int) : (lo ≤ d ∧ d ≤ hi ∧ decide (lo ≤ d) = true ∧ decide (d ≤ hi) = true) ∨ ((d < lo ∨ hi < d) ∧ (decide (lo ≤ d) = false ∨ decide (lo ≤ d) = true ∧ decide (d ≤ hi) = false)) := by
  simp only [decide_eq_true_eq, decide_eq_false_iff_not]; omega

/-- The reader in its block, the span that is being read in its box, the spans so far. -/
structure RdS (w wr : World) (xb : Nat) (s : ByteArray) (p e : Int) (x : Array Value) (out : Value) (acc : List Sp) : Prop where
  rd : Blk wr w.heap.size 117 #[.string s, .int .i64 p, .int .i64 e]
  box : Blk wr xb 46 x
  own : wr.ownsRow (w.heap.size + 1) 46 3 out acc.length (acc.flatMap spCells)
  bel : Below w.heap.size w wr
  lo : w.heap.size + 1 ≤ xb
  far : out.ownBlock ≠ some xb
section
variable {w wr w' : World} {xb : Nat} {s : ByteArray} {p e p' e' : Int} {x : Array Value} {out : Value} {acc : List Sp}
theorem RdS.new (hb : Blk wr w.heap.size 117 #[.string s, .int .i64 p, .int .i64 e]) (hown : wr.ownsRow (w.heap.size + 1) 46 3 out acc.length (acc.flatMap spCells)) (hbel : Below w.heap.size w wr) (hsz : w.heap.size + 1 ≤ wr.heap.size) (x : Array Value) :
    RdS w (wr.alloc (.cells x 46)) wr.heap.size s p e x out acc :=
  ⟨hb.alloc _, Blk.new _ _ _, hown.alloc _, hbel.alloc hbel.size _, hsz, fun h => by have := (hown.lt _ h).2; omega⟩
theorem RdS.next (h : RdS w wr xb s p e x out acc) (hb : Blk w' w.heap.size 117 #[.string s, .int .i64 p', .int .i64 e']) (hg : wr.grownBy w' (some w.heap.size)) : RdS w w' xb s p' e' x out acc :=
  ⟨hb, h.box.grown hg (by intro e; cases e; have := h.lo; omega), own_grown h.own hg (by omega), below_of_grown h.bel hg (Nat.le_refl _) h.bel.size, h.lo, h.far⟩
theorem RdS.put (h : RdS w wr xb s p e x out acc) (i : Nat) (u : Value) : RdS w (wr.setCell ⟨xb, i, none⟩ u) xb s p e (x.setIfInBounds i u) out acc :=
  ⟨h.rd.far (p := ⟨xb, i, none⟩) (by have := h.lo; show w.heap.size ≠ xb; omega) u, h.box.put i u, h.own.kept (row := some xb) (grown_setCell (grown_refl _ _) i u) (.inr h.far), h.bel.setCell (p := ⟨xb, i, none⟩) (by have := h.lo; show w.heap.size ≤ xb; omega) u, h.lo, h.far⟩
end

set_option maxRecDepth 100000 in
set_option maxHeartbeats 2000000 in
theorem getSpansO_any (s : ByteArray) (at_ : Int) (w : World) (hs : s.size ≤ maxLen) :
    Calls Tryd.prog 76 #[.string s, .int .i64 at_] w (RetSpansO w (getSpans s.data.toList at_)) := by
  obtain ⟨i0, hi, hz0, hz1, hz2⟩ := info_parts Tryd.infoSpan
  have hb0 : Blk (w.alloc (.cells #[.string s, .int .i64 at_, .int .i64 0] 117)) w.heap.size 117 #[.string s, .int .i64 at_, .int .i64 0] := Blk.new w _ _
  have hbel0 : Below w.heap.size w (w.alloc (.cells #[.string s, .int .i64 at_, .int .i64 0] 117)) := (Below.refl _ _).alloc (Nat.le_refl _) _
  have hsz0 : w.heap.size + 1 ≤ (w.alloc (.cells #[.string s, .int .i64 at_, .int .i64 0] 117)).heap.size := by simp
  have hnext := Lib.hid (next_ok _ _ s at_ hs hb0)
  have herr := getInt_err0 s.data.toList at_
  obtain ⟨n, q, e, hg⟩ : ∃ n q e, getInt s.data.toList at_ = (n, q, e) := ⟨_, _, _, rfl⟩
  rw [hg] at hnext herr
  simp only at hnext herr
  have HG := Lib.hid hg; clear hg
  clear hb0
  go_enter Tryd.func76, Tryd.ntmps76
  go_wp2_with fail
  refine hnext.out.mono ?_
  rintro r w1 ⟨rfl, hb1, hg1⟩
  have hbel1 := below_of_grown hbel0 hg1 (Nat.le_refl _) (by omega)
  have hsz1 := Nat.le_trans hsz0 hg1.size
  clear hnext hbel0 hsz0 hg1
  by_cases he : e = 0
  · subst he
    by_cases hn : n < 0 ∨ 256 < n
    · have HR := Lib.hid (getSpans_form HG.out hn)
      have hn' : (n < 0 ∧ decide (0 ≤ n) = false) ∨ (256 < n ∧ decide (0 ≤ n) = true ∧ decide (n ≤ 256) = false) := by
        rcases hn with h | h
        · exact .inl ⟨h, by simp; omega⟩
        · exact .inr ⟨h, by simp; omega, by simp; omega⟩
      clear hn
      rcases hn' with ⟨hn, hd⟩ | ⟨hn, hd, hd'⟩
      all_goals
        go_wp2_with fail
        refine (want_no _ _ _ _ hb1).mono ?_
        rintro r w2 ⟨rfl, hb2, hg2⟩
        have hbel2 := below_of_grown hbel1 hg2 (Nat.le_refl _) (by omega)
        have c2 := hb2.at_ (i := 2) rfl
        clear hb1 hb2 hg2 hbel1
        go_wp2_with fail
        refine wp_loop_rounds 1 ?_
        rw [rounds_succ]
        go_wp2_with fail
        go_quiet (fail)
        go_wp2_with fail
        go_ret3
        rw [HR.out]
        exact ⟨_, rfl, World.ownsRow_nil _ _ _ _, below_drewN hbel2 nq⟩
    · obtain ⟨m, rfl⟩ := Int.eq_ofNat_of_zero_le (show 0 ≤ n by omega)
      have hm : m ≤ 256 := by omega
      have HR := Lib.hid (getSpans_go HG.out hm)
      have hd : decide ((m : Int) ≤ 256) = true := by simp; omega
      clear hn
      go_wp2_with fail
      refine (want_yes _ _ _ _ _ hb1).mono ?_
      rintro r w2 ⟨rfl, rfl⟩
      go_wp2_with fail
      go_loopw [9, 10, 11, 12] (fun out lv gv i wr => ∃ (k : Nat) (last gap p : Int) (acc : List Sp), k ≤ m ∧ i = .int .i64 k ∧ lv = .int .i64 last ∧ gv = .int .i64 gap ∧ 0 ≤ last ∧ last ≤ 1114111 ∧ 0 ≤ gap ∧ gap ≤ 1 ∧ wr.ownsRow (w.heap.size + 1) 46 3 out acc.length (acc.flatMap spCells) ∧ acc.length ≤ k ∧
          Hid (Blk wr w.heap.size 117 #[.string s, .int .i64 p, .int .i64 0]) ∧ Hid (finS at_ acc (getS s.data.toList (m - k) last gap p) = finS at_ [] (getS s.data.toList m 0 0 q)) ∧ Below w.heap.size w wr ∧ w.heap.size + 1 ≤ wr.heap.size) (fun _ _ _ i _ => m - (intOf i).toNat)
      case atStart => exact ⟨0, 0, 0, q, [], by omega, rfl, rfl, rfl, by omega, by omega, by omega, by omega, World.ownsRow_nil _ _ _ _, by simp, Lib.hid hb1, Lib.hid rfl, hbel1, hsz1⟩
      case round =>
        obtain ⟨k, last, gap, p, acc, hk, rfl, rfl, rfl, hl1, hl2, hgp1, hgp2, hown, hal, HB, HU, hbel, hsz⟩ := hrel
        clear hb1 hbel1 hsz1
        have c2 := HB.out.at_ (i := 2) rfl
        by_cases hlt : k < m
        · have hnext := Lib.hid (next_ok wr _ s p hs HB.out)
          have herr := getInt_err0 s.data.toList p
          obtain ⟨d, q1, e, hg⟩ : ∃ d q1 e, getInt s.data.toList p = (d, q1, e) := ⟨_, _, _, rfl⟩
          rw [hg] at hnext herr
          simp only at hnext herr
          have HG1 := Lib.hid hg; clear hg
          obtain ⟨j, hj⟩ : ∃ j, m - k = j + 1 := ⟨m - k - 1, by omega⟩
          rw [hj] at HU
          have HJ := Lib.hid hj; clear hj
          clear HB
          go_wp2_with fail
          refine hnext.out.mono ?_
          rintro r w1 ⟨rfl, hb1, hg1⟩
          have hbel1 := below_of_grown hbel hg1 (Nat.le_refl _) (by omega)
          have hsz1 := Nat.le_trans hsz hg1.size
          have hown1 := own_grown hown hg1 (by omega)
          clear hnext hg1 hbel hsz hown c2
          by_cases he : e = 0
          · subst he
            clear herr
            rcases two_ways gap d (1114111 - last) with ⟨ha1, ha2, y1, y2⟩ | ⟨ha, hw⟩
            · have h2 := RdS.new hb1 hown1 hbel1 hsz1 #[.int .i64 (last + d), .int .i64 0, .int .i64 0]
              have hnext := Lib.hid (next_ok _ _ s q1 hs h2.rd)
              have herr := getInt_err0 s.data.toList q1
              obtain ⟨d2, q2, e, hg⟩ : ∃ d2 q2 e, getInt s.data.toList q1 = (d2, q2, e) := ⟨_, _, _, rfl⟩
              rw [hg] at hnext herr
              simp only at hnext herr
              have HG2 := Lib.hid hg; clear hg
              have HH2 := Lib.hid h2; clear h2
              go_wp2_with fail
              refine (want_yes _ _ _ _ _ hb1).mono ?_
              rintro r w2 ⟨rfl, rfl⟩
              clear hb1 hown1 hbel1 hsz1
              go_wp2_with fail
              refine hnext.out.mono ?_
              rintro r w3 ⟨rfl, hb3, hg3⟩
              have h3 := HH2.out.next hb3 hg3
              have c0 := h3.box.at_ (i := 0) rfl
              have c1 := h3.box.at_ (i := 1) rfl
              have f1 := h3.box.free 1
              clear hnext HH2 hb3 hg3
              by_cases he : e = 0
              · subst he
                clear herr
                rcases two_ways 0 d2 (1114111 - (last + d)) with ⟨hc1, hc2, y3, y4⟩ | ⟨hc, hw⟩
                · have h4 := h3.put 1 (.int .i64 (last + d + d2))
                  have hnext := Lib.hid (next_ok _ _ s q2 hs h4.rd)
                  have herr := getInt_err0 s.data.toList q2
                  obtain ⟨d3, q3, e, hg⟩ : ∃ d3 q3 e, getInt s.data.toList q2 = (d3, q3, e) := ⟨_, _, _, rfl⟩
                  rw [hg] at hnext herr
                  simp only at hnext herr
                  have HG3 := Lib.hid hg; clear hg
                  have HH4 := Lib.hid h4; clear h4
                  go_wp2_with fail
                  refine (want_yes _ _ _ _ _ h3.rd).mono ?_
                  rintro r w4 ⟨rfl, rfl⟩
                  clear h3
                  go_wp2_with fail
                  refine hnext.out.mono ?_
                  rintro r w5 ⟨rfl, hb5, hg5⟩
                  have h5 := HH4.out.next hb5 hg5
                  clear hnext HH4 hb5 hg5 c0 c1 f1
                  have c2' := h5.box.at_ (i := 2) (u := .int .i64 0) rfl
                  have f2 := h5.box.free 2
                  have h6 := h5.put 2 (.int .i64 d3)
                  have HH6 := Lib.hid h6; clear h6 h5
                  by_cases he : e = 0
                  · subst he
                    clear herr
                    cases hft : fitsB d3
                    · have HX : Hid (getSpans s.data.toList at_ = ([], at_, 4)) := Lib.hid (by rw [HR.out, ← HU.out, finS_f3 HG1.out ha1 ha2 HG2.out hc1 hc2 HG3.out hft])
                      have hfc := Lib.hid (fun W => fits_any d3 W)
                      rw [hft] at hfc
                      clear hft
                      go_wp2_with fail
                      refine (hfc.out _).mono ?_
                      rintro r w6 ⟨rfl, rfl⟩
                      have h6 := HH6.out
                      clear HH6
                      go_wp2_with fail
                      refine (want_no _ _ _ _ h6.rd).mono ?_
                      rintro r w9 ⟨rfl, hb9, hg9⟩
                      have h9 := h6.next hb9 hg9
                      have c2 := h9.rd.at_ (i := 2) rfl
                      have hbelE := h9.bel
                      clear h6 c2' f2 hb9 hg9 h9
                      go_wp2_with fail
                      go_quiet (fail)
                      go_wp2_with fail
                      go_ret3
                      rw [HX.out]
                      exact ⟨_, rfl, World.ownsRow_nil _ _ _ _, below_drewN hbelE nq⟩
                    · have HX : Hid (finS at_ (acc ++ [(last + d, last + d + d2, d3)]) (getS s.data.toList (m - (k + 1)) (last + d + d2) 1 q3) = finS at_ [] (getS s.data.toList m 0 0 q)) :=
                        Lib.hid (by rw [← HU.out, finS_go HG1.out ha1 ha2 HG2.out hc1 hc2 HG3.out hft, show m - (k + 1) = j by have := HJ.out; omega])
                      have hfc := Lib.hid (fun W => fits_any d3 W)
                      rw [hft] at hfc
                      have hfr := (fitsB_iff _).1 hft
                      clear hft HU
                      go_wp2_with fail
                      refine (hfc.out _).mono ?_
                      rintro r w6 ⟨rfl, rfl⟩
                      have h6 := HH6.out
                      clear HH6
                      generalize w5.setCell ⟨w1.heap.size, 2, none⟩ (.int .i64 d3) = W6 at *
                      go_wp2_with fail
                      refine (want_yes _ _ _ _ _ h6.rd).mono ?_
                      rintro r w7 ⟨rfl, rfl⟩
                      have k0 := h6.box.at_ (i := 0) (u := .int .i64 (last + d)) rfl
                      have k1 := h6.box.at_ (i := 1) (u := .int .i64 (last + d + d2)) rfl
                      have k2 := h6.box.at_ (i := 2) (u := .int .i64 d3) rfl
                      have HH6 := Lib.hid h6; clear h6 c2' f2
                      go_wp2_with (at_builtin; refine wpList_append_own _ rfl _ _ 23 rfl (w.heap.size + 1) 46 i0 (.agg #[.int .i64 0, .int .i64 0, .int .i64 0]) 3 24 Tryd.underlying23 hi hz0 hz1 hz2 rfl (by decide) _ _ _ rfl (HH6.out.own.alloc _) ⟨W6.heap.size, 0, none⟩ 1 1 [.int .i64 (last + d), .int .i64 (last + d + d2), .int .i64 d3] rfl rfl (World.news_of_block (cs := #[.int .i64 (last + d), .int .i64 (last + d + d2), .int .i64 d3]) (heap_alloc_new W6 _)) ?c1 ?c2 ?c3 ?c4 ?_)
                      case c1 => intro u hu; simp at hu; rcases hu with rfl | rfl | rfl <;> rfl
                      case c2 => unfold maxLen; omega
                      case c3 => omega
                      case c4 => have := HH6.out.lo; have := HH6.out.box.lt; simp; omega
                      intro v' w8 hown8 hgrow _
                      have hlo := HH6.out.lo
                      have hlt6 := HH6.out.box.lt
                      have hbel8 : Below w.heap.size w w8 := (HH6.out.bel.alloc HH6.out.bel.size _).grown hgrow (by have := HH6.out.bel.size; simp; omega) (fun k hk => by have := (HH6.out.own.lt k hk).1; omega)
                      have HB8 := Lib.hid ((HH6.out.rd.alloc _).grown hgrow (fun hk => by have := (HH6.out.own.lt _ hk.symm).1; omega))
                      have hsz8 : w.heap.size + 1 ≤ w8.heap.size := by have := hgrow.size; simp at this; omega
                      have hx8 := ((HH6.out.box.alloc (.cells #[.int .i64 (last + d), .int .i64 (last + d + d2), .int .i64 d3] 46)).grown hgrow (fun hk => HH6.out.far hk.symm)).at_ (i := 1) (u := .int .i64 (last + d + d2)) rfl
                      clear hgrow HH6 k0 k1 k2 hlo hlt6
                      go_wp2_with fail
                      go_roundw
                      case rel => exact ⟨k + 1, last + d + d2, 1, q3, acc ++ [(last + d, last + d + d2, d3)], by omega, by go_num, rfl, rfl, by omega, by omega, by omega, by omega, by rw [spans_snoc]; simpa [spCells] using hown8, by simp; omega, HB8, HX, hbel8, hsz8⟩
                      case measure => simp [intOf]; omega
                  · have hd0 := herr he
                    subst hd0
                    have HX : Hid (getSpans s.data.toList at_ = ([], at_, e)) := Lib.hid (by rw [HR.out, ← HU.out, finS_e3 HG1.out ha1 ha2 HG2.out hc1 hc2 HG3.out he])
                    have hne : (e == 0) = false := beq_eq_false_iff_ne.2 he
                    have hne' : (e != 0) = true := by rw [bne_iff_ne]; exact he
                    have hfc := Lib.hid (fun W => fits_any 0 W)
                    rw [show fitsB 0 = true from by decide] at hfc
                    go_wp2_with fail
                    refine (hfc.out _).mono ?_
                    rintro r w6 ⟨rfl, rfl⟩
                    have h6 := HH6.out
                    clear HH6
                    go_wp2_with fail
                    refine (want_err _ _ _ _ _ _ h6.rd he).mono ?_
                    rintro r w9 ⟨rfl, rfl⟩
                    have c2 := h6.rd.at_ (i := 2) rfl
                    have hbelE := h6.bel
                    clear h6 c2' f2
                    go_wp2_with fail
                    go_quiet (fail)
                    go_wp2_with fail
                    go_ret3
                    rw [HX.out]
                    exact ⟨_, rfl, World.ownsRow_nil _ _ _ _, below_drewN hbelE nq⟩
                · have HX : Hid (getSpans s.data.toList at_ = ([], at_, 4)) := Lib.hid (by rw [HR.out, ← HU.out, finS_f2 HG1.out ha1 ha2 HG2.out hc])
                  rcases hw with y3 | ⟨y3, y4⟩
                  all_goals
                    go_wp2_with fail
                    refine (want_no _ _ _ _ h3.rd).mono ?_
                    rintro r w9 ⟨rfl, hb9, hg9⟩
                    have h9 := h3.next hb9 hg9
                    have c2 := h9.rd.at_ (i := 2) rfl
                    have hbelE := h9.bel
                    clear h3 c0 c1 f1 hb9 hg9 h9
                    go_wp2_with fail
                    go_quiet (fail)
                    go_wp2_with fail
                    go_ret3
                    rw [HX.out]
                    exact ⟨_, rfl, World.ownsRow_nil _ _ _ _, below_drewN hbelE nq⟩
              · have hd0 := herr he
                subst hd0
                have HX : Hid (getSpans s.data.toList at_ = ([], at_, e)) := Lib.hid (by rw [HR.out, ← HU.out, finS_e2 HG1.out ha1 ha2 HG2.out he])
                have hne : (e == 0) = false := beq_eq_false_iff_ne.2 he
                have hne' : (e != 0) = true := by rw [bne_iff_ne]; exact he
                have y4 : decide (0 ≤ 1114111 - (last + d)) = true := by simp; omega
                go_wp2_with fail
                refine (want_err _ _ _ _ _ _ h3.rd he).mono ?_
                rintro r w9 ⟨rfl, rfl⟩
                have c2 := h3.rd.at_ (i := 2) rfl
                have hbelE := h3.bel
                clear h3 c0 c1 f1
                go_wp2_with fail
                go_quiet (fail)
                go_wp2_with fail
                go_ret3
                rw [HX.out]
                exact ⟨_, rfl, World.ownsRow_nil _ _ _ _, below_drewN hbelE nq⟩
            · have HX : Hid (getSpans s.data.toList at_ = ([], at_, 4)) := Lib.hid (by rw [HR.out, ← HU.out, finS_f1 HG1.out ha])
              rcases hw with y1 | ⟨y1, y2⟩
              all_goals
                go_wp2_with fail
                refine (want_no _ _ _ _ hb1).mono ?_
                rintro r w2 ⟨rfl, hb2, hg2⟩
                have hbel2 := below_of_grown hbel1 hg2 (Nat.le_refl _) (by omega)
                have c2 := hb2.at_ (i := 2) rfl
                clear hb1 hb2 hg2 hbel1
                go_wp2_with fail
                go_quiet (fail)
                go_wp2_with fail
                go_ret3
                rw [HX.out]
                exact ⟨_, rfl, World.ownsRow_nil _ _ _ _, below_drewN hbel2 nq⟩
          · have hd0 := herr he
            subst hd0
            have HX : Hid (getSpans s.data.toList at_ = ([], at_, e)) := Lib.hid (by rw [HR.out, ← HU.out, finS_e1 HG1.out he])
            have hne : (e == 0) = false := beq_eq_false_iff_ne.2 he
            have hne' : (e != 0) = true := by rw [bne_iff_ne]; exact he
            rcases two_ways gap 0 (1114111 - last) with ⟨_, _, y1, y2⟩ | ⟨_, y1 | ⟨y1, y2⟩⟩
            all_goals
              go_wp2_with fail
              refine (want_err _ _ _ _ _ _ hb1 he).mono ?_
              rintro r w2 ⟨rfl, rfl⟩
              have c2 := hb1.at_ (i := 2) rfl
              clear hb1
              go_wp2_with fail
              go_quiet (fail)
              go_wp2_with fail
              go_ret3
              rw [HX.out]
              exact ⟨_, rfl, World.ownsRow_nil _ _ _ _, below_drewN hbel1 nq⟩
        · obtain rfl : k = m := by omega
          have c1 := HB.out.at_ (i := 1) rfl
          have HX : Hid (getSpans s.data.toList at_ = (acc, p, 0)) := by
            refine Lib.hid ?_
            rw [HR.out, ← HU.out, Nat.sub_self, finS_end]
          go_wp2_with fail
          go_quiet (fail)
          go_wp2_with fail
          go_ret3
          rw [HX.out]
          exact ⟨_, rfl, own_low hown (by omega), below_drewN hbel nq⟩
  · have hn0 := herr he
    subst hn0
    have HR := Lib.hid (getSpans_err HG.out he)
    have hne : (e == 0) = false := beq_eq_false_iff_ne.2 he
    have hne' : (e != 0) = true := by rw [bne_iff_ne]; exact he
    go_wp2_with fail
    refine (want_err _ _ _ _ _ _ hb1 he).mono ?_
    rintro r w2 ⟨rfl, rfl⟩
    have c2 := hb1.at_ (i := 2) rfl
    clear hb1
    go_wp2_with fail
    refine wp_loop_rounds 1 ?_
    rw [rounds_succ]
    go_wp2_with fail
    go_quiet (fail)
    go_wp2_with fail
    go_ret3
    rw [HR.out]
    exact ⟨_, rfl, World.ownsRow_nil _ _ _ _, below_drewN hbel1 nq⟩
theorem getSpans_any (s : ByteArray) (at_ : Int) (w : World) (hs : s.size ≤ maxLen) :
    Calls Tryd.prog 76 #[.string s, .int .i64 at_] w (RetSpans w (getSpans s.data.toList at_)) :=
  (getSpansO_any s at_ w hs).mono fun _ _ ⟨v, e, ho, hb⟩ => ⟨v, e, Spans.of_own ho, hb⟩
end Go.Proofs.YtikcfoobfobmnaaDoor
/-
  The walk through keep.Same at spans.
-/
namespace Go.Proofs.YtikcfoobfobmnaaDoor
open Go.RowKit ND

theorem same_step_el {α : Type} {xs ys : List α} {k : Nat} {x : α} (h : xs.take k = ys.take k) (hx : xs[k]? = some x) (hy : ys[k]? = some x) : xs.take (k + 1) = ys.take (k + 1) := by
  obtain ⟨a, a'⟩ := List.getElem?_eq_some_iff.1 hx
  obtain ⟨b, b'⟩ := List.getElem?_eq_some_iff.1 hy
  rw [List.take_succ_eq_append_getElem a, List.take_succ_eq_append_getElem b, h, a', b']

set_option maxRecDepth 100000 in
set_option maxHeartbeats 1000000 in
theorem sameSpans_any (v u : Value) (xs ys : List Sp) (w : World) (hv : Spans w w.heap.size v xs) (hu : Spans w w.heap.size u ys) :
    Calls Tryd.prog 45 #[v, u] w fun e w' => e = .returned (.bool (decide (xs = ys))) ∧ Below w.heap.size w w' := by
  obtain ⟨A, c, rfl, hc1, hc2, _, hcell⟩ := hv
  obtain ⟨A', c', rfl, hc1', hc2', _, hcell'⟩ := hu
  have HC := Lib.hid hcell; clear hcell
  have HC' := Lib.hid hcell'; clear hcell'
  have hl : xs.length ≤ 9223372036854775807 := by unfold maxLen at hc2; omega
  clear hc2 hc2' hc1 hc1'
  by_cases hlen : xs.length = ys.length
  · have hb : ((xs.length : Int) != (ys.length : Int)) = false := by rw [hlen]; simp
    have hl1 : xs.length ≤ ys.length := by omega
    have hl2 : ys.length ≤ xs.length := by omega
    clear hlen
    obtain ⟨R, hR⟩ : ∃ R, R = decide (xs = ys) := ⟨_, rfl⟩
    rw [← hR]
    have HR := Lib.hid hR; clear hR
    go_enter Tryd.func45, Tryd.ntmps45
    go_wp2_with fail
    go_loopw [13] (fun i wr => ∃ k : Nat, k ≤ xs.length ∧ i = .int .i64 k ∧ Hid (xs.take k = ys.take k) ∧ Below w.heap.size w wr) (fun i _ => xs.length - (intOf i).toNat)
    case atStart => exact ⟨0, by omega, rfl, Lib.hid (by simp), Below.refl _ _⟩
    case round =>
      obtain ⟨k, hk, rfl, HS, hbel⟩ := hrel
      by_cases hlt : k < xs.length
      · obtain ⟨⟨f, t, x⟩, hxk, _⟩ := get_el hlt
        obtain ⟨⟨f', t', x'⟩, hyk, _⟩ := get_el (show k < ys.length by omega)
        obtain ⟨ad, rfl, ha, d0, d1, d2⟩ := HC.out k _ hxk
        obtain ⟨ad', rfl, ha', d0', d1', d2'⟩ := HC'.out k _ hyk
        simp only at d0 d1 d2 d0' d1' d2'
        obtain ⟨e0, e1, e2⟩ := span_cells hbel ha d0 d1 d2
        obtain ⟨e0', e1', e2'⟩ := span_cells hbel ha' d0' d1' d2'
        have HX := Lib.hid hxk
        have HY := Lib.hid hyk
        clear d0 d1 d2 d0' d1' d2' hxk hyk ha ha'
        have k0 : (0 : Int) ≤ (k : Int) := by omega
        have k1 : (k : Int) < (xs.length : Int) := by omega
        have k2 : (k : Int) < (ys.length : Int) := by omega
        have hways : (f, t, x) = (f', t', x') ∨ ((f, t, x) ≠ (f', t', x') ∧ ((f == f') = false ∨ ((f == f') = true ∧ (t == t') = false) ∨ ((f == f') = true ∧ (t == t') = true ∧ (x == x') = false))) := by
          by_cases h1 : f = f'
          · by_cases h2 : t = t'
            · by_cases h3 : x = x'
              · exact .inl (by rw [h1, h2, h3])
              · exact .inr ⟨fun h => h3 (by injection h with _ h; injection h), .inr (.inr ⟨by simp [h1], by simp [h2], by simp [h3]⟩)⟩
            · exact .inr ⟨fun h => h2 (by injection h with _ h; injection h), .inr (.inl ⟨by simp [h1], by simp [h2]⟩)⟩
          · exact .inr ⟨fun h => h1 (by injection h), .inl (by simp [h1])⟩
        rcases hways with hxy | ⟨hxy, hw⟩
        · have HT := Lib.hid (same_step_el HS.out HX.out (by rw [hxy]; exact HY.out))
          cases hxy
          go_wp2_with fail
          go_quiet (fail)
          go_wp2_with fail
          go_roundw
          case rel => exact ⟨k + 1, by omega, by go_num, HT, below_drewN hbel nq⟩
          case measure => simp [intOf]; omega
        · have HN : Hid (R = false) := by
            refine Lib.hid ?_
            rw [HR.out, decide_eq_false_iff_not]
            rintro rfl
            have := HX.out.symm.trans HY.out
            injection this with this
            exact hxy this
          clear hxy
          rcases hw with q0 | ⟨q0, q1⟩ | ⟨q0, q1, q2⟩
          all_goals
            go_wp2_with fail
            go_quiet (fail)
            go_wp2_with fail
            go_ret
            rw [HN.out]
            exact ⟨rfl, below_drewN hbel nq⟩
      · have HN : Hid (R = true) := by
          refine Lib.hid ?_
          rw [HR.out, decide_eq_true_iff]
          have h := HS.out
          rw [List.take_of_length_le (by omega), List.take_of_length_le (by omega)] at h
          exact h
        go_wp2_with fail
        go_ret
        rw [HN.out]
        exact ⟨rfl, hbel⟩
  · have hb : ((xs.length : Int) != (ys.length : Int)) = true := by rw [bne_iff_ne]; omega
    have hn : decide (xs = ys) = false := by
      rw [decide_eq_false_iff_not]; rintro rfl; exact hlen rfl
    rw [hn]
    clear hn hlen
    go_enter Tryd.func45, Tryd.ntmps45
    go_wp2_with fail
    go_ret
    exact ⟨rfl, Below.refl _ _⟩
end Go.Proofs.YtikcfoobfobmnaaDoor
/-
  Sequences out of a list of mappings: the walk through table.copied.
-/
namespace Go.Proofs.YtikcfoobfobmnaaDoor
open Go.RowKit ND

theorem find_len {l : List Mp} {c : Int} (h : ∀ m ∈ l, m.2.length ≤ 1000) : (findL l c).length ≤ 1000 := by
  by_cases hf : findL l c = []
  · rw [hf]; simp
  · exact h _ (findL_mem hf)

set_option maxRecDepth 100000 in
set_option maxHeartbeats 400000 in
theorem copied_any (v : Value) (ys : List Int) (w : World) (hv : Ints w w.heap.size .i64 v ys) (hl : ys.length ≤ 1000) :
    Calls Tryd.prog 72 #[v] w (RetSeq w ys) := by
  obtain ⟨i0, hi, hz0, hz1, hz2⟩ := info_parts Tryd.infoInt'
  have HV := Lib.hid hv; clear hv
  go_enter Tryd.func72, Tryd.ntmps72
  go_wp2_with (at_builtin
               refine wpList_append_ints (by rfl) (.const (.slice none 0 0)) (.tmp 3) rfl Tryd.underlying22 hi hz0 hz1 hz2 w.heap.size w.heap.size (.slice none 0 0) [] v ys rfl (World.ownsRow_nil _ _ _ _) rfl HV.out (by simp; omega) (Nat.le_refl _) ?_
               intro v1 w1 hown1 hg1 hn1)
  go_ret
  exact ⟨_, rfl, Ints.of_own (by simpa using hown1), fun h => hn1 h (by trivial), (Below.refl _ _).grown hg1 (Nat.le_refl _) (by simp [Value.ownBlock])⟩
end Go.Proofs.YtikcfoobfobmnaaDoor
/-
  The walk through one sequence of table.
-/
namespace Go.Proofs.YtikcfoobfobmnaaDoor
open Go.RowKit ND

end Go.Proofs.YtikcfoobfobmnaaDoor
/-
  The walk through one sequence of table.
-/
namespace Go.Proofs.YtikcfoobfobmnaaDoor
open Go.RowKit ND

end Go.Proofs.YtikcfoobfobmnaaDoor
/-
  The walk through one sequence of table.
-/
namespace Go.Proofs.YtikcfoobfobmnaaDoor
open Go.RowKit ND

end Go.Proofs.YtikcfoobfobmnaaDoor
