/-
  Merged texts: lemmas and walks that the last text of this claim leans on.
-/
import Derived.Test.YtecpbicfiaifdaaDoorMgB724
import Derived.Test.YtecpbicfiaifdaaDoorMgB723
import Derived.Test.YtecpbicfiaifdaaDoorMgB719
import Derived.Test.YtecpbicfiaifdaaDoorMgB721
/-
  The walks through utf.put and the reference's one: the bytes of a scalar value.
-/
namespace Go.Proofs.YtecpbicfiaifdaaDoor
open Go.RowKit ND

theorem ofInt_i64 (a : Nat) (ha : a < 9223372036854775808) : (BitVec.ofInt 64 (a : Int)).toNat = a := by
  rw [BitVec.ofInt_natCast, BitVec.toNat_ofNat]; exact Nat.mod_eq_of_lt (by omega)
theorem i64_and_nat (a b : Nat) (ha : a < 9223372036854775808) (hb : b < 9223372036854775808) : bits .and .i64 (a : Int) (b : Int) = ((a &&& b : Nat) : Int) := by
  have hx : a &&& b < 2 ^ 63 := Nat.and_lt_two_pow _ (by omega)
  show IntKind.i64.wrap ((BitVec.ofInt 64 (a : Int) &&& BitVec.ofInt 64 (b : Int)).toNat : Int) = _
  rw [BitVec.toNat_and, ofInt_i64 a ha, ofInt_i64 b hb, IntKind.wrap_i64]
  omega
theorem i64_or_nat (a b : Nat) (ha : a < 9223372036854775808) (hb : b < 9223372036854775808) : bits .or .i64 (a : Int) (b : Int) = ((a ||| b : Nat) : Int) := by
  have hx : a ||| b < 2 ^ 63 := Nat.or_lt_two_pow (by omega) (by omega)
  show IntKind.i64.wrap ((BitVec.ofInt 64 (a : Int) ||| BitVec.ofInt 64 (b : Int)).toNat : Int) = _
  rw [BitVec.toNat_or, ofInt_i64 a ha, ofInt_i64 b hb, IntKind.wrap_i64]
  omega

theorem bv_of {x : Int} {n : Nat} (hn : n < 256) (h : x = (n : Int)) : Value.int .u8 x = bv (UInt8.ofNat n) := by
  unfold bv; rw [u8_ofNat_toNat hn, h]
theorem low6 {m : Nat} (hm : m < 9223372036854775808) : bits .or .i64 128 (bits .and .i64 (m : Int) 63) % 256 = ((128 + m % 64 : Nat) : Int) := by
  have e1 : bits .and .i64 (m : Int) 63 = ((m % 64 : Nat) : Int) := by
    have h := i64_and_nat m 63 hm (by omega)
    rw [nat_mask6] at h
    exact h
  have e2 : bits .or .i64 128 ((m % 64 : Nat) : Int) = ((128 + m % 64 : Nat) : Int) := by
    have h := i64_or_nat 128 (m % 64) (by omega) (by omega)
    rw [nat_join 6 128 (m % 64) (by decide) (by omega)] at h
    exact h
  rw [e1, e2]; omega
theorem hi5 {m : Nat} (hm : m < 32) : bits .or .i64 192 (m : Int) % 256 = ((192 + m : Nat) : Int) := by
  have h := i64_or_nat 192 m (by omega) (by omega)
  rw [nat_join 5 192 m (by decide) (by omega)] at h
  have e : ((192 : Nat) : Int) = 192 := rfl
  rw [e] at h
  rw [h]; omega
theorem hi4 {m : Nat} (hm : m < 16) : bits .or .i64 224 (m : Int) % 256 = ((224 + m : Nat) : Int) := by
  have h := i64_or_nat 224 m (by omega) (by omega)
  rw [nat_join 4 224 m (by decide) (by omega)] at h
  have e : ((224 : Nat) : Int) = 224 := rfl
  rw [e] at h
  rw [h]; omega
theorem hi3 {m : Nat} (hm : m < 8) : bits .or .i64 240 (m : Int) % 256 = ((240 + m : Nat) : Int) := by
  have h := i64_or_nat 240 m (by omega) (by omega)
  rw [nat_join 3 240 m (by decide) (by omega)] at h
  have e : ((240 : Nat) : Int) = 240 := rfl
  rw [e] at h
  rw [h]; omega

/-- What stands behind an append to a row of the call's own. -/
theorem put_end {w w1 : World} {base : Nat} {v v' : Value} {acc : List UInt8} {o : Obj} {l : List UInt8} {e : TypeId} {k : Nat} {news : List Value} (hown : w.ownsRow base e 1 v acc.length (acc.map bv)) (hB : base ≤ w.heap.size)
    (h1 : w1.ownsRow base e 1 v' (acc.length + k) (acc.map bv ++ news)) (hl : k = l.length) (hn : news = l.map bv) (hg : (w.alloc o).grownBy w1 v.ownBlock) :
    w1.ownsRow base e 1 v' (acc ++ l).length ((acc ++ l).map bv) ∧ Below base w w1 := by
  subst hl; subst hn
  refine ⟨by simpa using h1, ?_⟩
  exact ((Below.refl base w).alloc hB o).grown hg (by simp; omega) (fun k hk => (hown.lt k hk).1)

theorem encN_2 {n : Nat} (h1 : 128 ≤ n) (h2 : n < 2048) : encN n = [UInt8.ofNat (192 + n / 64), UInt8.ofNat (128 + n % 64)] := by
  unfold encN; rw [if_neg (by omega), if_pos h2]
theorem encN_3 {n : Nat} (h1 : 2048 ≤ n) (h2 : n < 65536) : encN n = [UInt8.ofNat (224 + n / 4096), UInt8.ofNat (128 + n / 64 % 64), UInt8.ofNat (128 + n % 64)] := by
  unfold encN; rw [if_neg (by omega), if_neg (by omega), if_pos h2]
theorem encN_4 {n : Nat} (h1 : 65536 ≤ n) : encN n = [UInt8.ofNat (240 + n / 262144), UInt8.ofNat (128 + n / 4096 % 64), UInt8.ofNat (128 + n / 64 % 64), UInt8.ofNat (128 + n % 64)] := by
  unfold encN; rw [if_neg (by omega), if_neg (by omega), if_neg (by omega)]

set_option maxRecDepth 100000 in
set_option maxHeartbeats 400000 in
theorem put_1 (n : Nat) (w : World) (base : Nat) (v : Value) (acc : List UInt8) (h : n < 128) (hown : w.ownsRow base 5 1 v acc.length (acc.map bv)) (hB : base ≤ w.heap.size) (hl : acc.length ≤ 1000000) :
    Calls Tryd.prog 57 #[v, .int .i64 n] w fun e w' => ∃ v', e = .returned v' ∧ w'.ownsRow base 5 1 v' (acc ++ encN n).length ((acc ++ encN n).map bv) ∧ Below base w w' := by
  have hsc : scalarB n = true := (scalarB_iff _).2 (by omega)
  obtain ⟨i0, hi, hz0, hz1, hz2⟩ := info_parts Tryd.infoU8
  have hlen := Lib.hid (fun w => length_any n w)
  have e : lenC n = 1 := by rw [lenC_yes hsc, if_pos (by omega)]
  rw [e] at hlen
  clear e hsc
  have HO := Lib.hid hown
  go_enter Tryd.func57, Tryd.ntmps57
  go_wp2_with (first | (go_at_call 46; refine (hlen.out _).mono ?_; rintro e w' ⟨rfl, rfl⟩) | (at_builtin; refine wpList_append_own _ rfl _ _ 81 rfl base 5 i0 (.int .u8 0) 1 1 Tryd.underlying81 hi hz0 hz1 hz2 rfl (by decide) _ _ _ rfl (hown.alloc _) ⟨w.heap.size, 0, none⟩ 1 1 [.int .u8 (n : Int)] rfl rfl (cell_one_new _ _ _) ?c1 ?c2 ?c3 ?c4 ?_))
  case c1 => intro u hu; simp at hu; subst hu; rfl
  case c2 => unfold maxLen; omega
  case c3 => omega
  case c4 => simp; omega
  intro v' w1 hown1 hgrow _
  have hE := put_end (l := [UInt8.ofNat n]) HO.out hB hown1 rfl (by rw [List.map_cons, List.map_nil, ← bv_of (by omega) rfl]) hgrow
  clear hown1 hgrow hown
  have e : encN n = [UInt8.ofNat n] := by unfold encN; rw [if_pos h]
  rw [← e] at hE
  clear e
  have HE := Lib.hid hE; clear hE
  go_wp2
  go_ret
  exact ⟨v', rfl, HE.out⟩

set_option maxRecDepth 100000 in
set_option maxHeartbeats 400000 in
theorem put_2 (n : Nat) (w : World) (base : Nat) (v : Value) (acc : List UInt8) (h : 128 ≤ n) (h' : n < 2048) (hown : w.ownsRow base 5 1 v acc.length (acc.map bv)) (hB : base ≤ w.heap.size) (hl : acc.length ≤ 1000000) :
    Calls Tryd.prog 57 #[v, .int .i64 n] w fun e w' => ∃ v', e = .returned v' ∧ w'.ownsRow base 5 1 v' (acc ++ encN n).length ((acc ++ encN n).map bv) ∧ Below base w w' := by
  have hsc : scalarB n = true := (scalarB_iff _).2 (by omega)
  obtain ⟨i0, hi, hz0, hz1, hz2⟩ := info_parts Tryd.infoU8
  have hlen := Lib.hid (fun w => length_any n w)
  have e : lenC n = 2 := by rw [lenC_yes hsc, if_neg (by omega), if_pos (by omega)]
  rw [e] at hlen
  clear e hsc
  have HO := Lib.hid hown
  go_enter Tryd.func57, Tryd.ntmps57
  go_wp2_with (first | (go_at_call 46; refine (hlen.out _).mono ?_; rintro e w' ⟨rfl, rfl⟩) | (at_builtin; refine wpList_append_own _ rfl _ _ 81 rfl base 5 i0 (.int .u8 0) 1 1 Tryd.underlying81 hi hz0 hz1 hz2 rfl (by decide) _ _ _ rfl (hown.alloc _) ⟨w.heap.size, 0, none⟩ 2 2 [.int .u8 (bits .or .i64 192 ((n : Int) / 64) % 256), .int .u8 (bits .or .i64 128 (bits .and .i64 (n : Int) 63) % 256)] rfl rfl (cells_new _ _ _) ?c1 ?c2 ?c3 ?c4 ?_))
  case c1 => intro u hu; simp at hu; rcases hu with rfl | rfl <;> rfl
  case c2 => unfold maxLen; omega
  case c3 => omega
  case c4 => simp; omega
  intro v' w1 hown1 hgrow _
  have hE := put_end (l := encN n) HO.out hB hown1 (by rw [encN_2 h h']; rfl) (by rw [encN_2 h h', List.map_cons, List.map_cons, List.map_nil, ← bv_of (by omega) (hi5 (m := n / 64) (by omega)), ← bv_of (by omega) (low6 (m := n) (by omega))]; rfl) hgrow
  clear hown1 hgrow hown
  have HE := Lib.hid hE; clear hE
  go_wp2
  go_ret
  exact ⟨v', rfl, HE.out⟩

set_option maxRecDepth 100000 in
set_option maxHeartbeats 400000 in
theorem put_3 (n : Nat) (w : World) (base : Nat) (v : Value) (acc : List UInt8) (h : 2048 ≤ n) (h' : n < 65536) (hsc : scalarB n = true) (hown : w.ownsRow base 5 1 v acc.length (acc.map bv)) (hB : base ≤ w.heap.size) (hl : acc.length ≤ 1000000) :
    Calls Tryd.prog 57 #[v, .int .i64 n] w fun e w' => ∃ v', e = .returned v' ∧ w'.ownsRow base 5 1 v' (acc ++ encN n).length ((acc ++ encN n).map bv) ∧ Below base w w' := by
  obtain ⟨i0, hi, hz0, hz1, hz2⟩ := info_parts Tryd.infoU8
  have hlen := Lib.hid (fun w => length_any n w)
  have e : lenC n = 3 := by rw [lenC_yes hsc, if_neg (by omega), if_neg (by omega), if_pos (by omega)]
  rw [e] at hlen
  clear e hsc
  have HO := Lib.hid hown
  go_enter Tryd.func57, Tryd.ntmps57
  go_wp2_with (first | (go_at_call 46; refine (hlen.out _).mono ?_; rintro e w' ⟨rfl, rfl⟩) | (at_builtin; refine wpList_append_own _ rfl _ _ 81 rfl base 5 i0 (.int .u8 0) 1 1 Tryd.underlying81 hi hz0 hz1 hz2 rfl (by decide) _ _ _ rfl (hown.alloc _) ⟨w.heap.size, 0, none⟩ 3 3 [.int .u8 (bits .or .i64 224 ((n : Int) / 4096) % 256), .int .u8 (bits .or .i64 128 (bits .and .i64 ((n : Int) / 64) 63) % 256), .int .u8 (bits .or .i64 128 (bits .and .i64 (n : Int) 63) % 256)] rfl rfl (cells_new _ _ _) ?c1 ?c2 ?c3 ?c4 ?_))
  case c1 => intro u hu; simp at hu; rcases hu with rfl | rfl | rfl <;> rfl
  case c2 => unfold maxLen; omega
  case c3 => omega
  case c4 => simp; omega
  intro v' w1 hown1 hgrow _
  have hE := put_end (l := encN n) HO.out hB hown1 (by rw [encN_3 h h']; rfl) (by rw [encN_3 h h', List.map_cons, List.map_cons, List.map_cons, List.map_nil, ← bv_of (by omega) (hi4 (m := n / 4096) (by omega)), ← bv_of (by omega) (low6 (m := n / 64) (by omega)), ← bv_of (by omega) (low6 (m := n) (by omega))]; rfl) hgrow
  clear hown1 hgrow hown
  have HE := Lib.hid hE; clear hE
  go_wp2
  go_ret
  exact ⟨v', rfl, HE.out⟩

set_option maxRecDepth 100000 in
set_option maxHeartbeats 400000 in
theorem put_4 (n : Nat) (w : World) (base : Nat) (v : Value) (acc : List UInt8) (h : 65536 ≤ n) (hsc : scalarB n = true) (hown : w.ownsRow base 5 1 v acc.length (acc.map bv)) (hB : base ≤ w.heap.size) (hl : acc.length ≤ 1000000) :
    Calls Tryd.prog 57 #[v, .int .i64 n] w fun e w' => ∃ v', e = .returned v' ∧ w'.ownsRow base 5 1 v' (acc ++ encN n).length ((acc ++ encN n).map bv) ∧ Below base w w' := by
  have hs := (scalarB_iff _).1 hsc
  obtain ⟨i0, hi, hz0, hz1, hz2⟩ := info_parts Tryd.infoU8
  have hlen := Lib.hid (fun w => length_any n w)
  have e : lenC n = 4 := by rw [lenC_yes hsc, if_neg (by omega), if_neg (by omega), if_neg (by omega)]
  rw [e] at hlen
  clear e hsc
  have HO := Lib.hid hown
  go_enter Tryd.func57, Tryd.ntmps57
  go_wp2_with (first | (go_at_call 46; refine (hlen.out _).mono ?_; rintro e w' ⟨rfl, rfl⟩) | (at_builtin; refine wpList_append_own _ rfl _ _ 81 rfl base 5 i0 (.int .u8 0) 1 1 Tryd.underlying81 hi hz0 hz1 hz2 rfl (by decide) _ _ _ rfl (hown.alloc _) ⟨w.heap.size, 0, none⟩ 4 4 [.int .u8 (bits .or .i64 240 ((n : Int) / 262144) % 256), .int .u8 (bits .or .i64 128 (bits .and .i64 ((n : Int) / 4096) 63) % 256), .int .u8 (bits .or .i64 128 (bits .and .i64 ((n : Int) / 64) 63) % 256), .int .u8 (bits .or .i64 128 (bits .and .i64 (n : Int) 63) % 256)] rfl rfl (cells_new _ _ _) ?c1 ?c2 ?c3 ?c4 ?_))
  case c1 => intro u hu; simp at hu; rcases hu with rfl | rfl | rfl | rfl <;> rfl
  case c2 => unfold maxLen; omega
  case c3 => omega
  case c4 => simp; omega
  intro v' w1 hown1 hgrow _
  have hE := put_end (l := encN n) HO.out hB hown1 (by rw [encN_4 h]; rfl) (by rw [encN_4 h, List.map_cons, List.map_cons, List.map_cons, List.map_cons, List.map_nil, ← bv_of (by omega) (hi3 (m := n / 262144) (by omega)), ← bv_of (by omega) (low6 (m := n / 4096) (by omega)), ← bv_of (by omega) (low6 (m := n / 64) (by omega)), ← bv_of (by omega) (low6 (m := n) (by omega))]; rfl) hgrow
  clear hown1 hgrow hown
  have HE := Lib.hid hE; clear hE
  go_wp2
  go_ret
  exact ⟨v', rfl, HE.out⟩

theorem put_any (c : Int) (w : World) (base : Nat) (v : Value) (acc : List UInt8) (hsc : scalarB c = true) (hown : w.ownsRow base 5 1 v acc.length (acc.map bv)) (hB : base ≤ w.heap.size) (hl : acc.length ≤ 1000000) :
    Calls Tryd.prog 57 #[v, .int .i64 c] w fun e w' => ∃ v', e = .returned v' ∧ w'.ownsRow base 5 1 v' (acc ++ encC c).length ((acc ++ encC c).map bv) ∧ Below base w w' := by
  have hs := (scalarB_iff _).1 hsc
  obtain ⟨n, rfl⟩ := Int.eq_ofNat_of_zero_le hs.1
  rw [encC, Int.toNat_natCast]
  by_cases h1 : n < 128
  · exact put_1 n w base v acc h1 hown hB hl
  · by_cases h2 : n < 2048
    · exact put_2 n w base v acc (by omega) h2 hown hB hl
    · by_cases h3 : n < 65536
      · exact put_3 n w base v acc (by omega) h3 hsc hown hB hl
      · exact put_4 n w base v acc (by omega) hsc hown hB hl
end Go.Proofs.YtecpbicfiaifdaaDoor
/-
  The walk through utf.Encode.
-/
namespace Go.Proofs.YtecpbicfiaifdaaDoor
open Go.RowKit ND

set_option maxRecDepth 100000 in
set_option maxHeartbeats 1000000 in
theorem enc_any (v : Value) (xs : List Int) (w : World) (hv : Ints w w.heap.size .i64 v xs) : Calls Tryd.prog 45 #[v] w (RetEnc w (encodeL xs)) := by
  obtain ⟨A, c, rfl, hc1, hc2, _, hcell⟩ := hv
  have HC := Lib.hid hcell; clear hcell
  have hc2' : c ≤ 9223372036854775807 := by unfold maxLen at hc2; omega
  clear hc2
  by_cases h : 4096 < xs.length
  · rw [encodeL_full h]
    go_enter Tryd.func45, Tryd.ntmps45
    go_wp2_with fail
    go_ret2
    exact ⟨rfl, Below.refl _ _⟩
  · have hl : xs.length ≤ 4096 := by omega
    clear h
    go_enter Tryd.func45, Tryd.ntmps45
    go_wp2_with fail
    go_loopw [4, 12] (fun b i wr => ∃ (k : Nat), k ≤ xs.length ∧ i = .int .i64 k ∧ wr.ownsRow w.heap.size 5 1 b (encAll (xs.take k)).length ((encAll (xs.take k)).map bv) ∧
        Hid (∀ x ∈ xs.take k, scalarB x = true) ∧ Below w.heap.size w wr) (fun _ i _ => xs.length - (intOf i).toNat)
    case atStart => exact ⟨0, by omega, rfl, World.ownsRow_nil _ _ _ _, Lib.hid (by simp), Below.refl _ _⟩
    case round =>
      obtain ⟨k, hk, rfl, hown, HS, hbel⟩ := hrel
      by_cases hlt : k < xs.length
      · obtain ⟨x, hxk, hxm⟩ := get_of hlt
        obtain ⟨ad, rfl, hb, hce⟩ := HC.out k x hxk
        have hce' := (hbel.cell (p := ad.add k) (by rw [block_of_add]; exact hb)).trans hce
        have HXK := Lib.hid hxk
        clear hce hxk hxm hb
        cases hsx : scalarB x
        · have hsc := Lib.hid (fun W => scalar_any x W)
          rw [hsx] at hsc
          have HX := Lib.hid (encodeL_bad hl HXK.out hsx)
          clear hsx
          go_wp2_with (go_at_call 56; refine (hsc.out _).mono ?_; rintro e w1 ⟨rfl, rfl⟩)
          go_ret2
          rw [HX.out]
          exact ⟨rfl, hbel⟩
        · have hsc := Lib.hid (fun W => scalar_any x W)
          rw [hsx] at hsc
          have HSX := Lib.hid hsx
          clear hsx
          go_wp2_with fail
          refine (hsc.out _).mono ?_
          rintro e w1 ⟨rfl, rfl⟩
          go_wp2_with fail
          have hel := encAll_len (xs.take k)
          rw [List.length_take] at hel
          refine (put_any x _ w.heap.size _ (encAll (xs.take k)) HSX.out hown hbel.size (by omega)).mono ?_
          rintro e w1 ⟨v', rfl, hown', b1⟩
          have hbel1 := hbel.trans b1
          clear hown hbel b1 hel
          have e1 : encAll (xs.take (k + 1)) = encAll (xs.take k) ++ encC x := by rw [take_snoc_of HXK.out, encAll_snoc]
          rw [← e1] at hown'
          clear e1
          go_wp2_with fail
          go_roundw
          case rel =>
            refine ⟨k + 1, by omega, by go_num, hown', Lib.hid ?_, hbel1⟩
            intro y hy
            rw [take_snoc_of HXK.out, List.mem_append, List.mem_singleton] at hy
            rcases hy with hy | rfl
            · exact HS.out y hy
            · exact HSX.out
          case measure => simp [intOf]; omega
      · obtain rfl : k = xs.length := by omega
        rw [List.take_length] at hown HS
        have HX := Lib.hid (encodeL_ok hl HS.out)
        have hcv := bytes_of_ownsT (P := Tryd.prog) 81 9 (ownsT_of hown) Tryd.underlying81 Tryd.underlying5 Tryd.underlying9
        clear hown
        go_wp2_with fail
        go_ret2
        rw [HX.out]
        exact ⟨rfl, hbel⟩
end Go.Proofs.YtecpbicfiaifdaaDoor
/-
  The walk through skeleton.Key.
-/
namespace Go.Proofs.YtecpbicfiaifdaaDoor
open Go.RowKit ND

set_option maxRecDepth 100000 in
set_option maxHeartbeats 2000000 in
theorem skKey_any (t : Tv) (T : Tab) (v : Value) (xs : List Int) (w : World) (ht : TabR w w.heap.size t T) (hg : Glob w) (hv : Ints w w.heap.size .i64 v xs) :
    Calls Tryd.prog 36 #[t.val, v] w (RetKey w (keyR T xs)) := by
  obtain ⟨A, c, rfl, _⟩ := id hv
  have HB0 : Hid (Below w.heap.size w (w.alloc (.cells t.cells 31))) := Lib.hid ((Below.refl _ _).alloc (Nat.le_refl _) _)
  have HT : Hid (Tbl (w.alloc (.cells t.cells 31)) w.heap.size t T) := Lib.hid ⟨Blk.new _ _ _, ht.later HB0.out⟩
  have HV := Lib.hid (hv.later HB0.out)
  have HG := Lib.hid (hg.later HB0.out)
  clear ht hv hg
  have H1 := Lib.hid (skOf_any t T _ xs _ HT.out.2 HG.out HV.out)
  obtain ⟨dl, e1, hd⟩ : ∃ dl e1, skelR T xs = (dl, e1) := ⟨_, _, rfl⟩
  rw [hd] at H1
  by_cases h1 : e1 = 0
  · subst h1
    have HR := Lib.hid (keyR_ok hd)
    clear hd
    generalize keyR T xs = R at *
    go_enter Tryd.func36, Tryd.ntmps36
    go_upto_region 1 with fail
    generalize w.alloc (.cells t.cells 31) = w1 at *
    obtain ⟨x0, x1, x2, x3, x4, x5, x6, x7, x8, x9, x10, x11⟩ := HT.out.1.tab
    go_upto_region 2 with (go_at_call 12; refine H1.out.mono ?_; rintro e w2 ⟨u2, rfl, ho2, b2⟩; obtain ⟨A2, c2, rfl, _⟩ := id (Ints.of_own ho2); have HU2 := Lib.hid (Ints.of_own ho2); clear ho2)
    clear x0 x1 x2 x3 x4 x5 x6 x7 x8 x9 x10 x11
    go_wp2_with (go_at_call 45; refine (enc_any _ dl _ HU2.out).mono ?_; rintro e w3 ⟨rfl, b3⟩)
    go_ret2
    rw [HR.out]
    exact ⟨rfl, below_next (below_next HB0.out b2) b3⟩
  · have HR := Lib.hid (keyR_err hd h1)
    have hb : (e1 != 0) = true := by simpa using h1
    clear hd h1
    generalize keyR T xs = R at *
    go_enter Tryd.func36, Tryd.ntmps36
    go_upto_region 1 with fail
    generalize w.alloc (.cells t.cells 31) = w1 at *
    obtain ⟨x0, x1, x2, x3, x4, x5, x6, x7, x8, x9, x10, x11⟩ := HT.out.1.tab
    go_wp2_with (go_at_call 12; refine H1.out.mono ?_; rintro e w2 ⟨u2, rfl, ho2, b2⟩; obtain ⟨A2, c2, rfl, _⟩ := id (Ints.of_own ho2); have HU2 := Lib.hid (Ints.of_own ho2); clear ho2)
    go_ret2
    rw [HR.out]
    exact ⟨rfl, below_next HB0.out b2⟩
end Go.Proofs.YtecpbicfiaifdaaDoor
/-
  The walk through awake of the laws of layer 20: the example of its chapter.
-/
namespace Go.Proofs.YtecpbicfiaifdaaDoor
open Go.RowKit ND

def tab20 : Tab := ⟨[], [], [], [], [], [], [], [], [], [], [], [(109, [114, 110]), (1072, [97])]⟩
theorem sk20_1 : skelR tab20 [1072, 98] = ([97, 98], 0) := by decide +kernel
theorem sk20_2 : keyR tab20 [109] = ([114, 110], 0) := by decide +kernel
theorem sk20_3 : keyR tab20 [114, 110] = ([114, 110], 0) := by decide +kernel
/-- The example's tables, as they lie. -/
theorem lay20 (w : World) : ∃ t : Tv, t = ⟨.slice none 0 0, .slice none 0 0, .slice none 0 0, .slice none 0 0, .slice none 0 0, .slice none 0 0, .slice none 0 0, .slice none 0 0, .slice none 0 0, .slice none 0 0, .slice none 0 0, .slice (some ⟨w.heap.size + 1 + 1, 0, none⟩) 2 2⟩ ∧ Tbl ((((w.alloc (.cells #[.int .i64 114, .int .i64 110] 3)).alloc (.cells #[.int .i64 97] 3)).alloc (.cells #[.int .i64 109, .slice (some ⟨w.heap.size, 0, none⟩) 2 2, .int .i64 1072, .slice (some ⟨w.heap.size + 1, 0, none⟩) 1 1] 49)).alloc (.cells #[.slice none 0 0, .slice none 0 0, .slice none 0 0, .slice none 0 0, .slice none 0 0, .slice none 0 0, .slice none 0 0, .slice none 0 0, .slice none 0 0, .slice none 0 0, .slice none 0 0, .slice (some ⟨w.heap.size + 1 + 1, 0, none⟩) 2 2] 31)) (w.heap.size + 1 + 1 + 1) t tab20 ∧ Below w.heap.size w ((((w.alloc (.cells #[.int .i64 114, .int .i64 110] 3)).alloc (.cells #[.int .i64 97] 3)).alloc (.cells #[.int .i64 109, .slice (some ⟨w.heap.size, 0, none⟩) 2 2, .int .i64 1072, .slice (some ⟨w.heap.size + 1, 0, none⟩) 1 1] 49)).alloc (.cells #[.slice none 0 0, .slice none 0 0, .slice none 0 0, .slice none 0 0, .slice none 0 0, .slice none 0 0, .slice none 0 0, .slice none 0 0, .slice none 0 0, .slice none 0 0, .slice none 0 0, .slice (some ⟨w.heap.size + 1 + 1, 0, none⟩) 2 2] 31)) := by
  have b1 := (Below.refl w.heap.size w).alloc (Nat.le_refl _) (.cells #[.int .i64 114, .int .i64 110] 3)
  have i1 : Ints (w.alloc (.cells #[.int .i64 114, .int .i64 110] 3)) (w.alloc (.cells #[.int .i64 114, .int .i64 110] 3)).heap.size .i64 (.slice (some ⟨w.heap.size, 0, none⟩) 2 2) [114, 110] := (by have h := Ints.of_own (own_new w 3 [114, 110] (by simp)); simpa using h)
  have s1 : (w.alloc (.cells #[.int .i64 114, .int .i64 110] 3)).heap.size = w.heap.size + 1 := by simp
  generalize (w.alloc (.cells #[.int .i64 114, .int .i64 110] 3)) = a1 at *
  have b2 := (Below.refl a1.heap.size a1).alloc (Nat.le_refl _) (.cells #[.int .i64 97] 3)
  have i2 : Ints (a1.alloc (.cells #[.int .i64 97] 3)) (a1.alloc (.cells #[.int .i64 97] 3)).heap.size .i64 (.slice (some ⟨a1.heap.size, 0, none⟩) 1 1) [97] := (by have h := Ints.of_own (own_new a1 3 [97] (by simp)); simpa using h)
  have s2 : (a1.alloc (.cells #[.int .i64 97] 3)).heap.size = w.heap.size + 1 + 1 := by simp [s1]
  have i1 := i1.later b2
  rw [s1] at i2
  generalize a1.alloc (.cells #[.int .i64 97] 3) = a2 at *
  have b3 := (Below.refl a2.heap.size a2).alloc (Nat.le_refl _) (.cells #[.int .i64 109, .slice (some ⟨w.heap.size, 0, none⟩) 2 2, .int .i64 1072, .slice (some ⟨w.heap.size + 1, 0, none⟩) 1 1] 49)
  have hm := lit_map2 a2 109 _ [114, 110] 1072 _ [97] i1 i2
  have s3 : (a2.alloc (.cells #[.int .i64 109, .slice (some ⟨w.heap.size, 0, none⟩) 2 2, .int .i64 1072, .slice (some ⟨w.heap.size + 1, 0, none⟩) 1 1] 49)).heap.size = w.heap.size + 1 + 1 + 1 := by simp [s2]
  rw [s2] at hm
  generalize a2.alloc (.cells #[.int .i64 109, .slice (some ⟨w.heap.size, 0, none⟩) 2 2, .int .i64 1072, .slice (some ⟨w.heap.size + 1, 0, none⟩) 1 1] 49) = a3 at *
  have b4 := (Below.refl a3.heap.size a3).alloc (Nat.le_refl _) (.cells #[.slice none 0 0, .slice none 0 0, .slice none 0 0, .slice none 0 0, .slice none 0 0, .slice none 0 0, .slice none 0 0, .slice none 0 0, .slice none 0 0, .slice none 0 0, .slice none 0 0, .slice (some ⟨w.heap.size + 1 + 1, 0, none⟩) 2 2] 31)
  have hX := Blk.new a3 31 #[.slice none 0 0, .slice none 0 0, .slice none 0 0, .slice none 0 0, .slice none 0 0, .slice none 0 0, .slice none 0 0, .slice none 0 0, .slice none 0 0, .slice none 0 0, .slice none 0 0, .slice (some ⟨w.heap.size + 1 + 1, 0, none⟩) 2 2]
  rw [s3] at hX
  refine ⟨_, rfl, ⟨hX, ⟨Spans.none_, Spans.none_, Spans.none_, Spans.none_, Spans.none_, Spans.none_, Spans.none_, Mapps.none_, Mapps.none_, Mapps.none_, Ints.none_, hm.later b4⟩⟩, below_next (below_next (below_next b1 b2) b3) b4⟩
set_option maxRecDepth 100000 in
set_option maxHeartbeats 4000000 in
theorem awake20 (w : World) (hg : Glob w) : Calls Tryd.prog 14 #[] w fun e w' => e = .returned (.bool true) ∧ Below w.heap.size w w' := by
  have HG := Lib.hid (fun W (h : Below w.heap.size w W) => hg.later h)
  clear hg
  go_enter Tryd.func14, Tryd.ntmps14
  go_upto_region 2 with fail
  obtain ⟨t, ht, htb, hb0⟩ := lay20 w
  have HT := Lib.hid htb
  have B0 := Lib.hid hb0
  clear htb hb0 ht
  generalize ((((w.alloc (.cells #[.int .i64 114, .int .i64 110] 3)).alloc (.cells #[.int .i64 97] 3)).alloc (.cells #[.int .i64 109, .slice (some ⟨w.heap.size, 0, none⟩) 2 2, .int .i64 1072, .slice (some ⟨w.heap.size + 1, 0, none⟩) 1 1] 49)).alloc (.cells #[.slice none 0 0, .slice none 0 0, .slice none 0 0, .slice none 0 0, .slice none 0 0, .slice none 0 0, .slice none 0 0, .slice none 0 0, .slice none 0 0, .slice none 0 0, .slice none 0 0, .slice (some ⟨w.heap.size + 1 + 1, 0, none⟩) 2 2] 31)) = w1 at *
  obtain ⟨tb, htb⟩ : ∃ tb, w.heap.size + 1 + 1 + 1 = tb := ⟨_, rfl⟩
  rw [htb] at HT
  simp only [htb]
  clear htb
  have HG1 := Lib.hid (fun W (h : Below w1.heap.size w1 W) => HG.out W (below_next B0.out h))
  have HOF := Lib.hid (fun v xs W (h : Below w1.heap.size w1 W) hi => skOf_any t tab20 v xs W (HT.out.later h).2 (HG1.out W h) hi)
  have HKY := Lib.hid (fun v xs W (h : Below w1.heap.size w1 W) hi => skKey_any t tab20 v xs W (HT.out.later h).2 (HG1.out W h) hi)
  clear HG
  obtain ⟨x0, x1, x2, x3, x4, x5, x6, x7, x8, x9, x10, x11⟩ := HT.out.1.tab
  go_upto_region 3 with (go_at_call 12; have bl := (Below.refl w1.heap.size w1).alloc (Nat.le_refl _) (.cells #[.int .i64 1072, .int .i64 98] 3); have hc := HOF.out (.slice (some ⟨w1.heap.size, 0, none⟩) 2 2) [1072, 98] _ bl (by have h := Ints.of_own (own_new w1 3 [1072, 98] (by simp)); simpa using h); rw [sk20_1] at hc; refine hc.mono ?_; rintro e w2 ⟨u2, rfl, ho2, b2⟩; obtain ⟨A2, c2, rfl, _⟩ := id (Ints.of_own ho2); have HU2 := Lib.hid (Ints.of_own ho2); have B2 := Lib.hid (below_next bl b2); clear bl b2 hc ho2)
  clear x0 x1 x2 x3 x4 x5 x6 x7 x8 x9 x10 x11
  obtain ⟨x0, x1, x2, x3, x4, x5, x6, x7, x8, x9, x10, x11⟩ := (HT.out.later B2.out).1.tab
  go_upto_region 4 with (go_at_call 36; have bl := (Below.refl w2.heap.size w2).alloc (Nat.le_refl _) (.cells #[.int .i64 109] 3); have hc := HKY.out (.slice (some ⟨w2.heap.size, 0, none⟩) 1 1) [109] _ (below_next B2.out bl) (by have h := Ints.of_own (own_new w2 3 [109] (by simp)); simpa using h); rw [sk20_2] at hc; refine hc.mono ?_; rintro e w3 ⟨rfl, b3⟩; have B3 := Lib.hid (below_next B2.out (below_next bl b3)); have HU3 := Lib.hid (HU2.out.later (below_next bl b3)); clear bl b3 hc)
  clear x0 x1 x2 x3 x4 x5 x6 x7 x8 x9 x10 x11
  obtain ⟨x0, x1, x2, x3, x4, x5, x6, x7, x8, x9, x10, x11⟩ := (HT.out.later B3.out).1.tab
  go_upto_region 5 with (go_at_call 36; have bl := (Below.refl w3.heap.size w3).alloc (Nat.le_refl _) (.cells #[.int .i64 114, .int .i64 110] 3); have hc := HKY.out (.slice (some ⟨w3.heap.size, 0, none⟩) 2 2) [114, 110] _ (below_next B3.out bl) (by have h := Ints.of_own (own_new w3 3 [114, 110] (by simp)); simpa using h); rw [sk20_3] at hc; refine hc.mono ?_; rintro e w4 ⟨rfl, b4⟩; have B4 := Lib.hid (below_next B3.out (below_next bl b4)); have HU4 := Lib.hid (HU3.out.later (below_next bl b4)); clear bl b4 hc)
  clear x0 x1 x2 x3 x4 x5 x6 x7 x8 x9 x10 x11
  go_wp2_with (go_at_call 15; have bl := (Below.refl w4.heap.size w4).alloc (Nat.le_refl _) (.cells #[.int .i64 97, .int .i64 98] 3); refine (same_of _ _ [97, 98] [97, 98] _ (HU4.out.later bl) (by have h := Ints.of_own (own_new w4 3 [97, 98] (by simp)); simpa using h) rfl).mono ?_; rintro e w5 ⟨rfl, b5⟩; have B5 := Lib.hid (below_next B4.out (below_next bl b5)); clear bl b5)
  go_ret
  exact ⟨rfl, below_next B0.out B5.out⟩
end Go.Proofs.YtecpbicfiaifdaaDoor
