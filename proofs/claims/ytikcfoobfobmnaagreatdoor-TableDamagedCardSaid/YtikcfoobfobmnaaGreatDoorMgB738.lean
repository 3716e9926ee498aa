/-
  Merged texts: lemmas and walks that the last text of this claim leans on.
-/
import Derived.Test.YtikcfoobfobmnaaGreatDoorMgB715
import Derived.Test.YtikcfoobfobmnaaGreatDoorMgB730
import Derived.Test.YtikcfoobfobmnaaGreatDoorMgB735
import Derived.Test.YtikcfoobfobmnaaGreatDoorMgB736
import Derived.Test.YtikcfoobfobmnaaGreatDoorMgB737
import Derived.Test.YtikcfoobfobmnaaGreatDoorMgB716
import Derived.Test.YtikcfoobfobmnaaGreatDoorMgB728
import Derived.Lib.Strings
import Derived.Deep.CutBlock
/-
  The walk through the law TableDamaged.
-/
namespace Go.Proofs.YtikcfoobfobmnaaGreatDoor
open Go.RowKit ND

theorem conv_at {P : Program} (W : World) (src dst e : TypeId) (g : Nat) (x : Int) (hs : P.underlying src = some (.slice e)) (he : P.underlying e = some (.int .u8)) (hd : P.underlying dst = some .string) (h0 : 0 ≤ x) (h1 : x ≤ 255) (hc : W.cell? ⟨g, 0, none⟩ = some (.int .u8 x)) :
    (convert src dst (.slice (some ⟨g, 0, none⟩) 1 1)).run P W = .ok (.string ⟨#[UInt8.ofNat x.toNat]⟩) W := by
  have h := run_convert_bytes_back (P := P) W src dst e ⟨g, 0, none⟩ 1 [UInt8.ofNat x.toNat] hs he hd (fun j hj => by
    obtain rfl : j = 0 := by simpa using hj
    simp only [Addr.add, if_true]
    rw [hc]
    have e1 : (UInt8.ofNat x.toNat).toNat = x.toNat := by simp; omega
    simp only [List.getElem_cons_zero, e1]
    have e2 : ((x.toNat : Nat) : Int) = x := by omega
    rw [e2])
  exact h
theorem dmg_tbl {u2 : World} {g : Nat} {t : Tv} {R : Tab} {n0 n1 n2 n3 n4 n5 n6 n7 n8 n9 n10 n11 : Value} (hk : Blk u2 g 29 #[n0, n1, n2, n3, n4, n5, n6, n7, n8, n9, n10, n11]) (h : ∀ X, onlyIn [g] u2 X → TabR X X.heap.size t R) :
    Tbl ((((((((((((u2.setCell ⟨g, 0, none⟩ (t.c0)).setCell ⟨g, 1, none⟩ (t.c1)).setCell ⟨g, 2, none⟩ (t.c2)).setCell ⟨g, 3, none⟩ (t.c3)).setCell ⟨g, 4, none⟩ (t.c4)).setCell ⟨g, 5, none⟩ (t.c5)).setCell ⟨g, 6, none⟩ (t.c6)).setCell ⟨g, 7, none⟩ (t.c7)).setCell ⟨g, 8, none⟩ (t.c8)).setCell ⟨g, 9, none⟩ (t.c9)).setCell ⟨g, 10, none⟩ (t.c10)).setCell ⟨g, 11, none⟩ (t.c11)) g t R :=
  by
  have h1 := ((((((((((((hk.put 0 t.c0).put 1 t.c1).put 2 t.c2).put 3 t.c3).put 4 t.c4).put 5 t.c5).put 6 t.c6).put 7 t.c7).put 8 t.c8).put 9 t.c9).put 10 t.c10).put 11 t.c11)
  simp only [List.setIfInBounds_toArray, List.set_cons_zero, List.set_cons_succ] at h1
  exact ⟨h1, h _ (only_set12 (onlyIn.refl _ _) List.mem_cons_self)⟩
theorem dmg_list (s : ByteArray) (k : Nat) (b : Int) (_ : k < s.size) : (s.extract 0 k ++ ⟨#[UInt8.ofNat b.toNat]⟩ ++ s.extract (k + 1) s.size).data.toList = s.data.toList.take k ++ UInt8.ofNat b.toNat :: s.data.toList.drop (k + 1) := by
  rw [ByteArray.data_append, Array.toList_append, ByteArray.data_append, Array.toList_append, Lib.extract_data, Lib.extract_data]
  have hl : s.data.toList.length = s.size := by rw [Array.length_toList]; rfl
  have e : (s.data.toList.drop (k + 1)).take (s.size - (k + 1)) = s.data.toList.drop (k + 1) := List.take_of_length_le (by rw [List.length_drop, hl]; omega)
  rw [e]
  simp
theorem dmg_same {s : ByteArray} {k : Nat} (hk : k < s.size) : (s.extract 0 k ++ ⟨#[UInt8.ofNat ((s[k].toNat : Int)).toNat]⟩ ++ s.extract (k + 1) s.size).data.toList = s.data.toList := by
  rw [dmg_list s k _ hk]
  have e1 : UInt8.ofNat ((s[k].toNat : Int)).toNat = s[k] := by
    apply UInt8.toNat_inj.1
    rw [u8_ofNat_toNat (by have := s[k].toNat_lt; omega)]; omega
  rw [e1, ← bytes_drop s k hk, List.take_append_drop]
theorem dmg_other {s : ByteArray} {k : Nat} (hk : k < s.size) {b : Int} (h0 : 0 ≤ b) (h1 : b < 256) (h : (s.extract 0 k ++ ⟨#[UInt8.ofNat b.toNat]⟩ ++ s.extract (k + 1) s.size).data.toList = s.data.toList) : b = (s[k].toNat : Int) := by
  rw [dmg_list s k _ hk] at h
  have e2 : s.data.toList = s.data.toList.take k ++ s[k] :: s.data.toList.drop (k + 1) := by
    rw [← bytes_drop s k hk, List.take_append_drop]
  rw [e2] at h
  have hl : s.data.toList.length = s.size := by rw [Array.length_toList]; rfl
  have e3 : (s.data.toList.take k ++ s[k] :: s.data.toList.drop (k + 1)).take k = s.data.toList.take k := by rw [List.take_append_of_le_length (by rw [List.length_take]; omega), List.take_take, Nat.min_self]
  have e4 : (s.data.toList.take k ++ s[k] :: s.data.toList.drop (k + 1)).drop (k + 1) = s.data.toList.drop (k + 1) := by rw [← e2]
  rw [e3, e4] at h
  have h3 := List.append_cancel_left h
  simp only [List.cons.injEq] at h3
  rw [← h3.1, u8_ofNat_toNat (by omega)]; omega

set_option maxRecDepth 100000 in
set_option maxHeartbeats 40000000 in
theorem TableDamaged_go (W : World) (hg : Glob W) (v : Value) (xs : List Int) (hv : Ints W W.heap.size .i64 v xs) (a1 a2 : Int) :
    Calls Tryz.prog 4 #[v, .int .i64 a1, .int .i64 a2] W fun e W' => e = .returned (.bool true) ∧ Below W.heap.size W W' := by
  have HG := Lib.hid (fun V (h : Below W.heap.size W V) => awake4 V (hg.later h))
  have HGL := Lib.hid (fun V (h : Below W.heap.size W V) => hg.later h)
  obtain ⟨A, c, rfl, _⟩ := id hv
  have HT := Lib.hid (fun V (h : Below W.heap.size W V) => keepTables_any V _ xs (hv.later h))
  clear hv hg
  have HB0 : Hid (Below W.heap.size W W) := Lib.hid (Below.refl _ _)
  go_enter Tryz.func4, Tryz.ntmps4
  go_upto_region 2 with (go_at_call 6; refine (HT.out W HB0.out).mono ?_; rintro e w1 ⟨t, T1, rfl, ht1, hm1, hb1⟩; obtain ⟨A1_0, A1_1, A1_2, A1_3, A1_4, A1_5, A1_6, A1_7, A1_8, A1_9, A1_10, A1_11, k1_0, k1_1, k1_2, k1_3, k1_4, k1_5, k1_6, k1_7, k1_8, k1_9, k1_10, k1_11, rfl⟩ := ht1.shape; have HT1 := Lib.hid ht1; have HM1 := Lib.hid hm1; have HB1 := Lib.hid hb1; clear ht1 hm1 hb1)
  obtain ⟨t1, ht1, htb1⟩ := Tbl.new HT1.out
  have HV1 := Lib.hid htb1
  have HBV1 := Lib.hid (HB1.out.alloc HB1.out.size (.cells #[.slice A1_0 T1.category.length k1_0, .slice A1_1 T1.cls.length k1_1, .slice A1_2 T1.joining.length k1_2, .slice A1_3 T1.bidi.length k1_3, .slice A1_4 T1.script.length k1_4, .slice A1_5 T1.status.length k1_5, .slice A1_6 T1.ignorable.length k1_6, .slice A1_7 T1.extensions.length k1_7, .slice A1_8 T1.maps.length k1_8, .slice A1_9 T1.decomps.length k1_9, .slice A1_10 T1.excluded.length k1_10, .slice A1_11 T1.prototypes.length k1_11] 29))
  clear htb1 HT1 HB1
  generalize w1.alloc (.cells #[.slice A1_0 T1.category.length k1_0, .slice A1_1 T1.cls.length k1_1, .slice A1_2 T1.joining.length k1_2, .slice A1_3 T1.bidi.length k1_3, .slice A1_4 T1.script.length k1_4, .slice A1_5 T1.status.length k1_5, .slice A1_6 T1.ignorable.length k1_6, .slice A1_7 T1.extensions.length k1_7, .slice A1_8 T1.maps.length k1_8, .slice A1_9 T1.decomps.length k1_9, .slice A1_10 T1.excluded.length k1_10, .slice A1_11 T1.prototypes.length k1_11] 29) = v1 at *
  generalize w1.heap.size = b1 at *
  clear ht1 HT HB0
  obtain ⟨S1, HS1⟩ : ∃ S : ByteArray, Hid (S = ⟨(encTR T1).1.toArray⟩ ∧ encTR T1 = (S.data.toList, 0) ∧ 6 ≤ S.size ∧ S.size ≤ 32768) := by
    obtain ⟨h1, h2⟩ := made_short HM1.out
    have h3 := (encAll_long HM1.out.check).1
    refine ⟨⟨(encTR T1).1.toArray⟩, Lib.hid ⟨rfl, by rw [h1], ?_, ?_⟩⟩
    · rw [← sz_list, h1]; exact h3
    · rw [← sz_list, h1]; exact h2
  have hsz := HS1.out.2.2
  obtain ⟨r1, hr1⟩ : ∃ r, r = (encTR T1).2 := ⟨_, rfl⟩
  have HE1 : Hid (∀ V, Below v1.heap.size v1 V → Calls Tryz.prog 5 #[t1.val] V fun e V' => e = .returned (.tuple #[.string S1, .int .i64 r1]) ∧ Below V.heap.size V V') := Lib.hid fun V hV => (refEncode_any t1 T1 V (HV1.out.later hV).2).mono fun e V' h => ⟨by rw [h.1, HS1.out.1, hr1], h.2⟩
  clear hr1
  have HBC0 : Hid (Below v1.heap.size v1 v1) := Lib.hid (Below.refl _ _)
  obtain ⟨x0, x1, x2, x3, x4, x5, x6, x7, x8, x9, x10, x11⟩ := HV1.out.1.tab
  go_upto_region 3 with (go_at_call 5; refine (HE1.out _ HBC0.out).mono ?_; rintro e u1 ⟨rfl, q1⟩)
  have HBC1 := Lib.hid q1
  clear q1 x0 x1 x2 x3 x4 x5 x6 x7 x8 x9 x10 x11 HE1 HBC0
  go_wp2_with fail
  refine (pick_any a1 S1.size _ (by omega) (by omega)).mono ?_
  rintro e w' ⟨rfl, rfl⟩
  have hq := pick_in a1 (n := S1.size) (by omega)
  obtain ⟨k, hk⟩ := Int.eq_ofNat_of_zero_le hq.1
  rw [hk] at hq ⊢
  clear hk
  go_wp2_with fail
  refine (pick_any a2 256 _ (by omega) (by omega)).mono ?_
  rintro e w' ⟨rfl, rfl⟩
  have hr := pick_in a2 (n := 256) (by omega)
  generalize pick a2 256 = b at *
  have hcv : (convert 32 9 (.slice (some ⟨u1.heap.size, 0, none⟩) 1 1)).run Tryz.prog (u1.alloc (.cells #[.int .u8 b] 5)).drew = .ok (.string ⟨#[UInt8.ofNat b.toNat]⟩) (u1.alloc (.cells #[.int .u8 b] 5)).drew :=
    conv_one (P := Tryz.prog) u1.drew 32 9 5 b Tryz.underlying32 Tryz.underlying5 Tryz.underlying9 hr.1 (by omega)
  have hk0 : (0 : Int) ≤ (k : Int) := by omega
  have hk1 : (k : Int) ≤ (S1.size : Int) := by omega
  have hkn : k < S1.size := by omega
  have hkm : (k : Int) < (S1.size : Int) := by omega
  have hk2 : (k : Int) + 1 ≤ (S1.size : Int) := by omega
  have hk3 : (k : Int) ≤ 32768 := by omega
  have hk4 : (0 : Int) ≤ (k : Int) + 1 := by omega
  have hk5 : IntKind.i64.wrap ((k : Int) + 1) = (k : Int) + 1 := IntWalk.i64_in _ (by omega)
  obtain ⟨hz6, hz7⟩ := hsz
  obtain ⟨Z, HZ⟩ : ∃ Z : ByteArray, Hid (S1.extract 0 k ++ ⟨#[UInt8.ofNat b.toNat]⟩ ++ S1.extract (k + 1) S1.size = Z) := ⟨_, Lib.hid rfl⟩
  obtain ⟨R, rr, hR⟩ : ∃ R rr, decTR Z.data.toList = (R, rr) := ⟨_, _, rfl⟩
  have HDC : Hid (∀ (S0 : List Nat) V, Below v1.heap.size v1 V → (∀ x ∈ S0, x < V.heap.size) → Calls Tryz.prog 13 #[.string (S1.extract 0 k ++ ⟨#[UInt8.ofNat b.toNat]⟩ ++ S1.extract (k + 1) S1.size)] V fun e V' => ∃ t, e = .returned (.tuple #[t.val, .int .i64 rr]) ∧ (∀ X, onlyIn S0 V' X → TabR X X.heap.size t R) ∧ Below V.heap.size V V') := Lib.hid fun S0 V hV hS0 => (decode_any S0 _ V (by
      rw [ByteArray.size_append, ByteArray.size_append, ByteArray.size_extract, ByteArray.size_extract]
      unfold maxLen
      show _ + 1 + _ ≤ _
      omega) (HGL.out V (HBV1.out.trans (hV.mono HBV1.out.size))) hS0).mono fun e V' h => by
    have h9 := h
    rw [HZ.out, hR] at h9
    exact h9
  have HPL : Hid ((b = (S1[k].toNat : Int) ∧ R = T1 ∧ rr = 0) ∨ (b ≠ (S1[k].toNat : Int) ∧ rr ≠ 0) ∨ (b ≠ (S1[k].toNat : Int) ∧ rr = 0 ∧ R ≠ T1)) := Lib.hid (by
    by_cases hb : b = (S1[k].toNat : Int)
    · have h1 := dmg_same hkn
      rw [← hb, HZ.out] at h1
      rw [h1, dec_enc HS1.out.2.1] at hR
      simp only [Prod.mk.injEq] at hR
      exact .inl ⟨hb, hR.1.symm, hR.2.symm⟩
    · by_cases h0 : rr = 0
      · refine .inr (.inr ⟨hb, h0, fun hT => hb ?_⟩)
        subst h0 hT
        have h1 := enc_dec hR
        rw [HS1.out.2.1] at h1
        simp only [Prod.mk.injEq, and_true] at h1
        exact dmg_other hkn hr.1 hr.2 (by rw [HZ.out]; exact h1.symm)
      · exact .inr (.inl ⟨hb, h0⟩))
  have hcv2 : (convert 32 9 (.slice (some ⟨u1.heap.size + 1, 0, none⟩) 1 1)).run Tryz.prog ((u1.alloc (.cells #[.slice none 0 0, .slice none 0 0, .slice none 0 0, .slice none 0 0, .slice none 0 0, .slice none 0 0, .slice none 0 0, .slice none 0 0, .slice none 0 0, .slice none 0 0, .slice none 0 0, .slice none 0 0] 29)).alloc (.cells #[.int .u8 b] 5)).drew = .ok (.string ⟨#[UInt8.ofNat b.toNat]⟩) ((u1.alloc (.cells #[.slice none 0 0, .slice none 0 0, .slice none 0 0, .slice none 0 0, .slice none 0 0, .slice none 0 0, .slice none 0 0, .slice none 0 0, .slice none 0 0, .slice none 0 0, .slice none 0 0, .slice none 0 0] 29)).alloc (.cells #[.int .u8 b] 5)).drew := by
    have h := conv_one (P := Tryz.prog) (u1.alloc (.cells #[.slice none 0 0, .slice none 0 0, .slice none 0 0, .slice none 0 0, .slice none 0 0, .slice none 0 0, .slice none 0 0, .slice none 0 0, .slice none 0 0, .slice none 0 0, .slice none 0 0, .slice none 0 0] 29)).drew 32 9 5 b Tryz.underlying32 Tryz.underlying5 Tryz.underlying9 hr.1 (by omega)
    have hz : (u1.alloc (.cells #[.slice none 0 0, .slice none 0 0, .slice none 0 0, .slice none 0 0, .slice none 0 0, .slice none 0 0, .slice none 0 0, .slice none 0 0, .slice none 0 0, .slice none 0 0, .slice none 0 0, .slice none 0 0] 29)).drew.heap.size = u1.heap.size + 1 := by simp [World.drew]
    rw [hz] at h
    exact h
  have hcv3 : (convert 32 9 (.slice (some ⟨u1.heap.size, 0, none⟩) 1 1)).run Tryz.prog ((u1.alloc (.cells #[.int .u8 b] 5)).alloc (.cells #[.slice none 0 0, .slice none 0 0, .slice none 0 0, .slice none 0 0, .slice none 0 0, .slice none 0 0, .slice none 0 0, .slice none 0 0, .slice none 0 0, .slice none 0 0, .slice none 0 0, .slice none 0 0] 29)).drew = .ok (.string ⟨#[UInt8.ofNat b.toNat]⟩) ((u1.alloc (.cells #[.int .u8 b] 5)).alloc (.cells #[.slice none 0 0, .slice none 0 0, .slice none 0 0, .slice none 0 0, .slice none 0 0, .slice none 0 0, .slice none 0 0, .slice none 0 0, .slice none 0 0, .slice none 0 0, .slice none 0 0, .slice none 0 0] 29)).drew := by
    refine conv_at (P := Tryz.prog) _ 32 9 5 u1.heap.size b Tryz.underlying32 Tryz.underlying5 Tryz.underlying9 hr.1 (by omega) ?_
    exact ((Blk.new u1 5 #[.int .u8 b]).alloc _).drew.at_ (i := 0) rfl
  have HQA : Hid (Below v1.heap.size v1 (u1.alloc (.cells #[.int .u8 b] 5)).drew) := Lib.hid ((HBC1.out.alloc HBC1.out.size _).drew)
  have HQB : Hid (Below v1.heap.size v1 ((u1.alloc (.cells #[.int .u8 b] 5)).alloc (.cells #[.slice none 0 0, .slice none 0 0, .slice none 0 0, .slice none 0 0, .slice none 0 0, .slice none 0 0, .slice none 0 0, .slice none 0 0, .slice none 0 0, .slice none 0 0, .slice none 0 0, .slice none 0 0] 29)).drew) := Lib.hid (((HBC1.out.alloc HBC1.out.size _).alloc (by have := HBC1.out.size; simp; omega) _).drew)
  have HQC : Hid (Below v1.heap.size v1 ((u1.alloc (.cells #[.slice none 0 0, .slice none 0 0, .slice none 0 0, .slice none 0 0, .slice none 0 0, .slice none 0 0, .slice none 0 0, .slice none 0 0, .slice none 0 0, .slice none 0 0, .slice none 0 0, .slice none 0 0] 29)).alloc (.cells #[.int .u8 b] 5)).drew) := Lib.hid (((HBC1.out.alloc HBC1.out.size _).alloc (by have := HBC1.out.size; simp; omega) _).drew)
  have HKB : Hid (Blk ((u1.alloc (.cells #[.int .u8 b] 5)).alloc (.cells #[.slice none 0 0, .slice none 0 0, .slice none 0 0, .slice none 0 0, .slice none 0 0, .slice none 0 0, .slice none 0 0, .slice none 0 0, .slice none 0 0, .slice none 0 0, .slice none 0 0, .slice none 0 0] 29)).drew (u1.heap.size + 1) 29 #[.slice none 0 0, .slice none 0 0, .slice none 0 0, .slice none 0 0, .slice none 0 0, .slice none 0 0, .slice none 0 0, .slice none 0 0, .slice none 0 0, .slice none 0 0, .slice none 0 0, .slice none 0 0]) := Lib.hid (by
    have h := Blk.new (u1.alloc (.cells #[.int .u8 b] 5)) 29 #[.slice none 0 0, .slice none 0 0, .slice none 0 0, .slice none 0 0, .slice none 0 0, .slice none 0 0, .slice none 0 0, .slice none 0 0, .slice none 0 0, .slice none 0 0, .slice none 0 0, .slice none 0 0]
    simpa using h.drew)
  have HKC : Hid (Blk ((u1.alloc (.cells #[.slice none 0 0, .slice none 0 0, .slice none 0 0, .slice none 0 0, .slice none 0 0, .slice none 0 0, .slice none 0 0, .slice none 0 0, .slice none 0 0, .slice none 0 0, .slice none 0 0, .slice none 0 0] 29)).alloc (.cells #[.int .u8 b] 5)).drew u1.heap.size 29 #[.slice none 0 0, .slice none 0 0, .slice none 0 0, .slice none 0 0, .slice none 0 0, .slice none 0 0, .slice none 0 0, .slice none 0 0, .slice none 0 0, .slice none 0 0, .slice none 0 0, .slice none 0 0]) := Lib.hid ((Blk.new u1 29 #[.slice none 0 0, .slice none 0 0, .slice none 0 0, .slice none 0 0, .slice none 0 0, .slice none 0 0, .slice none 0 0, .slice none 0 0, .slice none 0 0, .slice none 0 0, .slice none 0 0, .slice none 0 0]).alloc _).drew
  clear hR HZ HS1 HM1 HGL
  go_upto_region 5 with fail
  go_cut [12, 13] from 28 to 43 (fun s12 s13 wx => ∃ (t2 : Tv) (xb : Nat), s12 = .pointer (some ⟨xb, 0, none⟩) ∧ s13 = .int .i64 rr ∧ Hid (Tbl wx xb t2 R) ∧ Hid (Below v1.heap.size v1 wx))
  case first =>
   go_region_with (go_at_call 13; first | (refine (HDC.out [] _ HQA.out (fun x hx => by cases hx)).mono ?_; rintro e u2 ⟨t, rfl, ht2', q2⟩; obtain ⟨A2_0, A2_1, A2_2, A2_3, A2_4, A2_5, A2_6, A2_7, A2_8, A2_9, A2_10, A2_11, k2_0, k2_1, k2_2, k2_3, k2_4, k2_5, k2_6, k2_7, k2_8, k2_9, k2_10, k2_11, rfl⟩ := (ht2' _ (onlyIn.refl _ _)).shape; have HT2 := Lib.hid ht2'; have HQ2 := Lib.hid q2; clear ht2' q2) | (refine (HDC.out [u1.heap.size + 1] _ HQB.out (fun x hx => by simp at hx; subst hx; exact HKB.out.lt)).mono ?_; rintro e u2 ⟨t, rfl, ht2', q2⟩; obtain ⟨A2_0, A2_1, A2_2, A2_3, A2_4, A2_5, A2_6, A2_7, A2_8, A2_9, A2_10, A2_11, k2_0, k2_1, k2_2, k2_3, k2_4, k2_5, k2_6, k2_7, k2_8, k2_9, k2_10, k2_11, rfl⟩ := (ht2' _ (onlyIn.refl _ _)).shape; have HT2B := Lib.hid ht2'; have HQ2B := Lib.hid q2; have HK2B := Lib.hid (HKB.out.later q2); obtain ⟨z0, z1, z2, z3, z4, z5, z6, z7, z8, z9, z10, z11⟩ := HK2B.out.tab; have f0 := HK2B.out.free 0; have f1 := HK2B.out.free 1; have f2 := HK2B.out.free 2; have f3 := HK2B.out.free 3; have f4 := HK2B.out.free 4; have f5 := HK2B.out.free 5; have f6 := HK2B.out.free 6; have f7 := HK2B.out.free 7; have f8 := HK2B.out.free 8; have f9 := HK2B.out.free 9; have f10 := HK2B.out.free 10; have f11 := HK2B.out.free 11; clear ht2' q2) | (refine (HDC.out [u1.heap.size] _ HQC.out (fun x hx => by simp at hx; subst hx; exact HKC.out.lt)).mono ?_; rintro e u2 ⟨t, rfl, ht2', q2⟩; obtain ⟨A2_0, A2_1, A2_2, A2_3, A2_4, A2_5, A2_6, A2_7, A2_8, A2_9, A2_10, A2_11, k2_0, k2_1, k2_2, k2_3, k2_4, k2_5, k2_6, k2_7, k2_8, k2_9, k2_10, k2_11, rfl⟩ := (ht2' _ (onlyIn.refl _ _)).shape; have HT2C := Lib.hid ht2'; have HQ2C := Lib.hid q2; have HK2C := Lib.hid (HKC.out.later q2); obtain ⟨z0, z1, z2, z3, z4, z5, z6, z7, z8, z9, z10, z11⟩ := HK2C.out.tab; have f0 := HK2C.out.free 0; have f1 := HK2C.out.free 1; have f2 := HK2C.out.free 2; have f3 := HK2C.out.free 3; have f4 := HK2C.out.free 4; have f5 := HK2C.out.free 5; have f6 := HK2C.out.free 6; have f7 := HK2C.out.free 7; have f8 := HK2C.out.free 8; have f9 := HK2C.out.free 9; have f10 := HK2C.out.free 10; have f11 := HK2C.out.free 11; clear ht2' q2))
   all_goals
     clear hcv hcv2 hcv3
     first
     | (obtain ⟨t2, ht2, htb2⟩ : ∃ t2 : Tv, t2 = ⟨.slice A2_0 R.category.length k2_0, .slice A2_1 R.cls.length k2_1, .slice A2_2 R.joining.length k2_2, .slice A2_3 R.bidi.length k2_3, .slice A2_4 R.script.length k2_4, .slice A2_5 R.status.length k2_5, .slice A2_6 R.ignorable.length k2_6, .slice A2_7 R.extensions.length k2_7, .slice A2_8 R.maps.length k2_8, .slice A2_9 R.decomps.length k2_9, .slice A2_10 R.excluded.length k2_10, .slice A2_11 R.prototypes.length k2_11⟩ ∧ Tbl ((((((((((((u2.setCell ⟨u1.heap.size + 1, 0, none⟩ (.slice A2_0 R.category.length k2_0)).setCell ⟨u1.heap.size + 1, 1, none⟩ (.slice A2_1 R.cls.length k2_1)).setCell ⟨u1.heap.size + 1, 2, none⟩ (.slice A2_2 R.joining.length k2_2)).setCell ⟨u1.heap.size + 1, 3, none⟩ (.slice A2_3 R.bidi.length k2_3)).setCell ⟨u1.heap.size + 1, 4, none⟩ (.slice A2_4 R.script.length k2_4)).setCell ⟨u1.heap.size + 1, 5, none⟩ (.slice A2_5 R.status.length k2_5)).setCell ⟨u1.heap.size + 1, 6, none⟩ (.slice A2_6 R.ignorable.length k2_6)).setCell ⟨u1.heap.size + 1, 7, none⟩ (.slice A2_7 R.extensions.length k2_7)).setCell ⟨u1.heap.size + 1, 8, none⟩ (.slice A2_8 R.maps.length k2_8)).setCell ⟨u1.heap.size + 1, 9, none⟩ (.slice A2_9 R.decomps.length k2_9)).setCell ⟨u1.heap.size + 1, 10, none⟩ (.slice A2_10 R.excluded.length k2_10)).setCell ⟨u1.heap.size + 1, 11, none⟩ (.slice A2_11 R.prototypes.length k2_11)) (u1.heap.size + 1) t2 R := ⟨⟨.slice A2_0 R.category.length k2_0, .slice A2_1 R.cls.length k2_1, .slice A2_2 R.joining.length k2_2, .slice A2_3 R.bidi.length k2_3, .slice A2_4 R.script.length k2_4, .slice A2_5 R.status.length k2_5, .slice A2_6 R.ignorable.length k2_6, .slice A2_7 R.extensions.length k2_7, .slice A2_8 R.maps.length k2_8, .slice A2_9 R.decomps.length k2_9, .slice A2_10 R.excluded.length k2_10, .slice A2_11 R.prototypes.length k2_11⟩, rfl, dmg_tbl (t := ⟨.slice A2_0 R.category.length k2_0, .slice A2_1 R.cls.length k2_1, .slice A2_2 R.joining.length k2_2, .slice A2_3 R.bidi.length k2_3, .slice A2_4 R.script.length k2_4, .slice A2_5 R.status.length k2_5, .slice A2_6 R.ignorable.length k2_6, .slice A2_7 R.extensions.length k2_7, .slice A2_8 R.maps.length k2_8, .slice A2_9 R.decomps.length k2_9, .slice A2_10 R.excluded.length k2_10, .slice A2_11 R.prototypes.length k2_11⟩) HK2B.out HT2B.out⟩
        have HV2 := Lib.hid htb2
        have HBC2 := Lib.hid (below_set12 (u0 := .slice A2_0 R.category.length k2_0) (u1 := .slice A2_1 R.cls.length k2_1) (u2 := .slice A2_2 R.joining.length k2_2) (u3 := .slice A2_3 R.bidi.length k2_3) (u4 := .slice A2_4 R.script.length k2_4) (u5 := .slice A2_5 R.status.length k2_5) (u6 := .slice A2_6 R.ignorable.length k2_6) (u7 := .slice A2_7 R.extensions.length k2_7) (u8 := .slice A2_8 R.maps.length k2_8) (u9 := .slice A2_9 R.decomps.length k2_9) (u10 := .slice A2_10 R.excluded.length k2_10) (u11 := .slice A2_11 R.prototypes.length k2_11) (g := u1.heap.size + 1) (HQB.out.trans (HQ2B.out.mono HQB.out.size)) (by have := HBC1.out.size; omega))
        clear htb2 HT2B HQ2B HK2B ht2 z0 z1 z2 z3 z4 z5 z6 z7 z8 z9 z10 z11 f0 f1 f2 f3 f4 f5 f6 f7 f8 f9 f10 f11 HQA HQB HQC HKB HKC HDC
        generalize ((((((((((((u2.setCell ⟨u1.heap.size + 1, 0, none⟩ (.slice A2_0 R.category.length k2_0)).setCell ⟨u1.heap.size + 1, 1, none⟩ (.slice A2_1 R.cls.length k2_1)).setCell ⟨u1.heap.size + 1, 2, none⟩ (.slice A2_2 R.joining.length k2_2)).setCell ⟨u1.heap.size + 1, 3, none⟩ (.slice A2_3 R.bidi.length k2_3)).setCell ⟨u1.heap.size + 1, 4, none⟩ (.slice A2_4 R.script.length k2_4)).setCell ⟨u1.heap.size + 1, 5, none⟩ (.slice A2_5 R.status.length k2_5)).setCell ⟨u1.heap.size + 1, 6, none⟩ (.slice A2_6 R.ignorable.length k2_6)).setCell ⟨u1.heap.size + 1, 7, none⟩ (.slice A2_7 R.extensions.length k2_7)).setCell ⟨u1.heap.size + 1, 8, none⟩ (.slice A2_8 R.maps.length k2_8)).setCell ⟨u1.heap.size + 1, 9, none⟩ (.slice A2_9 R.decomps.length k2_9)).setCell ⟨u1.heap.size + 1, 10, none⟩ (.slice A2_10 R.excluded.length k2_10)).setCell ⟨u1.heap.size + 1, 11, none⟩ (.slice A2_11 R.prototypes.length k2_11)) = v2 at *)
     | (obtain ⟨t2, ht2, htb2⟩ : ∃ t2 : Tv, t2 = ⟨.slice A2_0 R.category.length k2_0, .slice A2_1 R.cls.length k2_1, .slice A2_2 R.joining.length k2_2, .slice A2_3 R.bidi.length k2_3, .slice A2_4 R.script.length k2_4, .slice A2_5 R.status.length k2_5, .slice A2_6 R.ignorable.length k2_6, .slice A2_7 R.extensions.length k2_7, .slice A2_8 R.maps.length k2_8, .slice A2_9 R.decomps.length k2_9, .slice A2_10 R.excluded.length k2_10, .slice A2_11 R.prototypes.length k2_11⟩ ∧ Tbl ((((((((((((u2.setCell ⟨u1.heap.size, 0, none⟩ (.slice A2_0 R.category.length k2_0)).setCell ⟨u1.heap.size, 1, none⟩ (.slice A2_1 R.cls.length k2_1)).setCell ⟨u1.heap.size, 2, none⟩ (.slice A2_2 R.joining.length k2_2)).setCell ⟨u1.heap.size, 3, none⟩ (.slice A2_3 R.bidi.length k2_3)).setCell ⟨u1.heap.size, 4, none⟩ (.slice A2_4 R.script.length k2_4)).setCell ⟨u1.heap.size, 5, none⟩ (.slice A2_5 R.status.length k2_5)).setCell ⟨u1.heap.size, 6, none⟩ (.slice A2_6 R.ignorable.length k2_6)).setCell ⟨u1.heap.size, 7, none⟩ (.slice A2_7 R.extensions.length k2_7)).setCell ⟨u1.heap.size, 8, none⟩ (.slice A2_8 R.maps.length k2_8)).setCell ⟨u1.heap.size, 9, none⟩ (.slice A2_9 R.decomps.length k2_9)).setCell ⟨u1.heap.size, 10, none⟩ (.slice A2_10 R.excluded.length k2_10)).setCell ⟨u1.heap.size, 11, none⟩ (.slice A2_11 R.prototypes.length k2_11)) u1.heap.size t2 R := ⟨⟨.slice A2_0 R.category.length k2_0, .slice A2_1 R.cls.length k2_1, .slice A2_2 R.joining.length k2_2, .slice A2_3 R.bidi.length k2_3, .slice A2_4 R.script.length k2_4, .slice A2_5 R.status.length k2_5, .slice A2_6 R.ignorable.length k2_6, .slice A2_7 R.extensions.length k2_7, .slice A2_8 R.maps.length k2_8, .slice A2_9 R.decomps.length k2_9, .slice A2_10 R.excluded.length k2_10, .slice A2_11 R.prototypes.length k2_11⟩, rfl, dmg_tbl (t := ⟨.slice A2_0 R.category.length k2_0, .slice A2_1 R.cls.length k2_1, .slice A2_2 R.joining.length k2_2, .slice A2_3 R.bidi.length k2_3, .slice A2_4 R.script.length k2_4, .slice A2_5 R.status.length k2_5, .slice A2_6 R.ignorable.length k2_6, .slice A2_7 R.extensions.length k2_7, .slice A2_8 R.maps.length k2_8, .slice A2_9 R.decomps.length k2_9, .slice A2_10 R.excluded.length k2_10, .slice A2_11 R.prototypes.length k2_11⟩) HK2C.out HT2C.out⟩
        have HV2 := Lib.hid htb2
        have HBC2 := Lib.hid (below_set12 (u0 := .slice A2_0 R.category.length k2_0) (u1 := .slice A2_1 R.cls.length k2_1) (u2 := .slice A2_2 R.joining.length k2_2) (u3 := .slice A2_3 R.bidi.length k2_3) (u4 := .slice A2_4 R.script.length k2_4) (u5 := .slice A2_5 R.status.length k2_5) (u6 := .slice A2_6 R.ignorable.length k2_6) (u7 := .slice A2_7 R.extensions.length k2_7) (u8 := .slice A2_8 R.maps.length k2_8) (u9 := .slice A2_9 R.decomps.length k2_9) (u10 := .slice A2_10 R.excluded.length k2_10) (u11 := .slice A2_11 R.prototypes.length k2_11) (g := u1.heap.size) (HQC.out.trans (HQ2C.out.mono HQC.out.size)) (by have := HBC1.out.size; omega))
        clear htb2 HT2C HQ2C HK2C ht2 z0 z1 z2 z3 z4 z5 z6 z7 z8 z9 z10 z11 f0 f1 f2 f3 f4 f5 f6 f7 f8 f9 f10 f11 HQA HQB HQC HKB HKC HDC
        generalize ((((((((((((u2.setCell ⟨u1.heap.size, 0, none⟩ (.slice A2_0 R.category.length k2_0)).setCell ⟨u1.heap.size, 1, none⟩ (.slice A2_1 R.cls.length k2_1)).setCell ⟨u1.heap.size, 2, none⟩ (.slice A2_2 R.joining.length k2_2)).setCell ⟨u1.heap.size, 3, none⟩ (.slice A2_3 R.bidi.length k2_3)).setCell ⟨u1.heap.size, 4, none⟩ (.slice A2_4 R.script.length k2_4)).setCell ⟨u1.heap.size, 5, none⟩ (.slice A2_5 R.status.length k2_5)).setCell ⟨u1.heap.size, 6, none⟩ (.slice A2_6 R.ignorable.length k2_6)).setCell ⟨u1.heap.size, 7, none⟩ (.slice A2_7 R.extensions.length k2_7)).setCell ⟨u1.heap.size, 8, none⟩ (.slice A2_8 R.maps.length k2_8)).setCell ⟨u1.heap.size, 9, none⟩ (.slice A2_9 R.decomps.length k2_9)).setCell ⟨u1.heap.size, 10, none⟩ (.slice A2_10 R.excluded.length k2_10)).setCell ⟨u1.heap.size, 11, none⟩ (.slice A2_11 R.prototypes.length k2_11)) = v2 at *)
     | (obtain ⟨t2, ht2, htb2⟩ := Tbl.new (HT2.out _ (onlyIn.refl _ _))
        have HV2 := Lib.hid htb2
        have HBC2 := Lib.hid ((HQA.out.trans (HQ2.out.mono HQA.out.size)).alloc (HQA.out.trans (HQ2.out.mono HQA.out.size)).size (.cells #[.slice A2_0 R.category.length k2_0, .slice A2_1 R.cls.length k2_1, .slice A2_2 R.joining.length k2_2, .slice A2_3 R.bidi.length k2_3, .slice A2_4 R.script.length k2_4, .slice A2_5 R.status.length k2_5, .slice A2_6 R.ignorable.length k2_6, .slice A2_7 R.extensions.length k2_7, .slice A2_8 R.maps.length k2_8, .slice A2_9 R.decomps.length k2_9, .slice A2_10 R.excluded.length k2_10, .slice A2_11 R.prototypes.length k2_11] 29))
        clear htb2 HT2 HQ2 ht2 HQA HQB HQC HKB HKC HDC
        generalize u2.alloc (.cells #[.slice A2_0 R.category.length k2_0, .slice A2_1 R.cls.length k2_1, .slice A2_2 R.joining.length k2_2, .slice A2_3 R.bidi.length k2_3, .slice A2_4 R.script.length k2_4, .slice A2_5 R.status.length k2_5, .slice A2_6 R.ignorable.length k2_6, .slice A2_7 R.extensions.length k2_7, .slice A2_8 R.maps.length k2_8, .slice A2_9 R.decomps.length k2_9, .slice A2_10 R.excluded.length k2_10, .slice A2_11 R.prototypes.length k2_11] 29) = v2 at *)
     go_wp2_with fail
     go_meet
     case rel => exact ⟨_, _, rfl, rfl, HV2, HBC2⟩
  case rest =>
   obtain ⟨t2, xb, rfl, rfl, HV2, HBC2⟩ := hcut
   clear hcv hcv2 hcv3 HQA HQB HQC HKB HKC HDC
   have HV1' := Lib.hid (HV1.out.later HBC2.out)
   have HBV2 := Lib.hid (HBV1.out.trans (HBC2.out.mono HBV1.out.size))
   have HAW : Hid (∀ V, Below wc.heap.size wc V → Calls Tryz.prog 11 #[] V fun e V' => e = .returned (.bool true) ∧ Below V.heap.size V V') := Lib.hid fun V hV => HG.out V (HBV2.out.trans (hV.mono HBV2.out.size))
   have HRV : Hid (Below wc.heap.size wc wc) := Lib.hid (Below.refl _ _)
   clear HV1 HBV1 HBC1 HBC2 HG
   rcases HPL.out with ⟨hb, hR, hrr⟩ | ⟨hb, hrr⟩ | ⟨hb, hrr, hR⟩
   · have he : (b == (S1[k].toNat : Int)) = true := beq_iff_eq.2 hb
     have HS : Hid (sameT R T1 = true) := Lib.hid (sameT_iff.2 hR)
     clear hb hR HPL
     subst hrr
     have HSM : Hid (∀ V, TabR V V.heap.size t2 R → TabR V V.heap.size t1 T1 → Calls Tryz.prog 14 #[t2.val, t1.val] V fun e V' => e = .returned (.bool true) ∧ Below V.heap.size V V') := Lib.hid fun V h1 h2 => (sameTables_any t2 t1 R T1 V h1 h2).mono fun e V' h => ⟨by rw [h.1, HS.out], h.2⟩
     go_wp2_with fail
     refine (HAW.out _ HRV.out).mono ?_
     rintro e u3 ⟨rfl, q3⟩
     have HV1'' := Lib.hid (HV1'.out.later q3)
     have HV2'' := Lib.hid (HV2.out.later q3)
     have HBV3 := Lib.hid (below_next HBV2.out q3)
     clear q3 HV1' HV2 HAW HRV
     obtain ⟨x0, x1, x2, x3, x4, x5, x6, x7, x8, x9, x10, x11⟩ := HV1''.out.1.tab
     obtain ⟨y0, y1, y2, y3, y4, y5, y6, y7, y8, y9, y10, y11⟩ := HV2''.out.1.tab
     go_wp2_with fail
     refine (HSM.out _ HV2''.out.2 HV1''.out.2).mono ?_
     rintro e u4 ⟨rfl, q4⟩
     clear x0 x1 x2 x3 x4 x5 x6 x7 x8 x9 x10 x11 y0 y1 y2 y3 y4 y5 y6 y7 y8 y9 y10 y11
     go_wp2_with fail
     go_ret
     exact ⟨by simp, below_next HBV3.out q4⟩
   · have he : (b == (S1[k].toNat : Int)) = false := beq_eq_false_iff_ne.2 hb
     have hne : (rr != 0) = true := by rw [bne_iff_ne]; exact hrr
     clear hb hrr HPL
     go_wp2_with fail
     refine (HAW.out _ HRV.out).mono ?_
     rintro e u3 ⟨rfl, q3⟩
     have HBV3 := Lib.hid (below_next HBV2.out q3)
     go_wp2_with fail
     go_ret
     exact ⟨by simp, HBV3.out⟩
   · have he : (b == (S1[k].toNat : Int)) = false := beq_eq_false_iff_ne.2 hb
     have HS : Hid (sameT R T1 = false) := Lib.hid (by
       cases h : sameT R T1
       · rfl
       · exact absurd (sameT_iff.1 h) hR)
     clear hb hR HPL
     subst hrr
     have HSM : Hid (∀ V, TabR V V.heap.size t2 R → TabR V V.heap.size t1 T1 → Calls Tryz.prog 14 #[t2.val, t1.val] V fun e V' => e = .returned (.bool false) ∧ Below V.heap.size V V') := Lib.hid fun V h1 h2 => (sameTables_any t2 t1 R T1 V h1 h2).mono fun e V' h => ⟨by rw [h.1, HS.out], h.2⟩
     go_wp2_with fail
     refine (HAW.out _ HRV.out).mono ?_
     rintro e u3 ⟨rfl, q3⟩
     have HV1'' := Lib.hid (HV1'.out.later q3)
     have HV2'' := Lib.hid (HV2.out.later q3)
     have HBV3 := Lib.hid (below_next HBV2.out q3)
     clear q3 HV1' HV2 HAW HRV
     obtain ⟨x0, x1, x2, x3, x4, x5, x6, x7, x8, x9, x10, x11⟩ := HV1''.out.1.tab
     obtain ⟨y0, y1, y2, y3, y4, y5, y6, y7, y8, y9, y10, y11⟩ := HV2''.out.1.tab
     go_wp2_with fail
     refine (HSM.out _ HV2''.out.2 HV1''.out.2).mono ?_
     rintro e u4 ⟨rfl, q4⟩
     clear x0 x1 x2 x3 x4 x5 x6 x7 x8 x9 x10 x11 y0 y1 y2 y3 y4 y5 y6 y7 y8 y9 y10 y11
     go_wp2_with fail
     go_ret
     exact ⟨by simp, below_next HBV3.out q4⟩
theorem TableDamaged_walk (W : World) (hg : Glob W) (v : Value) (xs : List Int) (hv : Ints W W.heap.size .i64 v xs) (_ : ∀ x ∈ xs, -9223372036854775808 ≤ x ∧ x ≤ 9223372036854775807) (_ : xs.length * 8 ≤ 140737488351232) (a1 : Int) (_ : -9223372036854775808 ≤ a1 ∧ a1 ≤ 9223372036854775807) (a2 : Int) (_ : -9223372036854775808 ≤ a2 ∧ a2 ≤ 9223372036854775807) :
    Calls Tryz.prog 4 #[v, .int .i64 a1, .int .i64 a2] W fun e W' => e = .returned (.bool true) ∧ Below W.heap.size W W' := TableDamaged_go W hg v xs hv a1 a2
end Go.Proofs.YtikcfoobfobmnaaGreatDoor
