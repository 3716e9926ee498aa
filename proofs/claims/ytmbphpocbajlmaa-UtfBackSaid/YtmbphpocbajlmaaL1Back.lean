/-
  The walk of UtfBack.
-/
import Derived.Test.YtmbphpocbajlmaaL1Awake
import Derived.Test.YtmbphpocbajlmaaL3Int
namespace Go.Proofs.Ytmbphpocbajlmaa
open Go.RowKit ND

theorem wrap_in (a : Int) : -9223372036854775808 ≤ IntKind.i64.wrap a ∧ IntKind.i64.wrap a ≤ 9223372036854775807 := by rw [IntKind.wrap_i64]; omega
theorem scal_snoc {acc : List Int} {y : Int} (h : ∀ x ∈ acc, scalarB x = true) (h0 : scalarB y = true) : ∀ x ∈ acc ++ [y], scalarB x = true := by
  intro x hx
  rcases List.mem_append.1 hx with h2 | h2
  · exact h x h2
  · rw [List.mem_singleton] at h2; subst h2; exact h0
theorem enc_snoc_len {acc : List Int} {y : Int} (h0 : scalarB y = true) : (encAll (acc ++ [y])).length = (encAll acc).length + lenC y ∧ lenC y ≤ 4 := by
  rw [encAll_snoc, List.length_append, (lenC_encC h0).1]
  exact ⟨rfl, (lenC_encC h0).2.2⟩

set_option maxRecDepth 100000 in
set_option maxHeartbeats 1000000 in
theorem UtfBack_walk (W : World) (v : Value) (xs : List Int) (hv : Ints W W.heap.size .i64 v xs) (hx : ∀ x ∈ xs, -9223372036854775808 ≤ x ∧ x ≤ 9223372036854775807) (_hl : xs.length * 8 ≤ 140737488351232) (sh : Int) (_hsh : -9223372036854775808 ≤ sh ∧ sh ≤ 9223372036854775807) :
    Calls Try.prog 11 #[v, .int .i64 sh] W fun e W' => e = .returned (.bool true) ∧ Below W.heap.size W W' := by
  obtain ⟨i0, hi, hz0, hz1, hz2⟩ := info_parts Try.infoInt
  obtain ⟨A, c, rfl, hc1, hc2, _, hcell⟩ := hv
  have HC := Lib.hid hcell; clear hcell
  have HX := Lib.hid hx; clear hx
  clear hc1 hc2 _hsh
  go_enter Try.func11, Try.ntmps11
  go_wp2_with fail
  go_loopw [5, 6, 7] (fun l n i wr => ∃ (k m : Nat) (acc : List Int), k ≤ xs.length ∧ k ≤ 200 ∧ i = .int .i64 k ∧ n = .int .i64 m ∧ m ≤ 4 * k ∧ acc.length ≤ k ∧ wr.ownsRow W.heap.size 3 1 l acc.length (acc.map (Value.int .i64)) ∧ Hid (∀ x ∈ acc, scalarB x = true) ∧ Hid (m = (encAll acc).length) ∧ Below W.heap.size W wr) (fun _ _ i _ => xs.length - (intOf i).toNat)
  case atStart => exact ⟨0, 0, [], by omega, by omega, rfl, rfl, by omega, by simp, World.ownsRow_nil _ _ _ _, Lib.hid (by simp), Lib.hid rfl, Below.refl _ _⟩
  case round =>
    obtain ⟨k, m, acc, hk, hk2, rfl, rfl, hm, hacc, hown, HF, HM, hbel⟩ := hrel
    by_cases hlt : k < xs.length ∧ k < 200
    · obtain ⟨hlt, hlt2⟩ := hlt
      obtain ⟨x, hxk, hxm⟩ := get_of hlt
      obtain ⟨ad, rfl, ha, hce⟩ := HC.out k x hxk
      have e1 := (hbel.cell (p := ad.add k) (by rw [block_of_add]; exact ha)).trans hce
      have hxr := HX.out x hxm
      clear hxk hxm ha hce
      have k0 : (0 : Int) ≤ (k : Int) := by omega
      have k1 : (k : Int) < (xs.length : Int) := by omega
      obtain ⟨sk, hsk⟩ : ∃ sk, IntKind.i64.wrap (sh + (k : Int)) = sk := ⟨_, rfl⟩
      have hpp := pick_in sk (n := 48) (by decide)
      go_wp2_with fail
      go_quiet ((go_at_call 17; exact quiet_left (pick_any _ _ _ (by decide) (by decide))))
      have hV := pick_in (x / 2 ^ (pick sk 48).toNat) (n := 1114112) (by decide)
      generalize pick (x / 2 ^ (pick sk 48).toNat) 1114112 = V at *
      have hbel1 := below_drewN hbel nq
      have hown1 := own_later hown (below_drewN (Below.refl wr.heap.size wr) nq)
      generalize wr.drewN nq = w1 at *
      clear hown hbel e1
      have hsc := Lib.hid (fun W => refScalar_any V W)
      by_cases hs : scalarB V = true
      · rw [hs] at hsc
        obtain ⟨hl1, hl2⟩ := enc_snoc_len (acc := acc) hs
        have HM' : Hid (m + lenC V = (encAll (acc ++ [V])).length) := Lib.hid (by rw [hl1, HM.out])
        have HF' := Lib.hid (scal_snoc HF.out hs)
        clear hs hl1 HM HF
        go_wp2_with fail
        refine (hsc.out _).mono ?_
        rintro e w2 ⟨rfl, rfl⟩
        go_wp2_with (at_builtin; refine wpList_append_own _ rfl _ _ 35 rfl W.heap.size 3 i0 (.int .i64 0) 1 8 Try.underlying35 hi hz0 hz1 hz2 rfl (by decide) _ _ _ rfl (hown1.alloc _) ⟨w1.heap.size, 0, none⟩ 1 1 [.int .i64 V] rfl rfl (cell_one_new _ _ _) ?c1 ?c2 ?c3 ?c4 ?_)
        case c1 => intro u hu; simp at hu; subst hu; rfl
        case c2 => unfold maxLen; omega
        case c3 => omega
        case c4 => have := hbel1.size; simp; omega
        intro v' w2 hown2 hgrow _
        have hbel2 : Below W.heap.size W w2 := (hbel1.alloc hbel1.size _).grown hgrow (by have := hbel1.size; simp; omega) (fun k hk => (hown1.lt k hk).1)
        clear hgrow hown1 hbel1
        have hlen := Lib.hid (fun W => length_any V W)
        generalize lenC V = lv at *
        go_wp2_with fail
        refine (hlen.out _).mono ?_
        rintro e w3 ⟨rfl, rfl⟩
        go_wp2_with fail
        go_roundw
        case rel => exact ⟨k + 1, m + lv, acc ++ [V], by omega, by omega, by go_num, by go_num, by omega, by simp; omega, by simpa using hown2, HF', HM', hbel2⟩
        case measure => simp [intOf]; omega
      · have hs' : scalarB V = false := by simpa using hs
        rw [hs'] at hsc
        clear hs hs'
        go_wp2_with fail
        refine (hsc.out _).mono ?_
        rintro e w2 ⟨rfl, rfl⟩
        go_wp2_with fail
        go_roundw
        case rel => exact ⟨k + 1, m, acc, by omega, by omega, by go_num, rfl, by omega, by omega, hown1, HF, HM, hbel1⟩
        case measure => simp [intOf]; omega
    · have hd : (k < xs.length ∧ 200 ≤ k) ∨ xs.length ≤ k := by omega
      clear hlt
      have hP := Lib.hid (fun v w hv => enc_any v acc w hv)
      rw [encodeL_ok (by omega) HF.out] at hP
      obtain ⟨S, hS⟩ : ∃ S : ByteArray, S = ⟨(encAll acc).toArray⟩ := ⟨_, rfl⟩
      have hSl : S.data.toList = encAll acc := by rw [hS]
      have hSs : S.size = m := by rw [← size_list, hSl, HM.out]
      have hD := Lib.hid (fun w => dec_any S w)
      rw [hSl, decodeL_ok (by rw [← HM.out]; omega) (by rw [scanL_all acc HF.out]; exact Nat.le_refl _), scanL_all acc HF.out] at hD
      rw [← hSl] at hP
      have hI := Ints.of_own hown
      clear hS hSl HF HM
      rcases hd with ⟨hd, hd'⟩ | hd
      all_goals
        go_wp2_with fail
        refine (hP.out _ _ hI).mono ?_
        rintro e w1 ⟨rfl, b1⟩
        have hI1 := Lib.hid (hI.later b1)
        clear hI
        go_wp2_with fail
        refine (hD.out _).mono ?_
        rintro e w2 ⟨v2, rfl, hv2, b2⟩
        have hI2 := Lib.hid (hI1.out.later b2)
        have HV2 := Lib.hid hv2
        clear hI1 hv2
        have B2 := below_next hbel (below_next b1 b2)
        clear b1 b2
        go_wp2_with fail
        refine (awake1 _).mono ?_
        rintro e w3 ⟨rfl, b3⟩
        have hI3 := Lib.hid (hI2.out.later b3)
        have HV3 := Lib.hid (HV2.out.later b3)
        have B3 := below_next B2 b3
        clear hI2 HV2 B2 b3
        go_wp2_with fail
        refine (same_any _ _ acc acc w3 HV3.out hI3.out).mono ?_
        rintro e w4 ⟨rfl, b4⟩
        have B4 := below_next B3 b4
        clear hI3 HV3 B3 b4
        go_wp2_with fail
        go_ret
        exact ⟨by simp, B4⟩
end Go.Proofs.Ytmbphpocbajlmaa
