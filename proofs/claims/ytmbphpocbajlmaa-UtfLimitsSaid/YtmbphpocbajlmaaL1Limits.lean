/-
  The walk of UtfLimits.
-/
import Derived.Test.YtmbphpocbajlmaaL1Awake
import Derived.Test.YtmbphpocbajlmaaL3Int
import Derived.Deep.OwnRows
namespace Go.Proofs.Ytmbphpocbajlmaa
open Go.RowKit ND

theorem rep_enc (N : Nat) : encAll (List.replicate N (97 : Int)) = List.replicate N (97 : UInt8) := by
  induction N with
  | zero => rfl
  | succ n ih =>
    have h : encC 97 = [97] := by decide
    rw [List.replicate_succ, List.replicate_succ]
    show encC 97 ++ encAll (List.replicate n 97) = _
    rw [ih, h]; rfl
theorem rep_scal (N : Nat) (v : Int) (h : scalarB v = true) : ∀ c ∈ List.replicate N v, scalarB c = true := by
  intro c hc
  rw [List.eq_of_mem_replicate hc]; exact h
theorem rep_scan (N : Nat) : scanL (List.replicate N (97 : UInt8)) = (List.replicate N 97, N) := by
  rw [← rep_enc, scanL_all _ (rep_scal N 97 (by decide)), rep_enc, List.length_replicate]
theorem dec_small {N : Nat} (h : N ≤ 4096) : decodeL (List.replicate N (97 : UInt8)) = (List.replicate N 97, 0, 0) := by
  rw [decodeL_ok (by rw [List.length_replicate]; exact h) (by rw [rep_scan, List.length_replicate]; exact Nat.le_refl _), rep_scan]
theorem dec_big {N : Nat} (h : 4096 < N) : decodeL (List.replicate N (97 : UInt8)) = ([], 0, 7) := decodeL_full (by rw [List.length_replicate]; exact h)
theorem enc_small {N : Nat} (h : N ≤ 4096) : encodeL (List.replicate N (0 : Int)) = (encAll (List.replicate N 0), 0) := encodeL_ok (by rw [List.length_replicate]; exact h) (rep_scal N 0 (by decide))
theorem enc_big {N : Nat} (h : 4096 < N) : encodeL (List.replicate N (0 : Int)) = ([], 7) := encodeL_full (by rw [List.length_replicate]; exact h)

theorem conv_row {P : Program} (w : World) (src dst e : TypeId) (b N : Nat) (S : ByteArray) (hS : S = ⟨(List.replicate N (97 : UInt8)).toArray⟩) (hs : P.underlying src = some (.slice e)) (he : P.underlying e = some (.int .u8)) (hd : P.underlying dst = some .string)
    (h : w.rowIs b e N (fun _ => .int .u8 97)) : (convert src dst (.slice (some ⟨b, 0, none⟩) N N)).run P w = .ok (.string S) w := by
  have hr := run_convert_bytes_back (P := P) w src dst e ⟨b, 0, none⟩ N (List.replicate N 97) hs he hd (fun j hj => by
    rw [List.length_replicate] at hj
    have hadd : (⟨b, 0, none⟩ : Addr).add j = ⟨b, j, none⟩ := by unfold Addr.add; split <;> simp_all
    rw [hadd, h.cell hj, List.getElem_replicate]; rfl)
  rw [List.length_replicate] at hr
  rw [hS]; exact hr
theorem row_later {w w' : World} {b : Nat} {t : TypeId} {n : Nat} {f : Nat → Value} (h : w.rowIs b t n f) (hb : Below w.heap.size w w') : w'.rowIs b t n f := h.of_block (hb.block b h.lt)
theorem ints_made (w : World) (N : Nat) (t : TypeId) (hN : N ≤ 5000) : Ints (w.alloc (.cells (madeCells #[.int .i64 0] N) t)) (w.alloc (.cells (madeCells #[.int .i64 0] N) t)).heap.size .i64 (.slice (some ⟨w.heap.size, 0, none⟩) N N) (List.replicate N 0) := by
  have h := World.rowIs_made w (.int .i64 0) N t
  refine ⟨_, N, by rw [List.length_replicate], by rw [List.length_replicate]; exact Nat.le_refl _, by unfold maxLen; omega, (by intro h; cases h), fun i x hi => ⟨_, rfl, h.lt, ?_⟩⟩
  have hlt : i < N := by have := (List.getElem?_eq_some_iff.1 hi).1; rwa [List.length_replicate] at this
  have hx : x = 0 := List.eq_of_mem_replicate (List.mem_of_getElem? hi)
  have hadd : (⟨w.heap.size, 0, none⟩ : Addr).add i = ⟨w.heap.size, i, none⟩ := by unfold Addr.add; split <;> simp_all
  rw [hadd, h.cell hlt, hx]
theorem row_step {w : World} {b : Nat} {t : TypeId} {N k : Nat} (h : w.rowIs b t N (fun j => .int .u8 (if j < k then 97 else 0))) : (w.setCell ⟨b, k, none⟩ (.int .u8 97)).rowIs b t N (fun j => .int .u8 (if j < k + 1 then 97 else 0)) :=
  (h.set k _).congr (fun j _ => by
    by_cases hj : j = k
    · subst hj; rw [if_pos rfl, if_pos (by omega)]
    · rw [if_neg hj]
      by_cases h2 : j < k
      · rw [if_pos h2, if_pos (by omega)]
      · rw [if_neg h2, if_neg (by omega)])

set_option maxRecDepth 100000 in
set_option maxHeartbeats 1000000 in
theorem UtfLimits_walk (W : World) (n : Int) (_hn : -9223372036854775808 ≤ n ∧ n ≤ 9223372036854775807) :
    Calls Try.prog 14 #[.int .i64 n] W fun e W' => e = .returned (.bool true) ∧ Below W.heap.size W W' := by
  have hp := fun w => pick_any n 3 w (by decide) (by decide)
  have hq := pick_in n (n := 3) (by decide)
  have h3 : pick n 3 = 0 ∨ pick n 3 = 1 ∨ pick n 3 = 2 := by omega
  clear hq _hn
  go_enter Try.func14, Try.ntmps14
  rcases h3 with h | h | h
  · rw [h] at hp
    clear h
    obtain ⟨N, hN1, hN2⟩ : ∃ N : Nat, N ≤ 4095 ∧ 4095 ≤ N := ⟨4095, Nat.le_refl _, Nat.le_refl _⟩
    have hNe : (4095 : Int) = (N : Int) := by omega
    have hm1 := run_make_row' (P := Try.prog) 30 5 (.int .u8 0) 1 Try.underlying30 Try.infoU8 rfl .i64 .i64 N (by omega) (by omega)
    have hm2 := run_make_row' (P := Try.prog) 35 3 (.int .i64 0) 8 Try.underlying35 Try.infoInt rfl .i64 .i64 N (by omega) (by omega)
    rw [← hNe] at hm1 hm2
    have HE := Lib.hid (fun w => enc_any _ _ _ (ints_made w N 3 (by omega)))
    rw [enc_small (by omega)] at HE
    have hconv := Lib.hid (fun (S : ByteArray) (hS : S = ⟨(List.replicate N (97 : UInt8)).toArray⟩) w (h : w.rowIs W.heap.size 5 N (fun _ => .int .u8 97)) => conv_row (P := Try.prog) w 30 9 5 W.heap.size N S hS Try.underlying30 Try.underlying5 Try.underlying9 h)
    obtain ⟨S, hS⟩ : ∃ S : ByteArray, S = ⟨(List.replicate N (97 : UInt8)).toArray⟩ := ⟨_, rfl⟩
    have hconv := Lib.hid (hconv.out S hS)
    have hSl : S.data.toList = List.replicate N 97 := by rw [hS]
    have hSs : S.size = N := by rw [← size_list, hSl, List.length_replicate]
    have HD := Lib.hid (fun w => dec_any S w)
    have HV := Lib.hid (fun w => decValid_any S w (by omega))
    rw [hSl, dec_small (by omega)] at HD
    rw [hSl, rep_scan, hSs, beq_self_eq_true] at HV
    clear hS hSl hSs hNe
    go_wp2_with fail
    refine (hp _).mono ?_
    rintro e w' ⟨rfl, rfl⟩
    clear hp
    go_wp2_with fail
    clear hm1
    go_loopw [19] (fun i wr => ∃ k : Nat, k ≤ N ∧ i = .int .i64 k ∧ wr.rowIs W.heap.size 5 N (fun j => .int .u8 (if j < k then 97 else 0)) ∧ Below W.heap.size W wr) (fun i _ => N - (intOf i).toNat)
    case atStart => exact ⟨0, by omega, rfl, (World.rowIs_made W (.int .u8 0) N _).congr (fun j _ => by simp), (Below.refl _ W).alloc (Nat.le_refl _) _⟩
    case round =>
      obtain ⟨k, hk, rfl, hrow, hbel⟩ := hrel
      by_cases hlt : k < N
      · have hc := hrow.cell hlt
        have hf := hrow.frozen k
        have hrow' := Lib.hid (row_step hrow)
        have hbel' := hbel.setCell (p := ⟨W.heap.size, k, none⟩) (Nat.le_refl _) (.int .u8 97)
        clear hrow hbel
        go_wp2_with fail
        go_roundw
        case rel => exact ⟨k + 1, by omega, by go_num, hrow'.out, hbel'⟩
        case measure => simp [intOf]; omega
      · have hrow1 : wr.rowIs W.heap.size 5 N (fun _ => .int .u8 97) := hrow.congr (fun j hj => by rw [if_pos (by omega)])
        have hc1 := hconv.out wr hrow1
        have HR1 := Lib.hid hrow1
        clear hrow hrow1
        go_wp2_with fail
        clear hc1
        refine (HD.out _).mono ?_
        rintro e w1 ⟨v1, rfl, _, b1⟩
        have HR2 := Lib.hid (row_later HR1.out b1)
        have B1 := below_next hbel b1
        clear hbel b1 HR1
        go_wp2_with fail
        refine (HE.out _).mono ?_
        rintro e w2 ⟨rfl, b2⟩
        have HR3 := Lib.hid (row_later (HR2.out.alloc _) b2)
        have B2 := below_next B1 (below_next ((Below.refl _ w1).alloc (Nat.le_refl _) _) b2)
        clear B1 b2 HR2
        go_wp2_with fail
        refine (awake1 _).mono ?_
        rintro e w3 ⟨rfl, b3⟩
        have hc2 := hconv.out w3 (row_later HR3.out b3)
        have B3 := below_next B2 b3
        clear B2 b3 HR3
        go_wp2_with fail
        refine (HV.out _).mono ?_
        rintro e w4 ⟨rfl, b4⟩
        go_wp2_with fail
        go_ret
        exact ⟨by simp, below_next B3 b4⟩
  · rw [h] at hp
    clear h
    obtain ⟨N, hN1, hN2⟩ : ∃ N : Nat, N ≤ 4096 ∧ 4096 ≤ N := ⟨4096, Nat.le_refl _, Nat.le_refl _⟩
    have hNe : (4096 : Int) = (N : Int) := by omega
    have hm1 := run_make_row' (P := Try.prog) 30 5 (.int .u8 0) 1 Try.underlying30 Try.infoU8 rfl .i64 .i64 N (by omega) (by omega)
    have hm2 := run_make_row' (P := Try.prog) 35 3 (.int .i64 0) 8 Try.underlying35 Try.infoInt rfl .i64 .i64 N (by omega) (by omega)
    rw [← hNe] at hm1 hm2
    have HE := Lib.hid (fun w => enc_any _ _ _ (ints_made w N 3 (by omega)))
    rw [enc_small (by omega)] at HE
    have hconv := Lib.hid (fun (S : ByteArray) (hS : S = ⟨(List.replicate N (97 : UInt8)).toArray⟩) w (h : w.rowIs W.heap.size 5 N (fun _ => .int .u8 97)) => conv_row (P := Try.prog) w 30 9 5 W.heap.size N S hS Try.underlying30 Try.underlying5 Try.underlying9 h)
    obtain ⟨S, hS⟩ : ∃ S : ByteArray, S = ⟨(List.replicate N (97 : UInt8)).toArray⟩ := ⟨_, rfl⟩
    have hconv := Lib.hid (hconv.out S hS)
    have hSl : S.data.toList = List.replicate N 97 := by rw [hS]
    have hSs : S.size = N := by rw [← size_list, hSl, List.length_replicate]
    have HD := Lib.hid (fun w => dec_any S w)
    have HV := Lib.hid (fun w => decValid_any S w (by omega))
    rw [hSl, dec_small (by omega)] at HD
    rw [hSl, rep_scan, hSs, beq_self_eq_true] at HV
    clear hS hSl hSs hNe
    go_wp2_with fail
    refine (hp _).mono ?_
    rintro e w' ⟨rfl, rfl⟩
    clear hp
    go_wp2_with fail
    clear hm1
    go_loopw [19] (fun i wr => ∃ k : Nat, k ≤ N ∧ i = .int .i64 k ∧ wr.rowIs W.heap.size 5 N (fun j => .int .u8 (if j < k then 97 else 0)) ∧ Below W.heap.size W wr) (fun i _ => N - (intOf i).toNat)
    case atStart => exact ⟨0, by omega, rfl, (World.rowIs_made W (.int .u8 0) N _).congr (fun j _ => by simp), (Below.refl _ W).alloc (Nat.le_refl _) _⟩
    case round =>
      obtain ⟨k, hk, rfl, hrow, hbel⟩ := hrel
      by_cases hlt : k < N
      · have hc := hrow.cell hlt
        have hf := hrow.frozen k
        have hrow' := Lib.hid (row_step hrow)
        have hbel' := hbel.setCell (p := ⟨W.heap.size, k, none⟩) (Nat.le_refl _) (.int .u8 97)
        clear hrow hbel
        go_wp2_with fail
        go_roundw
        case rel => exact ⟨k + 1, by omega, by go_num, hrow'.out, hbel'⟩
        case measure => simp [intOf]; omega
      · have hrow1 : wr.rowIs W.heap.size 5 N (fun _ => .int .u8 97) := hrow.congr (fun j hj => by rw [if_pos (by omega)])
        have hc1 := hconv.out wr hrow1
        have HR1 := Lib.hid hrow1
        clear hrow hrow1
        go_wp2_with fail
        clear hc1
        refine (HD.out _).mono ?_
        rintro e w1 ⟨v1, rfl, _, b1⟩
        have HR2 := Lib.hid (row_later HR1.out b1)
        have B1 := below_next hbel b1
        clear hbel b1 HR1
        go_wp2_with fail
        refine (HE.out _).mono ?_
        rintro e w2 ⟨rfl, b2⟩
        have HR3 := Lib.hid (row_later (HR2.out.alloc _) b2)
        have B2 := below_next B1 (below_next ((Below.refl _ w1).alloc (Nat.le_refl _) _) b2)
        clear B1 b2 HR2
        go_wp2_with fail
        refine (awake1 _).mono ?_
        rintro e w3 ⟨rfl, b3⟩
        have hc2 := hconv.out w3 (row_later HR3.out b3)
        have B3 := below_next B2 b3
        clear B2 b3 HR3
        go_wp2_with fail
        refine (HV.out _).mono ?_
        rintro e w4 ⟨rfl, b4⟩
        go_wp2_with fail
        go_ret
        exact ⟨by simp, below_next B3 b4⟩
  · rw [h] at hp
    clear h
    obtain ⟨N, hN1, hN2⟩ : ∃ N : Nat, N ≤ 4097 ∧ 4097 ≤ N := ⟨4097, Nat.le_refl _, Nat.le_refl _⟩
    have hNe : (4097 : Int) = (N : Int) := by omega
    have hm1 := run_make_row' (P := Try.prog) 30 5 (.int .u8 0) 1 Try.underlying30 Try.infoU8 rfl .i64 .i64 N (by omega) (by omega)
    have hm2 := run_make_row' (P := Try.prog) 35 3 (.int .i64 0) 8 Try.underlying35 Try.infoInt rfl .i64 .i64 N (by omega) (by omega)
    rw [← hNe] at hm1 hm2
    have HE := Lib.hid (fun w => enc_any _ _ _ (ints_made w N 3 (by omega)))
    rw [enc_big (by omega)] at HE
    have hconv := Lib.hid (fun (S : ByteArray) (hS : S = ⟨(List.replicate N (97 : UInt8)).toArray⟩) w (h : w.rowIs W.heap.size 5 N (fun _ => .int .u8 97)) => conv_row (P := Try.prog) w 30 9 5 W.heap.size N S hS Try.underlying30 Try.underlying5 Try.underlying9 h)
    obtain ⟨S, hS⟩ : ∃ S : ByteArray, S = ⟨(List.replicate N (97 : UInt8)).toArray⟩ := ⟨_, rfl⟩
    have hconv := Lib.hid (hconv.out S hS)
    have hSl : S.data.toList = List.replicate N 97 := by rw [hS]
    have hSs : S.size = N := by rw [← size_list, hSl, List.length_replicate]
    have HD := Lib.hid (fun w => dec_any S w)
    have HV := Lib.hid (fun w => decValid_any S w (by omega))
    rw [hSl, dec_big (by omega)] at HD
    rw [hSl, rep_scan, hSs, beq_self_eq_true] at HV
    clear hS hSl hSs hNe
    go_wp2_with fail
    refine (hp _).mono ?_
    rintro e w' ⟨rfl, rfl⟩
    clear hp
    go_wp2_with fail
    clear hm1
    go_loopw [19] (fun i wr => ∃ k : Nat, k ≤ N ∧ i = .int .i64 k ∧ wr.rowIs W.heap.size 5 N (fun j => .int .u8 (if j < k then 97 else 0)) ∧ Below W.heap.size W wr) (fun i _ => N - (intOf i).toNat)
    case atStart => exact ⟨0, by omega, rfl, (World.rowIs_made W (.int .u8 0) N _).congr (fun j _ => by simp), (Below.refl _ W).alloc (Nat.le_refl _) _⟩
    case round =>
      obtain ⟨k, hk, rfl, hrow, hbel⟩ := hrel
      by_cases hlt : k < N
      · have hc := hrow.cell hlt
        have hf := hrow.frozen k
        have hrow' := Lib.hid (row_step hrow)
        have hbel' := hbel.setCell (p := ⟨W.heap.size, k, none⟩) (Nat.le_refl _) (.int .u8 97)
        clear hrow hbel
        go_wp2_with fail
        go_roundw
        case rel => exact ⟨k + 1, by omega, by go_num, hrow'.out, hbel'⟩
        case measure => simp [intOf]; omega
      · have hrow1 : wr.rowIs W.heap.size 5 N (fun _ => .int .u8 97) := hrow.congr (fun j hj => by rw [if_pos (by omega)])
        have hc1 := hconv.out wr hrow1
        have HR1 := Lib.hid hrow1
        clear hrow hrow1
        go_wp2_with fail
        clear hc1
        refine (HD.out _).mono ?_
        rintro e w1 ⟨v1, rfl, _, b1⟩
        have HR2 := Lib.hid (row_later HR1.out b1)
        have B1 := below_next hbel b1
        clear hbel b1 HR1
        go_wp2_with fail
        refine (HE.out _).mono ?_
        rintro e w2 ⟨rfl, b2⟩
        have HR3 := Lib.hid (row_later (HR2.out.alloc _) b2)
        have B2 := below_next B1 (below_next ((Below.refl _ w1).alloc (Nat.le_refl _) _) b2)
        clear B1 b2 HR2
        go_wp2_with fail
        refine (awake1 _).mono ?_
        rintro e w3 ⟨rfl, b3⟩
        have hc2 := hconv.out w3 (row_later HR3.out b3)
        have B3 := below_next B2 b3
        clear B2 b3 HR3
        go_wp2_with fail
        refine (HV.out _).mono ?_
        rintro e w4 ⟨rfl, b4⟩
        go_wp2_with fail
        go_ret
        exact ⟨by simp, below_next B3 b4⟩
end Go.Proofs.Ytmbphpocbajlmaa
