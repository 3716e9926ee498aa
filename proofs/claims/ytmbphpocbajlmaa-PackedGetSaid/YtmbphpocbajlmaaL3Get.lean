/-
  The walk of PackedGet.
-/
import Derived.Test.YtmbphpocbajlmaaRefGetSpans
import Derived.Test.YtmbphpocbajlmaaSameSpans
import Derived.Test.YtmbphpocbajlmaaL3Int
namespace Go.Proofs.Ytmbphpocbajlmaa
open Go.RowKit ND

theorem Spans.of_later {w w' : World} {v : Value} {xs : List Sp} (h : Spans w w.heap.size v xs) (hb : Below w.heap.size w w') : Spans w' w'.heap.size v xs := h.later hb

set_option maxRecDepth 100000 in
set_option maxHeartbeats 1000000 in
theorem agrees3_any (s : ByteArray) (at_ : Int) (w : World) (hs : s.size ≤ maxLen) :
    Calls Try.prog 40 #[.string s, .int .i64 at_] w fun e w' => e = .returned (.bool true) ∧ Below w.heap.size w w' := by
  have h1 := Lib.hid (fun W => getInt_any s at_ W hs)
  have h2 := Lib.hid (fun W => refGetInt_any s at_ W hs)
  have h3 := Lib.hid (fun W => getList_any s at_ W hs)
  have h4 := Lib.hid (fun W => refGetList_any s at_ W hs)
  have h5 := Lib.hid (fun W => getSpans_any s at_ W hs)
  have h6 := Lib.hid (fun W => refGetSpans_any s at_ W hs)
  unfold tri at h1 h2
  generalize getInt s.data.toList at_ = r1 at *
  generalize getList s.data.toList at_ = r2 at *
  generalize getSpans s.data.toList at_ = r3 at *
  obtain ⟨x1, y1, z1⟩ := r1
  obtain ⟨x2, y2, z2⟩ := r2
  obtain ⟨x3, y3, z3⟩ := r3
  go_enter Try.func40, Try.ntmps40
  go_wp2_with fail
  refine (h1.out _).mono ?_
  rintro e w1 ⟨rfl, rfl⟩
  go_wp2_with fail
  refine (h2.out _).mono ?_
  rintro e w1 ⟨rfl, rfl⟩
  clear h1 h2
  go_wp2_with fail
  refine (h3.out _).mono ?_
  rintro e w3 ⟨v3, rfl, hv3, b3⟩
  have HV3 := Lib.hid hv3; clear hv3
  clear h3
  go_wp2_with fail
  refine (h4.out _).mono ?_
  rintro e w4 ⟨v4, rfl, hv4, b4⟩
  have B4 := below_next b3 b4
  have HA4 := Lib.hid (HV3.out.later b4)
  have HB4 := Lib.hid hv4
  clear h4 hv4 HV3 b3 b4
  go_wp2_with fail
  refine (h5.out _).mono ?_
  rintro e w5 ⟨v5, rfl, hv5, b5⟩
  have B5 := below_next B4 b5
  have HA5 := Lib.hid (HA4.out.later b5)
  have HB5 := Lib.hid (HB4.out.later b5)
  have HC5 := Lib.hid hv5
  clear h5 hv5 HA4 HB4 B4 b5
  go_wp2_with fail
  refine (h6.out _).mono ?_
  rintro e w6 ⟨v6, rfl, hv6, b6⟩
  have B6 := below_next B5 b6
  have HA6 := Lib.hid (HA5.out.later b6)
  have HB6 := Lib.hid (HB5.out.later b6)
  have HC6 := Lib.hid (HC5.out.later b6)
  have HD6 := Lib.hid hv6
  clear h6 hv6 HA5 HB5 HC5 B5 b6
  go_wp2_with fail
  refine (same_any _ _ x2 x2 w6 HA6.out HB6.out).mono ?_
  rintro e w7 ⟨rfl, b7⟩
  have B7 := below_next B6 b7
  have HC7 := Lib.hid (HC6.out.later b7)
  have HD7 := Lib.hid (HD6.out.later b7)
  clear HA6 HB6 HC6 HD6 B6 b7
  go_wp2_with fail
  refine (sameSpans_any _ _ x3 x3 w7 HC7.out HD7.out).mono ?_
  rintro e w8 ⟨rfl, b8⟩
  have B8 := below_next B7 b8
  clear HC7 HD7 B7 b8
  go_wp2_with fail
  go_ret
  exact ⟨by simp, B8⟩

set_option maxRecDepth 100000 in
set_option maxHeartbeats 1000000 in
theorem PackedGet_walk (W : World) (s : ByteArray) (hs : s.size ≤ 140737488351232) (p : Int) (_hp : -9223372036854775808 ≤ p ∧ p ≤ 9223372036854775807) (v : Value) (xs : List Int) (hv : Ints W W.heap.size .u8 v xs) (hx : ∀ x ∈ xs, 0 ≤ x ∧ x ≤ 255) (_hl : xs.length * 1 ≤ 140737488351232) :
    Calls Try.prog 15 #[.string s, .int .i64 p, v] W fun e W' => e = .returned (.bool true) ∧ Below W.heap.size W W' := by
  obtain ⟨A, c, rfl, hc1, hc2, _, hcell⟩ := hv
  have HC := Lib.hid hcell; clear hcell
  have HX := Lib.hid hx; clear hx
  have hc2' : c ≤ 9223372036854775807 := by unfold maxLen at hc2; omega
  clear hc2 _hp
  go_enter Try.func15, Try.ntmps15
  go_wp2_with fail
  go_loopw [7, 8] (fun t i wr => ∃ (k : Nat) (u : ByteArray), k ≤ xs.length ∧ k ≤ 30 ∧ i = .int .i64 k ∧ t = .string u ∧ u.size ≤ k ∧ Below W.heap.size W wr) (fun _ i _ => xs.length - (intOf i).toNat)
  case atStart => exact ⟨0, ⟨#[]⟩, by omega, by omega, rfl, rfl, Nat.le_refl _, Below.refl _ _⟩
  case round =>
    obtain ⟨k, u, hk, hk2, rfl, rfl, hu, hbel⟩ := hrel
    by_cases hlt : k < xs.length ∧ k < 30
    · obtain ⟨hlt, hlt2⟩ := hlt
      obtain ⟨x, hxk, hxm⟩ := get_of hlt
      obtain ⟨ad, rfl, hb, hce⟩ := HC.out k x hxk
      have hxr := HX.out x hxm
      have hce' := (hbel.cell (p := ad.add k) (by rw [block_of_add]; exact hb)).trans hce
      clear hce hxk hxm
      have h10 : x % 10 = 0 ∨ x % 10 = 1 ∨ x % 10 = 2 ∨ x % 10 = 3 ∨ x % 10 = 4 ∨ x % 10 = 5 ∨ x % 10 = 6 ∨ x % 10 = 7 ∨ x % 10 = 8 ∨ x % 10 = 9 := by omega
      have hcv := fun b : UInt8 => conv_one (P := Try.prog) wr 30 9 5 (b.toNat : Int) Try.underlying30 Try.underlying5 Try.underlying9 (by omega) (by have := b.toNat_lt; omega)
      rcases h10 with h | h | h | h | h | h | h | h | h | h
      all_goals
        go_wp2_with fail
        go_roundw
        case rel => exact ⟨k + 1, _, by omega, by omega, by go_num, rfl, by rw [ByteArray.size_append]; exact (show _ ≤ k + 1 from Nat.add_le_add hu (Nat.le_refl 1)), hbel.alloc hbel.size _⟩
        case measure => simp [intOf]; omega
    · have hd : (k < xs.length ∧ 30 ≤ k) ∨ xs.length ≤ k := by omega
      clear hlt
      have p1 := pick_in p (n := (s.size : Int) + 1) (by omega)
      have p2 := pick_in p (n := (u.size : Int) + 2) (by omega)
      have hus : u.size ≤ 30 := by omega
      have h1 := Lib.hid (fun W => agrees3_any s p W (by unfold maxLen; omega))
      have h2 := Lib.hid (fun W => agrees3_any s (pick p ((s.size : Int) + 1)) W (by unfold maxLen; omega))
      have h3 := Lib.hid (fun W => agrees3_any u (pick p ((u.size : Int) + 2) - 1) W (by unfold maxLen; omega))
      have h4 := Lib.hid (fun W => agrees3_any (⟨#[4]⟩ ++ u) 0 W (by rw [ByteArray.size_append]; unfold maxLen; have : (⟨#[4]⟩ : ByteArray).size = 1 := rfl; omega))
      have hp1 := Lib.hid (fun W => pick_any p ((s.size : Int) + 1) W (by omega) (by omega))
      have hp2 := Lib.hid (fun W => pick_any p ((u.size : Int) + 2) W (by omega) (by omega))
      have hadd := fun w => run_string_add_sum (P := Try.prog) w ⟨#[4]⟩ u (by have : (⟨#[4]⟩ : ByteArray).size = 1 := rfl; omega)
      generalize pick p ((s.size : Int) + 1) = P1 at *
      generalize pick p ((u.size : Int) + 2) = P2 at *
      rcases hd with ⟨hd, hd'⟩ | hd
      all_goals
        go_wp2_with fail
        refine (awake3 _).mono ?_
        rintro e w1 ⟨rfl, b1⟩
        have B1 := below_next hbel b1
        go_wp2_with fail
        refine (h1.out _).mono ?_
        rintro e w2 ⟨rfl, b2⟩
        have B2 := below_next B1 b2
        go_wp2_with fail
        refine (hp1.out _).mono ?_
        rintro e w3 ⟨rfl, rfl⟩
        go_wp2_with fail
        refine (h2.out _).mono ?_
        rintro e w3 ⟨rfl, b3⟩
        have B3 := below_next B2 b3
        clear b1 b2 b3 hbel B1 B2
        go_wp2_with fail
        refine (hp2.out _).mono ?_
        rintro e w4 ⟨rfl, rfl⟩
        go_wp2_with fail
        refine (h3.out _).mono ?_
        rintro e w4 ⟨rfl, b4⟩
        have B4 := below_next B3 b4
        go_wp2_with fail
        refine (h4.out _).mono ?_
        rintro e w5 ⟨rfl, b5⟩
        have B5 := below_next B4 b5
        go_wp2_with fail
        go_ret
        exact ⟨rfl, B5⟩
end Go.Proofs.Ytmbphpocbajlmaa
