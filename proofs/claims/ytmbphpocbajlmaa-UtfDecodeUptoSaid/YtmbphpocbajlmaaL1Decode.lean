/-
  The walk of UtfDecode.
-/
import Derived.Test.YtmbphpocbajlmaaL1Awake
namespace Go.Proofs.Ytmbphpocbajlmaa
open Go.RowKit ND

set_option maxRecDepth 100000 in
set_option maxHeartbeats 1000000 in
theorem UtfDecode_walk (W : World) (s : ByteArray) (hs : s.size ≤ 1048576) (v : Value) (xs : List Int) (hv : Ints W W.heap.size .u8 v xs) (hx : ∀ x ∈ xs, 0 ≤ x ∧ x ≤ 255) (_hl : xs.length ≤ 1048576) :
    Calls Try.prog 8 #[.string s, v] W fun e W' => e = .returned (.bool true) ∧ Below W.heap.size W W' := by
  obtain ⟨A, c, rfl, hc1, hc2, _, hcell⟩ := hv
  have HC := Lib.hid hcell; clear hcell
  have HX := Lib.hid hx; clear hx
  clear hc2 hc1
  go_enter Try.func8, Try.ntmps8
  go_wp2_with fail
  go_loopw [6, 7] (fun t i wr => ∃ (k : Nat) (u : ByteArray), k ≤ xs.length ∧ k ≤ 40 ∧ i = .int .i64 k ∧ t = .string u ∧ u.size ≤ k ∧ Below W.heap.size W wr) (fun _ i _ => xs.length - (intOf i).toNat)
  case atStart => exact ⟨0, ⟨#[]⟩, by omega, by omega, rfl, rfl, by decide, Below.refl _ _⟩
  case round =>
    obtain ⟨k, u, hk, hk2, rfl, rfl, hu, hbel⟩ := hrel
    by_cases hlt : k < xs.length ∧ k < 40
    · obtain ⟨hlt, hlt2⟩ := hlt
      obtain ⟨x, hxk, hxm⟩ := get_of hlt
      obtain ⟨ad, rfl, hb, hce⟩ := HC.out k x hxk
      have hxr := HX.out x hxm
      have hce' := (hbel.cell (p := ad.add k) (by rw [block_of_add]; exact hb)).trans hce
      clear hce hxk hxm
      obtain ⟨n, rfl⟩ := Int.eq_ofNat_of_zero_le hxr.1
      have hn : n ≤ 255 := by omega
      clear hxr hb
      go_wp2_with fail
      go_roundw
      case rel => exact ⟨k + 1, _, by omega, by omega, by go_num, rfl, by rw [ByteArray.size_append]; exact Nat.add_le_add hu (by rw [ByteArray.size_extract]; omega), hbel⟩
      case measure => simp [intOf]; omega
    · have hd : (k < xs.length ∧ 40 ≤ k) ∨ xs.length ≤ k := by omega
      have ha := Lib.hid (fun W => agrees1 s W (by omega))
      have ha' := Lib.hid (fun W => agrees1 u W (by omega))
      clear hlt
      rcases hd with ⟨hd, hd'⟩ | hd
      all_goals
        go_wp2_with fail
        refine (awake1 _).mono ?_
        rintro e w1 ⟨rfl, b1⟩
        go_wp2_with fail
        refine (ha.out _).mono ?_
        rintro e w2 ⟨rfl, b2⟩
        go_wp2_with fail
        refine (ha'.out _).mono ?_
        rintro e w3 ⟨rfl, b3⟩
        have b := below_next hbel (below_next b1 (below_next b2 b3))
        clear b1 b2 b3 hbel
        go_wp2_with fail
        go_ret
        exact ⟨by simp, b⟩
end Go.Proofs.Ytmbphpocbajlmaa
