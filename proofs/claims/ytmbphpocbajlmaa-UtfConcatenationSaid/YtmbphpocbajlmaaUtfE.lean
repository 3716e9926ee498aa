/-
  The walk through utf.first.
-/
import Derived.Test.YtmbphpocbajlmaaUtfB
import Derived.Test.YtmbphpocbajlmaaPkSum
import Derived.Lib.Strings
namespace Go.Proofs.Ytmbphpocbajlmaa
open Go.RowKit ND

theorem bytes_drop' (s : ByteArray) (i : Nat) (h : i < s.size) : s.data.toList.drop i = s[i] :: s.data.toList.drop (i + 1) := by
  rw [List.drop_eq_getElem_cons (by simpa using h)]; rfl
theorem cont_bits {c x : Nat} (hc : c < 524288) : bits .or .i64 ((c : Int) * 64) ((x : Int) % 64) = ((c * 64 + x % 64 : Nat) : Int) := by
  have e1 : (x : Int) % 64 = ((x % 64 : Nat) : Int) := by omega
  have e2 : ((c : Nat) : Int) * 64 = ((c * 64 : Nat) : Int) := by omega
  rw [e1, e2, i64_or_nat _ _ (by omega) (by omega), nat_join 6 _ _ (by omega) (by omega)]
theorem pow64 (k : Nat) : 128 * 64 ^ (k + 1) = 64 * (128 * 64 ^ k) := by rw [Nat.pow_succ]; omega
theorem headN_le (b : Nat) : (headN b).1 ≤ 4 ∧ (headN b).2 < 128 := by
  unfold headN; repeat (first | split | (constructor <;> simp only <;> omega))
theorem contN_none {c : Nat} {x : UInt8} {l : List UInt8} {R : Option Nat} (h : contN c (x :: l) = R) (hx : x.toNat < 128 ∨ 191 < x.toNat) : R = none := by
  subst h; rw [contN, if_pos hx]
theorem contN_more {c : Nat} {x : UInt8} {l : List UInt8} {R : Option Nat} (h : contN c (x :: l) = R) (h1 : 128 ≤ x.toNat) (h2 : x.toNat ≤ 191) : contN (c * 64 + x.toNat % 64) l = R := by
  subst h; rw [contN, if_neg (by omega)]
/-- What the last test makes of the number that was read. -/
def finF (R : Option Nat) (n : Nat) : Nat × Nat :=
  match R with
  | none => (0, 0)
  | some c => if lenC c = n then (c, n) else (0, 0)
theorem finF_yes {c n : Nat} (h : lenC c = n) : finF (some c) n = (c, n) := if_pos h
theorem finF_no {c n : Nat} (h : lenC c ≠ n) : finF (some c) n = (0, 0) := if_neg h
theorem firstP_cons {L : List UInt8} {b : UInt8} {r : List UInt8} {n c : Nat} (hL : L = b :: r) (hh : headN b.toNat = (n, c)) :
    firstP L = if n = 0 ∨ r.length + 1 < n then (0, 0) else finF (contN c (r.take (n - 1))) n := by
  subst hL; simp only [firstP, hh]; rfl

set_option maxRecDepth 100000 in
set_option maxHeartbeats 1000000 in
theorem first_any (s : ByteArray) (p : Nat) (w : World) (hs : s.size ≤ maxLen) (hp : p < s.size) :
    Calls Try.prog 63 #[.string s, .int .i64 p] w fun e w' => e = .returned (.tuple #[.int .i64 (firstP (s.data.toList.drop p)).1, .int .i64 (firstP (s.data.toList.drop p)).2]) ∧ Below w.heap.size w w' := by
  have hhd := Lib.hid (fun w => head_any s[p].toNat s[p].toNat_lt w)
  have hle := headN_le s[p].toNat
  obtain ⟨n, c, hh⟩ : ∃ n c, headN s[p].toNat = (n, c) := ⟨_, _, rfl⟩
  have hf := firstP_cons (bytes_drop' s p hp) hh
  rw [hh] at hhd hle
  simp only at hle
  have hlen : (s.data.toList.drop (p + 1)).length = s.size - (p + 1) := by
    rw [List.length_drop, Array.length_toList]; rfl
  rw [hlen] at hf
  rw [hf]
  clear hf hlen hh
  unfold maxLen at hs
  rcases show (n < 1) ∨ (1 ≤ n ∧ s.size < p + n) ∨ (1 ≤ n ∧ p + n ≤ s.size) by omega with h1 | ⟨h1, h2⟩ | ⟨h1, h2⟩
  · rw [if_pos (by omega)]
    have hb : ((n : Int) == 0) = true := beq_iff_eq.2 (by omega)
    go_enter Try.func63, Try.ntmps63
    go_wp2_with (go_at_call 66; refine (hhd.out _).mono ?_; rintro e w' ⟨rfl, rfl⟩)
    go_ret2
    exact ⟨rfl, Below.refl _ _⟩
  · rw [if_pos (by omega)]
    have hb : ((n : Int) == 0) = false := beq_eq_false_iff_ne.2 (by omega)
    go_enter Try.func63, Try.ntmps63
    go_wp2_with (go_at_call 66; refine (hhd.out _).mono ?_; rintro e w' ⟨rfl, rfl⟩)
    go_ret2
    exact ⟨rfl, Below.refl _ _⟩
  · rw [if_neg (by omega)]
    have hb : ((n : Int) == 0) = false := beq_eq_false_iff_ne.2 (by omega)
    obtain ⟨t, ht⟩ : ∃ t : ByteArray, t = s.extract (p + 1) (p + n) := ⟨_, rfl⟩
    have htl : t.data.toList = (s.data.toList.drop (p + 1)).take (n - 1) := by
      rw [ht, Lib.extract_data]; congr 1; omega
    have hts : t.size = n - 1 := by rw [ht, ByteArray.size_extract]; omega
    obtain ⟨W, cap, hcv, hcells, hbel, hcap⟩ := conv_bytes (P := Try.prog) w 9 30 5 t Try.underlying9 Try.underlying30 Try.underlying5
    rw [ht] at hcv
    rw [← htl]
    have HC := Lib.hid hcells; clear hcells
    have hts1 : t.size + 1 ≤ n := by omega
    have hts2 : n ≤ t.size + 1 := by omega
    obtain ⟨R, hR⟩ : ∃ R, contN c t.data.toList = R := ⟨_, rfl⟩
    rw [hR]
    have HR := Lib.hid hR; clear hR htl
    have HTS := Lib.hid ht; clear ht
    have HTS2 := Lib.hid hts; clear hts
    go_enter Try.func63, Try.ntmps63
    go_wp2_with (go_at_call 66; refine (hhd.out _).mono ?_; rintro e w' ⟨rfl, rfl⟩)
    have hk0 : c < 128 := hle.2
    have hn4 : n ≤ 4 := hle.1
    clear hcv hle
    go_loop [7, 36] (fun u i => ∃ (k d : Nat), k + 1 ≤ n ∧ i = .int .i64 k ∧ u = .int .i64 d ∧ Hid (d < 128 * 64 ^ k) ∧ Hid (contN d (t.data.toList.drop k) = R)) (fun _ i => n - (intOf i).toNat)
    case atStart => exact ⟨0, c, by omega, rfl, rfl, Lib.hid (by simpa using hk0), by simpa using HR⟩
    case round =>
      obtain ⟨k, d, hk, rfl, rfl, HB, HU⟩ := hrel
      clear HR hk0
      by_cases hlt : k < t.size
      · have hd : d < 524288 := by
          have h := HB.out
          have : 64 ^ k ≤ 64 ^ 2 := Nat.pow_le_pow_right (by omega) (by omega)
          omega
        have hc := HC.out k hlt
        unfold bv at hc
        have hx := t[k].toNat_lt
        have hdr := bytes_drop' t k hlt
        have HU' : Hid (contN d (t[k] :: t.data.toList.drop (k + 1)) = R) := by rw [← hdr]; exact HU
        clear hdr HU
        rcases show t[k].toNat < 128 ∨ (128 ≤ t[k].toNat ∧ 191 < t[k].toNat) ∨ (128 ≤ t[k].toNat ∧ t[k].toNat ≤ 191) by omega with h5 | ⟨h5, h6⟩ | ⟨h5, h6⟩
        · go_wp2_with fail
          go_ret2
          exact ⟨by rw [contN_none HU'.out (.inl h5)]; rfl, hbel⟩
        · go_wp2_with fail
          go_ret2
          exact ⟨by rw [contN_none HU'.out (.inr h6)]; rfl, hbel⟩
        · go_wp2_with fail
          go_round
          case rel =>
            refine ⟨k + 1, d * 64 + t[k].toNat % 64, by omega, by go_num, ?_, Lib.hid ?_, Lib.hid (contN_more HU'.out h5 h6)⟩
            · rw [cont_bits hd]
            · have h := HB.out
              rw [pow64]; omega
          case measure => simp [intOf]; omega
      · have hk2 : k = n - 1 := by omega
        have hR : some d = R := by
          have h := HU.out
          rw [List.drop_of_length_le (by rw [Array.length_toList]; show t.size ≤ k; omega)] at h
          exact h
        have HR := Lib.hid hR
        have hd : d < 33554432 := by
          have h := HB.out
          have : 64 ^ k ≤ 64 ^ 3 := Nat.pow_le_pow_right (by omega) (by omega)
          omega
        clear hR HB HU hk2
        by_cases hl : lenC d = n
        · have HX : Hid (finF R n = (d, n)) := Lib.hid (by rw [← HR.out, finF_yes hl])
          have hb2 : (((lenC d : Nat) : Int) != n) = false := by rw [hl]; simp
          clear hl
          go_wp2_with (go_at_call 35; refine (length_any _ _).mono ?_; rintro e w' ⟨rfl, rfl⟩)
          go_ret2
          exact ⟨by rw [HX.out]; rfl, hbel⟩
        · have HX : Hid (finF R n = (0, 0)) := Lib.hid (by rw [← HR.out, finF_no hl])
          have hb2 : (((lenC d : Nat) : Int) != n) = true := by rw [bne_iff_ne]; omega
          clear hl
          go_wp2_with (go_at_call 35; refine (length_any _ _).mono ?_; rintro e w' ⟨rfl, rfl⟩)
          go_ret2
          exact ⟨by rw [HX.out]; rfl, hbel⟩
end Go.Proofs.Ytmbphpocbajlmaa
