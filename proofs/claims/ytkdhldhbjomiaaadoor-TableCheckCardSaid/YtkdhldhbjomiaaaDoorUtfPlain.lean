/-
  Plain mathematics of chapter 1 (UTF-8): no program in sight.
-/
import Derived.Test.YtkdhldhbjomiaaaDoorPkPlain
namespace ND
open Go

def scalarB (c : Int) : Bool := decide (0 ≤ c ∧ c ≤ 1114111 ∧ (c < 55296 ∨ 57343 < c))
def lenC (c : Int) : Nat := if scalarB c then (if c ≤ 127 then 1 else if c ≤ 2047 then 2 else if c ≤ 65535 then 3 else 4) else 0
theorem scalarB_iff (c : Int) : scalarB c = true ↔ 0 ≤ c ∧ c ≤ 1114111 ∧ (c < 55296 ∨ 57343 < c) := by unfold scalarB; simp
theorem scalarB_not (c : Int) : scalarB c = false ↔ c < 0 ∨ 1114111 < c ∨ (55296 ≤ c ∧ c ≤ 57343) := by
  unfold scalarB; rw [decide_eq_false_iff_not]; omega

/-- The bytes of a scalar value. -/
def encN (n : Nat) : List UInt8 :=
  if n < 128 then [UInt8.ofNat n]
  else if n < 2048 then [UInt8.ofNat (192 + n / 64), UInt8.ofNat (128 + n % 64)]
  else if n < 65536 then [UInt8.ofNat (224 + n / 4096), UInt8.ofNat (128 + n / 64 % 64), UInt8.ofNat (128 + n % 64)]
  else [UInt8.ofNat (240 + n / 262144), UInt8.ofNat (128 + n / 4096 % 64), UInt8.ofNat (128 + n / 64 % 64), UInt8.ofNat (128 + n % 64)]
def encC (c : Int) : List UInt8 := encN c.toNat

def headN (b : Nat) : Nat × Nat :=
  if b ≤ 127 then (1, b) else if 192 ≤ b ∧ b ≤ 223 then (2, b % 32) else if 224 ≤ b ∧ b ≤ 239 then (3, b % 16) else if 240 ≤ b ∧ b ≤ 247 then (4, b % 8) else (0, 0)
def contN : Nat → List UInt8 → Option Nat
  | c, [] => some c
  | c, b :: r => if b.toNat < 128 ∨ 191 < b.toNat then none else contN (c * 64 + b.toNat % 64) r
/-- The scalar value that a string begins with and the number of its bytes, or 0, 0. -/
def firstP : List UInt8 → Nat × Nat
  | [] => (0, 0)
  | b :: r =>
    if (headN b.toNat).1 = 0 ∨ r.length + 1 < (headN b.toNat).1 then (0, 0)
    else match contN (headN b.toNat).2 (r.take ((headN b.toNat).1 - 1)) with
      | none => (0, 0)
      | some c => if lenC c = (headN b.toNat).1 then (c, (headN b.toNat).1) else (0, 0)

theorem lenC_encC {c : Int} (h : scalarB c = true) : (encC c).length = lenC c ∧ 1 ≤ lenC c ∧ lenC c ≤ 4 := by
  have hs := (scalarB_iff c).1 h
  unfold encC encN lenC
  rw [if_pos h]
  by_cases h1 : c ≤ 127
  · rw [if_pos (by omega), if_pos h1]; simp
  · rw [if_neg (by omega), if_neg h1]
    by_cases h2 : c ≤ 2047
    · rw [if_pos (by omega), if_pos h2]; simp
    · rw [if_neg (by omega), if_neg h2]
      by_cases h3 : c ≤ 65535
      · rw [if_pos (by omega), if_pos h3]; simp
      · rw [if_neg (by omega), if_neg h3]; simp

theorem lenC_pos {c : Int} (h : lenC c ≠ 0) : scalarB c = true := by
  unfold lenC at h
  by_cases hs : scalarB c = true
  · exact hs
  · rw [if_neg hs] at h; exact absurd rfl h

theorem firstP_enc {n : Nat} (t : List UInt8) (h : scalarB n = true) : firstP (encN n ++ t) = (n, lenC n) := by
  have hs := (scalarB_iff n).1 h
  have hl : lenC n = if (n : Int) ≤ 127 then 1 else if (n : Int) ≤ 2047 then 2 else if (n : Int) ≤ 65535 then 3 else 4 := by unfold lenC; rw [if_pos h]
  unfold encN
  by_cases h1 : n < 128
  · have e : (UInt8.ofNat n).toNat = n := u8_ofNat_toNat (by omega)
    have hh : headN n = (1, n) := by unfold headN; rw [if_pos (by omega)]
    have hl' : lenC n = 1 := by rw [hl, if_pos (by omega)]
    rw [if_pos h1]
    simp [firstP, e, hh, contN, hl']
  · rw [if_neg h1]
    by_cases h2 : n < 2048
    · have e0 : (UInt8.ofNat (192 + n / 64)).toNat = 192 + n / 64 := u8_ofNat_toNat (by omega)
      have e1 : (UInt8.ofNat (128 + n % 64)).toNat = 128 + n % 64 := u8_ofNat_toNat (by omega)
      have hh : headN (192 + n / 64) = (2, n / 64) := by unfold headN; rw [if_neg (by omega), if_pos (by omega)]; congr 1; omega
      have hl' : lenC n = 2 := by rw [hl, if_neg (by omega), if_pos (by omega)]
      have hc : n / 64 * 64 + (128 + n % 64) % 64 = n := by omega
      rw [if_pos h2]
      simp only [List.cons_append, List.nil_append, firstP, e0, hh, List.length_cons]
      rw [if_neg (by omega)]
      simp only [Nat.reduceSub, List.take_succ_cons, List.take_zero, contN, e1]
      rw [if_neg (by omega), hc]
      simp [hl']
    · rw [if_neg h2]
      by_cases h3 : n < 65536
      · have e0 : (UInt8.ofNat (224 + n / 4096)).toNat = 224 + n / 4096 := u8_ofNat_toNat (by omega)
        have e1 : (UInt8.ofNat (128 + n / 64 % 64)).toNat = 128 + n / 64 % 64 := u8_ofNat_toNat (by omega)
        have e2 : (UInt8.ofNat (128 + n % 64)).toNat = 128 + n % 64 := u8_ofNat_toNat (by omega)
        have hh : headN (224 + n / 4096) = (3, n / 4096) := by unfold headN; rw [if_neg (by omega), if_neg (by omega), if_pos (by omega)]; congr 1; omega
        have hl' : lenC n = 3 := by rw [hl, if_neg (by omega), if_neg (by omega), if_pos (by omega)]
        have hc : (n / 4096 * 64 + (128 + n / 64 % 64) % 64) * 64 + (128 + n % 64) % 64 = n := by omega
        rw [if_pos h3]
        simp only [List.cons_append, List.nil_append, firstP, e0, hh, List.length_cons]
        rw [if_neg (by omega)]
        simp only [Nat.reduceSub, List.take_succ_cons, List.take_zero, contN, e1, e2]
        rw [if_neg (by omega), if_neg (by omega), hc]
        simp [hl']
      · have e0 : (UInt8.ofNat (240 + n / 262144)).toNat = 240 + n / 262144 := u8_ofNat_toNat (by omega)
        have e1 : (UInt8.ofNat (128 + n / 4096 % 64)).toNat = 128 + n / 4096 % 64 := u8_ofNat_toNat (by omega)
        have e2 : (UInt8.ofNat (128 + n / 64 % 64)).toNat = 128 + n / 64 % 64 := u8_ofNat_toNat (by omega)
        have e3 : (UInt8.ofNat (128 + n % 64)).toNat = 128 + n % 64 := u8_ofNat_toNat (by omega)
        have hh : headN (240 + n / 262144) = (4, n / 262144) := by unfold headN; rw [if_neg (by omega), if_neg (by omega), if_neg (by omega), if_pos (by omega)]; congr 1; omega
        have hl' : lenC n = 4 := by rw [hl, if_neg (by omega), if_neg (by omega), if_neg (by omega)]
        have hc : ((n / 262144 * 64 + (128 + n / 4096 % 64) % 64) * 64 + (128 + n / 64 % 64) % 64) * 64 + (128 + n % 64) % 64 = n := by omega
        rw [if_neg h3]
        simp only [List.cons_append, List.nil_append, firstP, e0, hh, List.length_cons]
        rw [if_neg (by omega)]
        simp only [Nat.reduceSub, List.take_succ_cons, List.take_zero, contN, e1, e2, e3]
        rw [if_neg (by omega), if_neg (by omega), if_neg (by omega), hc]
        simp [hl']

theorem u8_eq {b : UInt8} {n : Nat} (h : b.toNat = n) : UInt8.ofNat n = b := by subst h; simp

theorem firstP_some (l : List UInt8) (h : (firstP l).2 ≠ 0) : scalarB (firstP l).1 = true ∧ (firstP l).2 = lenC (firstP l).1 ∧ (firstP l).2 ≤ l.length ∧ l.take (firstP l).2 = encN (firstP l).1 := by
  cases l with
  | nil => simp [firstP] at h
  | cons b r =>
    have hb := b.toNat_lt
    simp only [firstP] at h ⊢
    by_cases h0 : (headN b.toNat).1 = 0 ∨ r.length + 1 < (headN b.toNat).1
    · rw [if_pos h0] at h; simp at h
    · rw [if_neg h0] at h ⊢
      cases hc : contN (headN b.toNat).2 (r.take ((headN b.toNat).1 - 1)) with
      | none => rw [hc] at h; simp at h
      | some c =>
        rw [hc] at h
        simp only at h ⊢
        by_cases hl : lenC c = (headN b.toNat).1
        · rw [if_pos hl]
          have hsc : scalarB c = true := lenC_pos (by rw [hl]; omega)
          have hs := (scalarB_iff c).1 hsc
          refine ⟨hsc, hl.symm, by simp; omega, ?_⟩
          have hlc : lenC c = if (c : Int) ≤ 127 then 1 else if (c : Int) ≤ 2047 then 2 else if (c : Int) ≤ 65535 then 3 else 4 := by unfold lenC; rw [if_pos hsc]
          rw [hlc] at hl
          unfold headN at hl hc h0 ⊢
          by_cases b1 : b.toNat ≤ 127
          · simp only [if_pos b1] at hl hc ⊢
            simp [contN] at hc
            subst hc
            unfold encN
            rw [if_pos (by omega)]
            simp
          · simp only [if_neg b1] at hl hc h0 ⊢
            by_cases b2 : 192 ≤ b.toNat ∧ b.toNat ≤ 223
            · simp only [if_pos b2] at hl hc h0 ⊢
              match r, h0 with
              | x1 :: r', _ =>
                have hx1 := x1.toNat_lt
                simp only [Nat.reduceSub, List.take_succ_cons, List.take_zero, contN] at hc ⊢
                split at hc
                · cases hc
                · rename_i c1
                  simp only [Option.some.injEq] at hc
                  have hr : 128 ≤ c ∧ c < 2048 := by
                    by_cases k1 : (c : Int) ≤ 127
                    · rw [if_pos k1] at hl; omega
                    · rw [if_neg k1] at hl
                      by_cases k2 : (c : Int) ≤ 2047
                      · omega
                      · rw [if_neg k2] at hl; split at hl <;> omega
                  unfold encN
                  rw [if_neg (by omega), if_pos (by omega), u8_eq (b := b) (by omega), u8_eq (b := x1) (by omega)]
              | [], h0 => simp at h0
            · simp only [if_neg b2] at hl hc h0 ⊢
              by_cases b3 : 224 ≤ b.toNat ∧ b.toNat ≤ 239
              · simp only [if_pos b3] at hl hc h0 ⊢
                match r, h0 with
                | x1 :: x2 :: r', _ =>
                  have hx1 := x1.toNat_lt
                  have hx2 := x2.toNat_lt
                  simp only [Nat.reduceSub, List.take_succ_cons, List.take_zero, contN] at hc ⊢
                  split at hc
                  · cases hc
                  · rename_i c1
                    split at hc
                    · cases hc
                    · rename_i c2
                      simp only [Option.some.injEq] at hc
                      have hr : 2048 ≤ c ∧ c < 65536 := by
                        by_cases k1 : (c : Int) ≤ 127
                        · rw [if_pos k1] at hl; omega
                        · rw [if_neg k1] at hl
                          by_cases k2 : (c : Int) ≤ 2047
                          · rw [if_pos k2] at hl; omega
                          · rw [if_neg k2] at hl; split at hl <;> omega
                      unfold encN
                      rw [if_neg (by omega), if_neg (by omega), if_pos (by omega), u8_eq (b := b) (by omega), u8_eq (b := x1) (by omega), u8_eq (b := x2) (by omega)]
                | [], h0 => simp at h0
                | [_], h0 => simp at h0
              · simp only [if_neg b3] at hl hc h0 ⊢
                by_cases b4 : 240 ≤ b.toNat ∧ b.toNat ≤ 247
                · simp only [if_pos b4] at hl hc h0 ⊢
                  match r, h0 with
                  | x1 :: x2 :: x3 :: r', _ =>
                    have hx1 := x1.toNat_lt
                    have hx2 := x2.toNat_lt
                    have hx3 := x3.toNat_lt
                    simp only [Nat.reduceSub, List.take_succ_cons, List.take_zero, contN] at hc ⊢
                    split at hc
                    · cases hc
                    · rename_i c1
                      split at hc
                      · cases hc
                      · rename_i c2
                        split at hc
                        · cases hc
                        · rename_i c3
                          simp only [Option.some.injEq] at hc
                          have hr : 65536 ≤ c := by
                            by_cases k1 : (c : Int) ≤ 127
                            · rw [if_pos k1] at hl; omega
                            · rw [if_neg k1] at hl
                              by_cases k2 : (c : Int) ≤ 2047
                              · rw [if_pos k2] at hl; omega
                              · rw [if_neg k2] at hl; split at hl <;> omega
                          unfold encN
                          rw [if_neg (by omega), if_neg (by omega), if_neg (by omega), u8_eq (b := b) (by omega), u8_eq (b := x1) (by omega), u8_eq (b := x2) (by omega), u8_eq (b := x3) (by omega)]
                  | [], h0 => simp at h0
                  | [_], h0 => simp at h0
                  | [_, _], h0 => simp at h0
                · simp only [if_neg b4] at h0
                  simp at h0
        · rw [if_neg hl] at h; simp at h

/-! ### The reference's way to the first scalar value -/

def byteAt (l : List UInt8) (i : Nat) : Int := ((l.getD i 0).toNat : Int)
def valN (n : Nat) (l : List UInt8) : Int :=
  if n = 1 then byteAt l 0
  else if n = 2 then (byteAt l 0 - 192) * 64 + byteAt l 1 - 128
  else if n = 3 then (byteAt l 0 - 224) * 4096 + (byteAt l 1 - 128) * 64 + byteAt l 2 - 128
  else (byteAt l 0 - 240) * 262144 + (byteAt l 1 - 128) * 4096 + (byteAt l 2 - 128) * 64 + byteAt l 3 - 128

theorem firstP_zero (l : List UInt8) (h : (firstP l).2 = 0) : (firstP l).1 = 0 := by
  cases l with
  | nil => rfl
  | cons b r =>
    simp only [firstP] at h ⊢
    split
    · rfl
    · rename_i h0
      rw [if_neg h0] at h
      split
      · rfl
      · rename_i c hc
        rw [hc] at h
        simp only at h ⊢
        split
        · rename_i hl
          rw [if_pos hl] at h
          simp only at h
          exact absurd (.inl h) h0
        · rfl

theorem valN_enc {c : Nat} (t : List UInt8) (h : scalarB c = true) : valN (lenC c) (encN c ++ t) = c := by
  have hs := (scalarB_iff c).1 h
  have hl : lenC c = if (c : Int) ≤ 127 then 1 else if (c : Int) ≤ 2047 then 2 else if (c : Int) ≤ 65535 then 3 else 4 := by unfold lenC; rw [if_pos h]
  unfold encN
  by_cases h1 : c < 128
  · rw [hl, if_pos (by omega), if_pos h1]
    simp [valN, byteAt, u8_ofNat_toNat (show c < 256 by omega)]
  · rw [if_neg h1]
    by_cases h2 : c < 2048
    · rw [hl, if_neg (by omega), if_pos (by omega), if_pos h2]
      simp only [valN, byteAt, List.cons_append, List.nil_append, List.getD_cons_zero, List.getD_cons_succ, u8_ofNat_toNat (show 192 + c / 64 < 256 by omega), u8_ofNat_toNat (show 128 + c % 64 < 256 by omega)]
      simp only [Nat.reduceEqDiff, if_true, if_false]
      omega
    · rw [if_neg h2]
      by_cases h3 : c < 65536
      · rw [hl, if_neg (by omega), if_neg (by omega), if_pos (by omega), if_pos h3]
        simp only [valN, byteAt, List.cons_append, List.nil_append, List.getD_cons_zero, List.getD_cons_succ, u8_ofNat_toNat (show 224 + c / 4096 < 256 by omega), u8_ofNat_toNat (show 128 + c / 64 % 64 < 256 by omega), u8_ofNat_toNat (show 128 + c % 64 < 256 by omega)]
        simp only [Nat.reduceEqDiff, if_true, if_false]
        omega
      · rw [hl, if_neg (by omega), if_neg (by omega), if_neg (by omega), if_neg h3]
        simp only [valN, byteAt, List.cons_append, List.nil_append, List.getD_cons_zero, List.getD_cons_succ, u8_ofNat_toNat (show 240 + c / 262144 < 256 by omega), u8_ofNat_toNat (show 128 + c / 4096 % 64 < 256 by omega), u8_ofNat_toNat (show 128 + c / 64 % 64 < 256 by omega), u8_ofNat_toNat (show 128 + c % 64 < 256 by omega)]
        simp only [Nat.reduceEqDiff, if_false]
        omega

/-- The reference's test for n bytes, and what it means. -/
theorem ref_test {l : List UInt8} {n : Nat} (h1 : 1 ≤ n) :
    (lenC (valN n l) = n ∧ encC (valN n l) = l.take n) ↔ (firstP l).2 = n := by
  constructor
  · intro ⟨a, b⟩
    have hsc : scalarB (valN n l) = true := lenC_pos (by omega)
    have hs := (scalarB_iff _).1 hsc
    obtain ⟨c, hc⟩ := Int.eq_ofNat_of_zero_le hs.1
    rw [hc] at a b hsc
    have hf := firstP_enc (l.drop n) hsc
    have hb : encN c = l.take n := by simpa [encC] using b
    rw [hb, List.take_append_drop] at hf
    rw [hf]; exact a
  · intro h
    obtain ⟨a, b, c, d⟩ := firstP_some l (by omega)
    have hv := valN_enc (l.drop n) a
    rw [← d, h, List.take_append_drop, ← b, h] at hv
    rw [hv]
    exact ⟨by rw [← b, h], by rw [encC, Int.toNat_natCast, ← d, h]⟩
theorem ref_val {l : List UInt8} {n : Nat} (h1 : 1 ≤ n) (h : (firstP l).2 = n) : valN n l = (firstP l).1 := by
  obtain ⟨a, b, c, d⟩ := firstP_some l (by omega)
  have hv := valN_enc (l.drop n) a
  rw [← d, h, List.take_append_drop, ← b, h] at hv
  exact hv

/-! ### All scalar values of a string -/

def scanF : Nat → List UInt8 → List Int × Nat
  | 0, _ => ([], 0)
  | f + 1, l => if (firstP l).2 = 0 then ([], 0) else (((firstP l).1 : Int) :: (scanF f (l.drop (firstP l).2)).1, (firstP l).2 + (scanF f (l.drop (firstP l).2)).2)
def scanL (l : List UInt8) : List Int × Nat := scanF l.length l
def encAll (cs : List Int) : List UInt8 := cs.flatMap encC

theorem scanF_succ (f : Nat) (l : List UInt8) : scanF (f + 1) l = if (firstP l).2 = 0 then ([], 0) else (((firstP l).1 : Int) :: (scanF f (l.drop (firstP l).2)).1, (firstP l).2 + (scanF f (l.drop (firstP l).2)).2) := rfl
theorem scanF_more (f : Nat) : ∀ l : List UInt8, l.length ≤ f → scanF (f + 1) l = scanF f l := by
  induction f with
  | zero =>
    intro l h
    have : l = [] := List.eq_nil_of_length_eq_zero (by omega)
    subst this
    simp [scanF, firstP]
  | succ f ih =>
    intro l h
    rw [scanF_succ (f + 1) l, scanF_succ f l]
    by_cases h0 : (firstP l).2 = 0
    · rw [if_pos h0, if_pos h0]
    · rw [if_neg h0, if_neg h0, ih _ (by rw [List.length_drop]; omega)]
theorem scanF_eq (f : Nat) (l : List UInt8) (h : l.length ≤ f) : scanF f l = scanL l := by
  obtain ⟨d, rfl⟩ : ∃ d, f = l.length + d := ⟨f - l.length, by omega⟩
  clear h
  induction d with
  | zero => rfl
  | succ d ih => rw [← Nat.add_assoc, scanF_more _ _ (by omega)]; exact ih
theorem scanL_eq (l : List UInt8) : scanL l = if (firstP l).2 = 0 then ([], 0) else (((firstP l).1 : Int) :: (scanL (l.drop (firstP l).2)).1, (firstP l).2 + (scanL (l.drop (firstP l).2)).2) := by
  rw [← scanF_eq (l.length + 1) l (by omega), scanF_succ, scanF_eq l.length _ (by rw [List.length_drop]; omega)]

theorem scanL_le (f : Nat) : ∀ l : List UInt8, l.length ≤ f → (scanL l).2 ≤ l.length ∧ encAll (scanL l).1 = l.take (scanL l).2 ∧ ∀ c ∈ (scanL l).1, scalarB c = true := by
  induction f with
  | zero =>
    intro l h
    have : l = [] := List.eq_nil_of_length_eq_zero (by omega)
    subst this
    simp [scanL, scanF, encAll]
  | succ f ih =>
    intro l h
    rw [scanL_eq]
    by_cases h0 : (firstP l).2 = 0
    · rw [if_pos h0]; simp [encAll]
    · rw [if_neg h0]
      obtain ⟨a, b, c, d⟩ := firstP_some l h0
      obtain ⟨i1, i2, i3⟩ := ih (l.drop (firstP l).2) (by rw [List.length_drop]; omega)
      rw [List.length_drop] at i1
      refine ⟨by simp only; omega, ?_, ?_⟩
      · show encC _ ++ encAll _ = _
        rw [i2, encC, Int.toNat_natCast, ← d, List.take_add]
      · intro x hx
        rcases List.mem_cons.1 hx with rfl | hx
        · exact a
        · exact i3 x hx

theorem scanL_enc (cs : List Int) (t : List UInt8) (h : ∀ c ∈ cs, scalarB c = true) : scanL (encAll cs ++ t) = (cs ++ (scanL t).1, (encAll cs).length + (scanL t).2) := by
  induction cs with
  | nil => simp [encAll]
  | cons c cs ih =>
    have hc := h c (by simp)
    have hs := (scalarB_iff c).1 hc
    obtain ⟨n, rfl⟩ := Int.eq_ofNat_of_zero_le hs.1
    have hl := lenC_encC hc
    have hf := firstP_enc (encAll cs ++ t) hc
    have e : encAll ((n : Int) :: cs) ++ t = encN n ++ (encAll cs ++ t) := by simp [encAll, encC]
    have hn : (encN n).length = lenC n := by simpa [encC] using hl.1
    rw [e, scanL_eq, hf]
    simp only
    rw [if_neg (by omega), ← hn, List.drop_left, ih (fun x hx => h x (by simp [hx]))]
    simp only [List.cons_append, Prod.mk.injEq, true_and]
    simp [encAll, encC]; omega

theorem scanL_nil : scanL [] = ([], 0) := rfl
theorem scanL_all (cs : List Int) (h : ∀ c ∈ cs, scalarB c = true) : scanL (encAll cs) = (cs, (encAll cs).length) := by
  have := scanL_enc cs [] h
  simpa [scanL_nil] using this

/-- Decode: the scalar values, the position of the error, the error. -/
def decodeL (l : List UInt8) : List Int × Nat × Nat :=
  if 4096 < l.length then ([], 0, 7) else if (scanL l).2 < l.length then ([], (scanL l).2, 9) else ((scanL l).1, 0, 0)
/-- Encode: the bytes, the error. -/
def encodeL (cs : List Int) : List UInt8 × Nat :=
  if 4096 < cs.length then ([], 7) else if cs.all scalarB then (encAll cs, 0) else ([], 3)
end ND
