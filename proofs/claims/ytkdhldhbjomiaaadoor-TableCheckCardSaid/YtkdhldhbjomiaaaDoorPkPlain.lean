/-
  Plain mathematics of chapter 3 (compact numbers): no program in sight.
-/
import Derived.Laws.BitsAllLaws
import Derived.Laws.Bits64
import Derived.IntWalk
namespace ND
open Go

/-- The number that stands for an integer: 2v, or -2v-1. -/
def zz (v : Int) : Nat := if 0 ≤ v then (2 * v).toNat else (-2 * v - 1).toNat
def unzz (u : Nat) : Int := if u % 2 = 0 then ((u / 2 : Nat) : Int) else -((u / 2 : Nat) : Int) - 1

theorem unzz_zz (v : Int) : unzz (zz v) = v := by
  unfold unzz zz
  by_cases h : 0 ≤ v
  · rw [if_pos h, if_pos (by omega)]; omega
  · rw [if_neg h, if_neg (by omega)]; omega
theorem zz_unzz (u : Nat) : zz (unzz u) = u := by
  unfold unzz zz
  by_cases h : u % 2 = 0
  · rw [if_pos h, if_pos (by omega)]; omega
  · rw [if_neg h, if_neg (by omega)]; omega
theorem zz_lt {v : Int} (h0 : -9223372036854775808 ≤ v) (h1 : v ≤ 9223372036854775807) : zz v < 18446744073709551616 := by
  unfold zz; split <;> omega
theorem unzz_in {u : Nat} (h : u < 18446744073709551616) : -9223372036854775808 ≤ unzz u ∧ unzz u ≤ 9223372036854775807 := by
  unfold unzz; split <;> omega

/-- The bytes of a code: seven bits each, the lowest first; at most f + 1 of them. -/
def encU : Nat → Nat → List UInt8
  | 0, u => [UInt8.ofNat u]
  | f + 1, u => if u < 128 then [UInt8.ofNat u] else UInt8.ofNat (u % 128 + 128) :: encU f (u / 128)

/-- Reading a code: the error (0 if none), the number, how many bytes it has. i bytes have been read, u is their value. -/
def getU : List UInt8 → Nat → Nat → Nat × Nat × Nat
  | [], _, _ => (5, 0, 0)
  | c :: r, i, u =>
    if i = 9 ∧ 1 < c.toNat then (4, 0, 0)
    else if 128 ≤ c.toNat then getU r (i + 1) (u + c.toNat % 128 * 2 ^ (7 * i))
    else if c.toNat = 0 ∧ 0 < i then (4, 0, 0)
    else (0, u + c.toNat % 128 * 2 ^ (7 * i), i + 1)

def finU (p : Int) (r : Nat × Nat × Nat) : Int × Int × Int := if r.1 = 0 then (unzz r.2.1, p + r.2.2, 0) else (0, p, r.1)
def getInt (s : List UInt8) (p : Int) : Int × Int × Int := if p < 0 ∨ (s.length : Int) < p then (0, p, 3) else finU p (getU (s.drop p.toNat) 0 0)
def putInt (b : List UInt8) (v : Int) : List UInt8 := b ++ encU 9 (zz v)

theorem encU_succ (f u : Nat) : encU (f + 1) u = if u < 128 then [UInt8.ofNat u] else UInt8.ofNat (u % 128 + 128) :: encU f (u / 128) := rfl
theorem encU_len (f u : Nat) : 1 ≤ (encU f u).length ∧ (encU f u).length ≤ f + 1 := by
  induction f generalizing u with
  | zero => simp [encU]
  | succ f ih =>
    unfold encU; split
    · simp
    · have := ih (u / 128); simp; omega

theorem pow7 (i : Nat) : 2 ^ (7 * (i + 1)) = 128 * 2 ^ (7 * i) := by
  rw [Nat.mul_add, Nat.pow_add]; omega

theorem u8_ofNat_toNat {n : Nat} (h : n < 256) : (UInt8.ofNat n).toNat = n := by
  simp; omega

/-- What was written is read: i bytes ahead of it, with the value u0. -/
theorem getU_encU (f : Nat) : ∀ (u i u0 : Nat) (t : List UInt8), i + f = 9 → u * 2 ^ (7 * i) < 18446744073709551616 → (0 < i → 0 < u) →
    getU (encU f u ++ t) i u0 = (0, u0 + u * 2 ^ (7 * i), i + (encU f u).length) := by
  induction f with
  | zero =>
    intro u i u0 t hi hb hp
    have h9 : i = 9 := by omega
    subst h9
    have hu : u < 2 := by omega
    have e : (UInt8.ofNat u).toNat = u := u8_ofNat_toNat (by omega)
    have hp' := hp (by omega)
    have : u = 1 := by omega
    subst this
    simp [encU, getU]
  | succ f ih =>
    intro u i u0 t hi hb hp
    by_cases h : u < 128
    · have e : (UInt8.ofNat u).toNat = u := u8_ofNat_toNat (by omega)
      have hz : ¬(u = 0 ∧ 0 < i) := by intro ⟨a, b⟩; have := hp b; omega
      simp only [encU, if_pos h, List.cons_append, List.nil_append, getU, e]
      rw [if_neg (by omega), if_neg (by omega), if_neg hz, Nat.mod_eq_of_lt h]
      simp
    · have e : (UInt8.ofNat (u % 128 + 128)).toNat = u % 128 + 128 := u8_ofNat_toNat (by omega)
      simp only [encU, if_neg h, List.cons_append, getU, e]
      rw [if_neg (by omega), if_pos (by omega)]
      have hm : (u % 128 + 128) % 128 = u % 128 := by omega
      rw [hm]
      have hq : u / 128 * 2 ^ (7 * (i + 1)) = (128 * (u / 128)) * 2 ^ (7 * i) := by
        rw [pow7, ← Nat.mul_assoc, Nat.mul_comm (u / 128) 128]
      have hsum : u * 2 ^ (7 * i) = u % 128 * 2 ^ (7 * i) + (128 * (u / 128)) * 2 ^ (7 * i) := by
        rw [← Nat.add_mul]; congr 1; omega
      rw [ih (u / 128) (i + 1) _ t (by omega) (by omega) (by omega)]
      simp only [Prod.mk.injEq, List.length_cons, true_and]
      exact ⟨by omega, by omega⟩

theorem getInt_putInt (b t : List UInt8) (v : Int) (h0 : -9223372036854775808 ≤ v) (h1 : v ≤ 9223372036854775807) :
    getInt (putInt b v ++ t) b.length = (v, (((putInt b v).length : Nat) : Int), 0) := by
  have hz := zz_lt h0 h1
  unfold getInt putInt
  rw [if_neg (by simp; omega)]
  have hd : (b ++ encU 9 (zz v) ++ t).drop ((b.length : Int)).toNat = encU 9 (zz v) ++ t := by
    rw [Int.toNat_natCast, List.append_assoc, List.drop_left]
  rw [hd, getU_encU 9 (zz v) 0 0 t rfl (by simpa using hz) (by omega)]
  simp only [finU, if_true]
  simp [unzz_zz]

/-- A code that is read is the one that is written. -/
theorem encU_getU (l : List UInt8) : ∀ (i u0 : Nat), i ≤ 9 → (getU l i u0).1 = 0 →
    ∃ u, (getU l i u0).2.1 = u0 + u * 2 ^ (7 * i) ∧ u * 2 ^ (7 * i) < 18446744073709551616 ∧ (0 < i → 0 < u) ∧ i < (getU l i u0).2.2 ∧ (getU l i u0).2.2 - i ≤ l.length ∧
      l.take ((getU l i u0).2.2 - i) = encU (9 - i) u := by
  induction l with
  | nil => intro i u0 hi h; simp [getU] at h
  | cons c r ih =>
    intro i u0 hi h
    have hc : c.toNat < 256 := c.toNat_lt
    have hco : UInt8.ofNat c.toNat = c := by simp
    unfold getU at h ⊢
    by_cases h9 : i = 9 ∧ 1 < c.toNat
    · rw [if_pos h9] at h; simp at h
    · rw [if_neg h9] at h ⊢
      by_cases h128 : 128 ≤ c.toNat
      · rw [if_pos h128] at h ⊢
        have hi9 : i ≠ 9 := by omega
        obtain ⟨u, e1, e2, e3, e4, e5, e6⟩ := ih (i + 1) _ (by omega) h
        have hu := e3 (by omega)
        have hq : u * 2 ^ (7 * (i + 1)) = (128 * u) * 2 ^ (7 * i) := by
          rw [pow7, ← Nat.mul_assoc, Nat.mul_comm u 128]
        have hs : (c.toNat % 128 + 128 * u) * 2 ^ (7 * i) = c.toNat % 128 * 2 ^ (7 * i) + (128 * u) * 2 ^ (7 * i) := Nat.add_mul _ _ _
        refine ⟨c.toNat % 128 + 128 * u, by rw [e1, hs]; omega, ?_, by omega, by omega, by simp; omega, ?_⟩
        · rw [hs]
          have hle : (128 * u + 127) * 2 ^ (7 * i) < 18446744073709551616 := by
            have hdv : 18446744073709551616 = 2 ^ (64 - 7 * (i + 1)) * 2 ^ (7 * (i + 1)) := by
              rw [← Nat.pow_add, Nat.sub_add_cancel (by omega)]
            rw [hdv] at e2
            have hlt : u < 2 ^ (64 - 7 * (i + 1)) := Nat.lt_of_mul_lt_mul_right e2
            have h1 : (u + 1) * 2 ^ (7 * (i + 1)) ≤ 2 ^ (64 - 7 * (i + 1)) * 2 ^ (7 * (i + 1)) := Nat.mul_le_mul_right _ hlt
            have h2 : (u + 1) * 2 ^ (7 * (i + 1)) = (128 * u + 127) * 2 ^ (7 * i) + 2 ^ (7 * i) := by
              rw [pow7, ← Nat.mul_assoc]; rw [show (u + 1) * 128 = (128 * u + 127) + 1 by omega, Nat.add_mul]; omega
            have h3 : 0 < 2 ^ (7 * i) := Nat.pow_pos (by omega)
            omega
          have : c.toNat % 128 * 2 ^ (7 * i) ≤ 127 * 2 ^ (7 * i) := Nat.mul_le_mul_right _ (by omega)
          rw [Nat.add_mul] at hle
          omega
        · have hk : (getU r (i + 1) (u0 + c.toNat % 128 * 2 ^ (7 * i))).2.2 - i = ((getU r (i + 1) (u0 + c.toNat % 128 * 2 ^ (7 * i))).2.2 - (i + 1)) + 1 := by omega
          rw [hk, List.take_succ_cons, e6]
          have hf : 9 - i = (9 - (i + 1)) + 1 := by omega
          rw [hf]
          rw [encU_succ, if_neg (by omega)]
          have ha : (c.toNat % 128 + 128 * u) % 128 + 128 = c.toNat := by omega
          have hb : (c.toNat % 128 + 128 * u) / 128 = u := by omega
          rw [ha, hb, hco]
      · rw [if_neg h128] at h ⊢
        by_cases h0 : c.toNat = 0 ∧ 0 < i
        · rw [if_pos h0] at h; simp at h
        · rw [if_neg h0] at h ⊢
          have hm : c.toNat % 128 = c.toNat := Nat.mod_eq_of_lt (by omega)
          refine ⟨c.toNat, by rw [hm], ?_, by omega, by simp, by simp, ?_⟩
          · rcases Nat.lt_or_ge i 9 with hlt | hge
            · have h1 : c.toNat * 2 ^ (7 * i) ≤ 127 * 2 ^ 56 := Nat.mul_le_mul (by omega) (Nat.pow_le_pow_right (by omega) (by omega))
              exact Nat.lt_of_le_of_lt h1 (by decide)
            · have : i = 9 := by omega
              subst this
              have h1 : c.toNat * 2 ^ (7 * 9) ≤ 1 * 2 ^ (7 * 9) := Nat.mul_le_mul_right _ (by omega)
              exact Nat.lt_of_le_of_lt h1 (by decide)
          · have hk : (0, u0 + c.toNat % 128 * 2 ^ (7 * i), i + 1).2.2 - i = 1 := by simp
            rw [hk]
            show [c] = _
            cases hx : 9 - i with
            | zero => simp [encU, hco]
            | succ f => unfold encU; rw [if_pos (by omega), hco]

/-- A beginning of a code, and nothing more, is too short. -/
theorem getU_short (f : Nat) : ∀ (u i u0 k : Nat), i + f = 9 → u * 2 ^ (7 * i) < 18446744073709551616 → k < (encU f u).length → getU ((encU f u).take k) i u0 = (5, 0, 0) := by
  induction f with
  | zero =>
    intro u i u0 k hi hb hk
    have : k = 0 := by simp [encU] at hk; omega
    subst this; simp [getU]
  | succ f ih =>
    intro u i u0 k hi hb hk
    cases k with
    | zero => simp [getU]
    | succ k =>
      by_cases h : u < 128
      · simp [encU, h] at hk
      · have e : (UInt8.ofNat (u % 128 + 128)).toNat = u % 128 + 128 := u8_ofNat_toNat (by omega)
        simp only [encU, if_neg h, List.take_succ_cons, getU, e, List.length_cons] at hk ⊢
        rw [if_neg (by omega), if_pos (by omega)]
        refine ih _ _ _ _ (by omega) ?_ (by omega)
        have hq : u / 128 * 2 ^ (7 * (i + 1)) = (128 * (u / 128)) * 2 ^ (7 * i) := by
          rw [pow7, ← Nat.mul_assoc, Nat.mul_comm (u / 128) 128]
        have hsum : u * 2 ^ (7 * i) = u % 128 * 2 ^ (7 * i) + (128 * (u / 128)) * 2 ^ (7 * i) := by
          rw [← Nat.add_mul]; congr 1; omega
        omega

theorem getU_err (l : List UInt8) : ∀ i u, (getU l i u).1 = 0 ∨ (getU l i u).1 = 4 ∨ (getU l i u).1 = 5 := by
  induction l with
  | nil => intro i u; simp [getU]
  | cons c r ih => intro i u; unfold getU; split; · simp
                   split; · exact ih _ _
                   split <;> simp

end ND
