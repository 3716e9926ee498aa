/-
  What is read of spans, step by step: no program in sight.
-/
import Derived.Test.YtmbphpocbajlmaaPkListPlain
namespace ND
open Go

/-- What is made of the spans so far and of what is still to come. -/
def finS (at_ : Int) (acc : List Sp) (q : Int × List Sp × Int) : List Sp × Int × Int := if q.1 ≠ 0 then ([], at_, q.1) else (acc ++ q.2.1, q.2.2, 0)
section
variable {s : List UInt8} {at_ p n q e d q2 d2 e2 q3 d3 e3 last gap : Int} {m : Nat} {acc : List Sp}
theorem getSpans_err (h : getInt s p = (n, q, e)) (he : e ≠ 0) : getSpans s p = ([], p, e) := by unfold getSpans; rw [h, if_pos he]
theorem getSpans_form (h : getInt s p = (n, q, 0)) (hn : n < 0 ∨ 256 < n) : getSpans s p = ([], p, 4) := by unfold getSpans; rw [h]; simp only [ne_eq, not_true_eq_false, if_false]; rw [if_pos hn]
theorem getSpans_go {n : Nat} (h : getInt s p = ((n : Int), q, 0)) (hn : n ≤ 256) : getSpans s p = finS p [] (getS s n 0 0 q) := by
  unfold getSpans; rw [h]; simp only [ne_eq, not_true_eq_false, if_false, Int.toNat_natCast]; rw [if_neg (by omega)]; unfold finS; simp
theorem finS_e1 (h : getInt s p = (d, q, e)) (he : e ≠ 0) : finS at_ acc (getS s (m + 1) last gap p) = ([], at_, e) := by
  unfold finS; simp only [getS, h, if_pos he]
theorem finS_f1 (h : getInt s p = (d, q, 0)) (hb : d < gap ∨ 1114111 - last < d) : finS at_ acc (getS s (m + 1) last gap p) = ([], at_, 4) := by
  unfold finS; simp [getS, h, hb]
theorem finS_e2 (h : getInt s p = (d, q, 0)) (h1 : gap ≤ d) (h2 : d ≤ 1114111 - last) (g : getInt s q = (d2, q2, e2)) (he : e2 ≠ 0) : finS at_ acc (getS s (m + 1) last gap p) = ([], at_, e2) := by
  have c1 : ¬(d < gap ∨ 1114111 - last < d) := by omega
  unfold finS; simp [getS, h, g, if_neg c1, he]
theorem finS_f2 (h : getInt s p = (d, q, 0)) (_h1 : gap ≤ d) (_h2 : d ≤ 1114111 - last) (g : getInt s q = (d2, q2, 0)) (hb : d2 < 0 ∨ 1114111 - (last + d) < d2) : finS at_ acc (getS s (m + 1) last gap p) = ([], at_, 4) := by
  unfold finS; simp [getS, h, g, hb]
theorem finS_e3 (h : getInt s p = (d, q, 0)) (h1 : gap ≤ d) (h2 : d ≤ 1114111 - last) (g : getInt s q = (d2, q2, 0)) (g1 : 0 ≤ d2) (g2 : d2 ≤ 1114111 - (last + d)) (f : getInt s q2 = (d3, q3, e3)) (he : e3 ≠ 0) :
    finS at_ acc (getS s (m + 1) last gap p) = ([], at_, e3) := by
  have c1 : ¬(d < gap ∨ 1114111 - last < d) := by omega
  have c2 : ¬(d2 < 0 ∨ 1114111 - (last + d) < d2) := by omega
  unfold finS; simp [getS, h, g, f, if_neg c1, if_neg c2, he]
theorem finS_f3 (h : getInt s p = (d, q, 0)) (_h1 : gap ≤ d) (_h2 : d ≤ 1114111 - last) (g : getInt s q = (d2, q2, 0)) (_g1 : 0 ≤ d2) (_g2 : d2 ≤ 1114111 - (last + d)) (f : getInt s q2 = (d3, q3, 0)) (hb : fitsB d3 = false) :
    finS at_ acc (getS s (m + 1) last gap p) = ([], at_, 4) := by
  unfold finS; simp [getS, h, g, f, hb]
theorem finS_go (h : getInt s p = (d, q, 0)) (h1 : gap ≤ d) (h2 : d ≤ 1114111 - last) (g : getInt s q = (d2, q2, 0)) (g1 : 0 ≤ d2) (g2 : d2 ≤ 1114111 - (last + d)) (f : getInt s q2 = (d3, q3, 0)) (hb : fitsB d3 = true) :
    finS at_ acc (getS s (m + 1) last gap p) = finS at_ (acc ++ [(last + d, last + d + d2, d3)]) (getS s m (last + d + d2) 1 q3) := by
  have c1 : ¬(d < gap ∨ 1114111 - last < d) := by omega
  have c2 : ¬(d2 < 0 ∨ 1114111 - (last + d) < d2) := by omega
  unfold finS
  by_cases hx : (getS s m (last + d + d2) 1 q3).1 = 0
  · simp [getS, h, g, f, if_neg c1, if_neg c2, hb, hx]
  · simp [getS, h, g, f, if_neg c1, if_neg c2, hb, hx]
theorem finS_end : finS at_ acc (getS s 0 last gap p) = (acc, p, 0) := by unfold finS; simp [getS]
end
end ND
