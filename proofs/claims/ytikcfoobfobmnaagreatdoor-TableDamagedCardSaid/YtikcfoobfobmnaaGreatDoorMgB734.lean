/-
  Merged texts: lemmas and walks that the last text of this claim leans on.
-/
import Derived.Test.YtikcfoobfobmnaaGreatDoorMgB733
import Derived.Test.YtikcfoobfobmnaaGreatDoorMgB731
import Derived.Test.YtikcfoobfobmnaaGreatDoorMgB75
/-
  Reading tables, in plain Lean: what was written is read, and what is read was written.
-/
namespace Go.Proofs.YtikcfoobfobmnaaGreatDoor
open Go.RowKit ND

/-! ### What is read was written -/
theorem getInt_back {s : List UInt8} {p v q : Int} (h : getInt s p = (v, q, 0)) : ∃ a b : Nat, p = a ∧ q = b ∧ a < b ∧ b ≤ s.length ∧ putInt (s.take a) v = s.take b ∧ inI64 v := by
  unfold getInt at h
  by_cases hp : p < 0 ∨ (s.length : Int) < p
  · rw [if_pos hp] at h; simp at h
  · rw [if_neg hp] at h
    obtain ⟨a, rfl⟩ : ∃ a : Nat, p = a := ⟨p.toNat, by omega⟩
    rw [Int.toNat_natCast] at h
    unfold finU at h
    by_cases h0 : (getU (s.drop a) 0 0).1 = 0
    · rw [if_pos h0] at h
      obtain ⟨u, e1, e2, _, e4, e5, e6⟩ := encU_getU (s.drop a) 0 0 (by omega) h0
      simp only [Nat.mul_zero, Nat.pow_zero, Nat.mul_one, Nat.zero_add, Nat.sub_zero] at e1 e2 e5 e6
      simp only [Prod.mk.injEq] at h
      obtain ⟨hv, hq, _⟩ := h
      rw [List.length_drop] at e5
      refine ⟨a, a + (getU (s.drop a) 0 0).2.2, rfl, by omega, by omega, by omega, ?_, ?_⟩
      · unfold putInt
        rw [← hv, e1, zz_unzz, ← e6, List.take_add]
      · rw [← hv, e1]; exact unzz_in e2
    · rw [if_neg h0] at h
      simp only [Prod.mk.injEq] at h
      omega

theorem getL_back (s : List UInt8) : ∀ (n : Nat) (last p : Int) (l : List Int) (q : Int) (a : Nat), p = a → a ≤ s.length → getL s n last p = (0, l, q) →
    ∃ b : Nat, q = b ∧ a ≤ b ∧ b ≤ s.length ∧ l.length = n ∧ putAll (s.take a) (diffs last l) = s.take b ∧ ∀ v ∈ l, fitsB v = true
  | 0, last, p, l, q, a, hp, ha, h => by
    simp only [getL, Prod.mk.injEq] at h
    obtain ⟨_, rfl, rfl⟩ := h
    exact ⟨a, hp, by omega, ha, rfl, rfl, by simp⟩
  | n + 1, last, p, l, q, a, hp, ha, h => by
    obtain ⟨v, q1, e1, hg⟩ : ∃ v q1 e1, getInt s p = (v, q1, e1) := ⟨_, _, _, rfl⟩
    unfold getL at h
    rw [hg] at h
    simp only at h
    by_cases he : e1 = 0
    · subst he
      rw [if_neg (by simp)] at h
      by_cases ho : okD last v = false
      · rw [if_pos ho] at h; simp at h
      · rw [if_neg ho] at h
        obtain ⟨e2, l2, q2, h2⟩ : ∃ e2 l2 q2, getL s n (last + v) q1 = (e2, l2, q2) := ⟨_, _, _, rfl⟩
        rw [h2] at h
        simp only at h
        by_cases he2 : e2 = 0
        · subst he2
          rw [if_neg (by simp)] at h
          simp only [Prod.mk.injEq, true_and] at h
          obtain ⟨rfl, rfl⟩ := h
          obtain ⟨a', b', ea, eb, hlt, hle, hput, _⟩ := getInt_back hg
          obtain rfl : a' = a := by omega
          obtain ⟨b, e, g1, g2, g3, g4, g5⟩ := getL_back s n (last + v) q1 l2 q2 b' eb hle h2
          refine ⟨b, e, by omega, g2, by simp [g3], ?_, ?_⟩
          · rw [diffs, show last + v - last = v by omega, putAll_cons, hput, g4]
          · intro x hx
            rcases List.mem_cons.1 hx with rfl | hx
            · have h9 := eq_true_of_ne_false ho
              unfold okD at h9
              rw [Bool.and_eq_true] at h9
              exact h9.2
            · exact g5 x hx
        · rw [if_pos he2] at h
          simp only [Prod.mk.injEq] at h
          exact absurd h.1 he2
    · rw [if_pos he] at h
      simp only [Prod.mk.injEq] at h
      exact absurd h.1 he

theorem getList_back {s : List UInt8} {p q : Int} {l : List Int} (h : getList s p = (l, q, 0)) : ∃ a b : Nat, p = a ∧ q = b ∧ a < b ∧ b ≤ s.length ∧ putList (s.take a) l = (s.take b, 0) := by
  obtain ⟨v, q1, e1, hg⟩ : ∃ v q1 e1, getInt s p = (v, q1, e1) := ⟨_, _, _, rfl⟩
  unfold getList at h
  rw [hg] at h
  simp only at h
  by_cases he : e1 = 0
  · subst he
    rw [if_neg (by simp)] at h
    by_cases ho : v < 0 ∨ 4096 < v
    · rw [if_pos ho] at h; simp at h
    · rw [if_neg ho] at h
      obtain ⟨e2, l2, q2, h2⟩ : ∃ e2 l2 q2, getL s v.toNat 0 q1 = (e2, l2, q2) := ⟨_, _, _, rfl⟩
      rw [h2] at h
      simp only at h
      by_cases he2 : e2 = 0
      · subst he2
        rw [if_neg (by simp)] at h
        simp only [Prod.mk.injEq, and_true] at h
        obtain ⟨rfl, rfl⟩ := h
        obtain ⟨a, b', ea, eb, hlt, hle, hput, _⟩ := getInt_back hg
        obtain ⟨b, e, g1, g2, g3, g4, g5⟩ := getL_back s _ 0 q1 l2 q2 b' eb hle h2
        refine ⟨a, b, ea, e, by omega, g2, ?_⟩
        have hv : (l2.length : Int) = v := by omega
        rw [(getList_putList _ [] l2 (by omega) g5).1, hv, hput, g4]
      · rw [if_pos he2] at h
        simp only [Prod.mk.injEq] at h
        exact absurd h.2.2 he2
  · rw [if_pos he] at h
    simp only [Prod.mk.injEq] at h
    exact absurd h.2.2 he

theorem getS_back (s : List UInt8) : ∀ (n : Nat) (last lst gap p : Int) (l : List Sp) (q : Int) (a : Nat), p = a → a ≤ s.length → (last = -1 ∧ lst = 0 ∧ gap = 0 ∨ 0 ≤ last ∧ last ≤ 1114111 ∧ lst = last ∧ gap = 1) → getS s n lst gap p = (0, l, q) →
    ∃ b : Nat, q = b ∧ a ≤ b ∧ b ≤ s.length ∧ l.length = n ∧ putAll (s.take a) (nums lst l) = s.take b ∧ okS 0 1114111 last l = true ∧ ∀ v ∈ l, fitsB v.2.2 = true
  | 0, last, lst, gap, p, l, q, a, hp, ha, hl, h => by
    simp only [getS, Prod.mk.injEq] at h
    obtain ⟨_, rfl, rfl⟩ := h
    exact ⟨a, hp, by omega, ha, rfl, rfl, rfl, by simp⟩
  | n + 1, last, lst, gap, p, l, q, a, hp, ha, hl, h => by
    obtain ⟨v, q1, e1, hg⟩ : ∃ v q1 e1, getInt s p = (v, q1, e1) := ⟨_, _, _, rfl⟩
    unfold getS at h
    rw [hg] at h
    simp only at h
    by_cases he : e1 = 0
    · subst he
      rw [if_neg (by simp)] at h
      by_cases ho : v < gap ∨ 1114111 - lst < v
      · rw [if_pos ho] at h; simp at h
      · rw [if_neg ho] at h
        obtain ⟨v2, q2, e2, hg2⟩ : ∃ v q e, getInt s q1 = (v, q, e) := ⟨_, _, _, rfl⟩
        rw [hg2] at h
        simp only at h
        by_cases he2 : e2 = 0
        · subst he2
          rw [if_neg (by simp)] at h
          by_cases ho2 : v2 < 0 ∨ 1114111 - (lst + v) < v2
          · rw [if_pos ho2] at h; simp at h
          · rw [if_neg ho2] at h
            obtain ⟨v3, q3, e3, hg3⟩ : ∃ v q e, getInt s q2 = (v, q, e) := ⟨_, _, _, rfl⟩
            rw [hg3] at h
            simp only at h
            by_cases he3 : e3 = 0
            · subst he3
              rw [if_neg (by simp)] at h
              by_cases ho3 : fitsB v3 = false
              · rw [if_pos ho3] at h; simp at h
              · rw [if_neg ho3] at h
                obtain ⟨e4, l4, q4, h4⟩ : ∃ e l q, getS s n (lst + v + v2) 1 q3 = (e, l, q) := ⟨_, _, _, rfl⟩
                rw [h4] at h
                simp only at h
                by_cases he4 : e4 = 0
                · subst he4
                  rw [if_neg (by simp)] at h
                  simp only [Prod.mk.injEq, true_and] at h
                  obtain ⟨rfl, rfl⟩ := h
                  obtain ⟨a', b1, ea, eb1, hlt1, _, hput1, _⟩ := getInt_back hg
                  obtain rfl : a' = a := by omega
                  obtain ⟨c1, b2, ec1, eb2, hlt2, _, hput2, _⟩ := getInt_back hg2
                  obtain rfl : c1 = b1 := by omega
                  obtain ⟨c2, b3, ec2, eb3, hlt3, hle3, hput3, _⟩ := getInt_back hg3
                  obtain rfl : c2 = b2 := by omega
                  obtain ⟨b, e, g1, g2, g3, g4, g5, g6⟩ := getS_back s n (lst + v + v2) (lst + v + v2) 1 q3 l4 q4 b3 eb3 hle3 (.inr ⟨by omega, by omega, rfl, rfl⟩) h4
                  refine ⟨b, e, by omega, g2, by simp [g3], ?_, ?_, ?_⟩
                  · simp only [nums]
                    rw [show lst + v - lst = v by omega, show lst + v + v2 - (lst + v) = v2 by omega, putAll_cons, putAll_cons, putAll_cons, hput1, hput2, hput3, g4]
                  · exact okS_cons.2 ⟨by simp only; omega, g5⟩
                  · intro x hx
                    rcases List.mem_cons.1 hx with rfl | hx
                    · exact eq_true_of_ne_false ho3
                    · exact g6 x hx
                · rw [if_pos he4] at h
                  simp only [Prod.mk.injEq] at h
                  exact absurd h.1 he4
            · rw [if_pos he3] at h
              simp only [Prod.mk.injEq] at h
              exact absurd h.1 he3
        · rw [if_pos he2] at h
          simp only [Prod.mk.injEq] at h
          exact absurd h.1 he2
    · rw [if_pos he] at h
      simp only [Prod.mk.injEq] at h
      exact absurd h.1 he

theorem getSpans_back {s : List UInt8} {p q : Int} {l : List Sp} (h : getSpans s p = (l, q, 0)) : ∃ a b : Nat, p = a ∧ q = b ∧ a < b ∧ b ≤ s.length ∧ putSpans (s.take a) l = (s.take b, 0) := by
  obtain ⟨v, q1, e1, hg⟩ : ∃ v q1 e1, getInt s p = (v, q1, e1) := ⟨_, _, _, rfl⟩
  unfold getSpans at h
  rw [hg] at h
  simp only at h
  by_cases he : e1 = 0
  · subst he
    rw [if_neg (by simp)] at h
    by_cases ho : v < 0 ∨ 256 < v
    · rw [if_pos ho] at h; simp at h
    · rw [if_neg ho] at h
      obtain ⟨e2, l2, q2, h2⟩ : ∃ e2 l2 q2, getS s v.toNat 0 0 q1 = (e2, l2, q2) := ⟨_, _, _, rfl⟩
      rw [h2] at h
      simp only at h
      by_cases he2 : e2 = 0
      · subst he2
        rw [if_neg (by simp)] at h
        simp only [Prod.mk.injEq, and_true] at h
        obtain ⟨rfl, rfl⟩ := h
        obtain ⟨a, b', ea, eb, hlt, hle, hput, _⟩ := getInt_back hg
        obtain ⟨b, e, g1, g2, g3, g4, g5, g6⟩ := getS_back s _ (-1) 0 0 q1 l2 q2 b' eb hle (.inl ⟨rfl, rfl, rfl⟩) h2
        refine ⟨a, b, ea, e, by omega, g2, ?_⟩
        have hv : (l2.length : Int) = v := by omega
        have hc : checkS l2 0 1114111 = true := by
          unfold checkS; rw [g5, Bool.true_and, decide_eq_true_eq]; omega
        rw [(getSpans_putSpans _ [] l2 hc g6).1, hv, hput, g4]
      · rw [if_pos he2] at h
        simp only [Prod.mk.injEq] at h
        exact absurd h.2.2 he2
  · rw [if_pos he] at h
    simp only [Prod.mk.injEq] at h
    exact absurd h.2.2 he

/-! ### Rows of mappings -/
/-- Mappings that are read: the error, the mappings, the index behind them. -/
def getR (s : List UInt8) : Nat → Int → Int × List Mp × Int
  | 0, p => (0, [], p)
  | n + 1, p =>
    if (getInt s p).2.2 ≠ 0 then ((getInt s p).2.2, [], 0)
    else if (getList s (getInt s p).2.1).2.2 ≠ 0 then ((getList s (getInt s p).2.1).2.2, [], 0)
    else if (getR s n (getList s (getInt s p).2.1).2.1).1 ≠ 0 then ((getR s n (getList s (getInt s p).2.1).2.1).1, [], 0)
    else (0, ((getInt s p).1, (getList s (getInt s p).2.1).1) :: (getR s n (getList s (getInt s p).2.1).2.1).2.1, (getR s n (getList s (getInt s p).2.1).2.1).2.2)
def finR (at_ : Int) (acc : List Mp) (q : Int × List Mp × Int) : List Mp × Int × Int := if q.1 ≠ 0 then ([], at_, q.1) else (acc ++ q.2.1, q.2.2, 0)
def getMaps (s : List UInt8) (p : Int) : List Mp × Int × Int :=
  if (getInt s p).2.2 ≠ 0 then ([], p, (getInt s p).2.2)
  else if (getInt s p).1 < 0 ∨ 256 < (getInt s p).1 then ([], p, 4)
  else finR p [] (getR s (getInt s p).1.toNat (getInt s p).2.1)
section
variable {s : List UInt8} {at_ p n q e d : Int} {m : Nat} {acc : List Mp} {xs : List Int}
theorem getMaps_err (h : getInt s p = (n, q, e)) (he : e ≠ 0) : getMaps s p = ([], p, e) := by unfold getMaps; rw [h, if_pos he]
theorem getMaps_form (h : getInt s p = (n, q, 0)) (hn : n < 0 ∨ 256 < n) : getMaps s p = ([], p, 4) := by unfold getMaps; rw [h]; simp only [ne_eq, not_true_eq_false, if_false]; rw [if_pos hn]
theorem getMaps_go {n : Nat} (h : getInt s p = ((n : Int), q, 0)) (hn : n ≤ 256) : getMaps s p = finR p [] (getR s n q) := by
  unfold getMaps; rw [h]; simp only [ne_eq, not_true_eq_false, if_false, Int.toNat_natCast]; rw [if_neg (by omega)]
theorem finR_e1 (h : getInt s p = (d, q, e)) (he : e ≠ 0) : finR at_ acc (getR s (m + 1) p) = ([], at_, e) := by
  unfold finR; simp only [getR, h, if_pos he]
theorem finR_e2 (h : getInt s p = (d, q, 0)) (g : getList s q = (xs, n, e)) (he : e ≠ 0) : finR at_ acc (getR s (m + 1) p) = ([], at_, e) := by
  unfold finR; simp [getR, h, g, he]
theorem finR_go (h : getInt s p = (d, q, 0)) (g : getList s q = (xs, n, 0)) : finR at_ acc (getR s (m + 1) p) = finR at_ (acc ++ [(d, xs)]) (getR s m n) := by
  unfold finR
  by_cases hx : (getR s m n).1 = 0
  · simp [getR, h, g, hx]
  · simp [getR, h, g, hx]
theorem finR_end : finR at_ acc (getR s 0 p) = (acc, p, 0) := by unfold finR; simp [getR]
end

theorem finR_back (s : List UInt8) : ∀ (n : Nat) (at_ p : Int) (acc l : List Mp) (q : Int) (a : Nat), p = a → a ≤ s.length → finR at_ acc (getR s n p) = (l, q, 0) →
    ∃ (b : Nat) (r : List Mp), q = b ∧ a ≤ b ∧ b ≤ s.length ∧ r.length = n ∧ l = acc ++ r ∧ r.foldl encRow (s.take a) = s.take b
  | 0, at_, p, acc, l, q, a, hp, ha, h => by
    rw [finR_end] at h
    simp only [Prod.mk.injEq] at h
    obtain ⟨rfl, rfl, _⟩ := h
    exact ⟨a, [], hp, by omega, ha, rfl, by simp, rfl⟩
  | n + 1, at_, p, acc, l, q, a, hp, ha, h => by
    obtain ⟨v, q1, e1, hg⟩ : ∃ v q1 e1, getInt s p = (v, q1, e1) := ⟨_, _, _, rfl⟩
    by_cases he : e1 = 0
    · subst he
      obtain ⟨xs, q2, e2, hg2⟩ : ∃ v q e, getList s q1 = (v, q, e) := ⟨_, _, _, rfl⟩
      by_cases he2 : e2 = 0
      · subst he2
        rw [finR_go hg hg2] at h
        obtain ⟨a', b', ea, eb, hlt, hle, hput, _⟩ := getInt_back hg
        obtain rfl : a' = a := by omega
        obtain ⟨c', b2, ec, eb2, hlt2, hle2, hput2⟩ := getList_back hg2
        obtain rfl : c' = b' := by omega
        obtain ⟨b, r, e, g1, g2, g3, g4, g5⟩ := finR_back s n at_ q2 _ l q b2 eb2 hle2 h
        refine ⟨b, (v, xs) :: r, e, by omega, g2, by simp [g3], by rw [g4, List.append_assoc]; rfl, ?_⟩
        rw [List.foldl_cons, encRow, hput, hput2]
        exact g5
      · rw [finR_e2 hg hg2 he2] at h
        simp only [Prod.mk.injEq] at h
        exact absurd h.2.2 he2
    · rw [finR_e1 hg he] at h
      simp only [Prod.mk.injEq] at h
      exact absurd h.2.2 he
theorem getMaps_back {s : List UInt8} {p q : Int} {l : List Mp} (h : getMaps s p = (l, q, 0)) : ∃ a b : Nat, p = a ∧ q = b ∧ a < b ∧ b ≤ s.length ∧ encMp (s.take a) l = s.take b := by
  obtain ⟨v, q1, e1, hg⟩ : ∃ v q1 e1, getInt s p = (v, q1, e1) := ⟨_, _, _, rfl⟩
  by_cases he : e1 = 0
  · subst he
    by_cases ho : v < 0 ∨ 256 < v
    · rw [getMaps_form hg ho] at h; simp at h
    · obtain ⟨m, rfl⟩ : ∃ m : Nat, v = m := ⟨v.toNat, by omega⟩
      rw [getMaps_go hg (by omega)] at h
      obtain ⟨a, b', ea, eb, hlt, hle, hput, _⟩ := getInt_back hg
      obtain ⟨b, r, e, g1, g2, g3, g4, g5⟩ := finR_back s m p q1 [] l q b' eb hle h
      rw [List.nil_append] at g4
      subst g4
      refine ⟨a, b, ea, e, by omega, g2, ?_⟩
      unfold encMp
      rw [g3, hput, g5]
  · rw [getMaps_err hg he] at h
    simp only [Prod.mk.injEq] at h
    exact absurd h.2.2 he

/-! ### What was written is read -/
theorem encRow_pre (m : Mp) (b : List UInt8) (h : m.2.length ≤ 4096) (h2 : ∀ v ∈ m.2, fitsB v = true) : ∃ e, encRow b m = b ++ e := by
  obtain ⟨e, he⟩ := putAll_pre (diffs 0 m.2) (putInt (putInt b m.1) m.2.length)
  refine ⟨encU 9 (zz m.1) ++ (encU 9 (zz m.2.length) ++ e), ?_⟩
  unfold encRow
  rw [(getList_putList _ [] m.2 h h2).1]
  simp only
  rw [he]; simp [putInt]
def RowOk (m : Mp) : Prop := inI64 m.1 ∧ m.2.length ≤ 4096 ∧ ∀ v ∈ m.2, fitsB v = true
theorem rows_pre : ∀ (l : List Mp) (b : List UInt8), (∀ m ∈ l, RowOk m) → ∃ e, l.foldl encRow b = b ++ e
  | [], b, _ => ⟨[], by simp⟩
  | m :: r, b, h => by
    have hm := h m List.mem_cons_self
    obtain ⟨e, he⟩ := encRow_pre m b hm.2.1 hm.2.2
    obtain ⟨f, hf⟩ := rows_pre r (encRow b m) fun x hx => h x (List.mem_cons_of_mem _ hx)
    exact ⟨e ++ f, by rw [List.foldl_cons, hf, he, List.append_assoc]⟩
theorem finR_fwd (s : List UInt8) : ∀ (l : List Mp) (at_ : Int) (acc : List Mp) (b t : List UInt8), (∀ m ∈ l, RowOk m) → s = l.foldl encRow b ++ t →
    finR at_ acc (getR s l.length b.length) = (acc ++ l, ((l.foldl encRow b).length : Int), 0)
  | [], at_, acc, b, t, _, _ => by rw [List.length_nil, finR_end]; simp
  | m :: r, at_, acc, b, t, h, hs => by
    have hm := h m List.mem_cons_self
    have hr := fun x hx => h x (List.mem_cons_of_mem m hx)
    obtain ⟨f, hf⟩ := rows_pre r (encRow b m) hr
    have hs2 : s = (putList (putInt b m.1) m.2).1 ++ (f ++ t) := by rw [hs, List.foldl_cons, hf, List.append_assoc]; rfl
    have g2 := (getList_putList (putInt b m.1) (f ++ t) m.2 hm.2.1 hm.2.2).2
    rw [← hs2] at g2
    have g1 : getInt s b.length = (m.1, (((putInt b m.1).length : Nat) : Int), 0) := by
      obtain ⟨e, he⟩ := putAll_pre (diffs 0 m.2) (putInt (putInt b m.1) m.2.length)
      have h3 : s = putInt b m.1 ++ (encU 9 (zz m.2.length) ++ e ++ (f ++ t)) := by
        rw [hs2, (getList_putList _ [] m.2 hm.2.1 hm.2.2).1]
        simp only
        rw [he]; simp [putInt]
      rw [h3]
      exact getInt_putInt b _ m.1 hm.1.1 hm.1.2
    rw [List.length_cons, finR_go g1 g2]
    have h4 := finR_fwd s r at_ (acc ++ [(m.1, m.2)]) (encRow b m) t hr (by rw [hs, List.foldl_cons])
    have e9 : (encRow b m) = (putList (putInt b m.1) m.2).1 := rfl
    rw [e9] at h4
    rw [h4, List.append_assoc]
    rfl
theorem encMp_pre (l : List Mp) (b : List UInt8) (h : ∀ m ∈ l, RowOk m) : ∃ e, encMp b l = b ++ e := by
  obtain ⟨e, he⟩ := rows_pre l (putInt b l.length) h
  exact ⟨encU 9 (zz l.length) ++ e, by unfold encMp; rw [he, putInt, List.append_assoc]⟩
theorem getMaps_fwd (b t : List UInt8) (l : List Mp) (hl : l.length ≤ 256) (h : ∀ m ∈ l, RowOk m) : getMaps (encMp b l ++ t) b.length = (l, ((encMp b l).length : Int), 0) := by
  obtain ⟨e, he⟩ := rows_pre l (putInt b l.length) h
  have g1 : getInt (encMp b l ++ t) b.length = ((l.length : Int), (((putInt b l.length).length : Nat) : Int), 0) := by
    have h3 : encMp b l ++ t = putInt b l.length ++ (e ++ t) := by unfold encMp; rw [he, List.append_assoc]
    rw [h3]
    exact getInt_putInt b _ _ (by omega) (by omega)
  rw [getMaps_go g1 hl, finR_fwd (encMp b l ++ t) l b.length [] (putInt b l.length) t h rfl]
  rfl

/-! ### The whole -/
def noT : Tab := ⟨[], [], [], [], [], [], [], [], [], [], [], []⟩
def mkT : List (List Sp) → List (List Mp) → List Int → Tab
  | [a0, a1, a2, a3, a4, a5, a6], [b0, b1, b2, b3], x => ⟨a0, a1, a2, a3, a4, a5, a6, b0, b1, b2, x, b3⟩
  | _, _, _ => noT
theorem mkT_of (T : Tab) : mkT (T.cols.map (·.1)) T.mps T.excluded = T := rfl
def contS (s : List UInt8) (p : Int) (T : Tab) : Tab × Int :=
  if (getInt s p).2.2 ≠ 0 then (noT, (getInt s p).2.2) else if (getInt s p).1 ≠ (sumL (s.take p.toNat) : Int) then (noT, 6) else if (getInt s p).2.1 < (s.length : Int) then (noT, 4) else if T.check ≠ 0 then (noT, 2) else (T, 0)
def contX (s : List UInt8) (p : Int) (cs : List (List Sp)) (ms : List (List Mp)) : Tab × Int :=
  if (getList s p).2.2 ≠ 0 then (noT, (getList s p).2.2) else contS s (getList s p).2.1 (mkT cs ms (getList s p).1)
def contM (s : List UInt8) : Nat → Int → List (List Sp) → List (List Mp) → Tab × Int
  | 0, p, cs, ms => contX s p cs ms
  | n + 1, p, cs, ms => if (getMaps s p).2.2 ≠ 0 then (noT, (getMaps s p).2.2) else contM s n (getMaps s p).2.1 cs (ms ++ [(getMaps s p).1])
def contC (s : List UInt8) : Nat → Int → List (List Sp) → Tab × Int
  | 0, p, cs => contM s 4 p cs []
  | n + 1, p, cs => if (getSpans s p).2.2 ≠ 0 then (noT, (getSpans s p).2.2) else contC s n (getSpans s p).2.1 (cs ++ [(getSpans s p).1])
/-- What Decode hands back. -/
def decTR (s : List UInt8) : Tab × Int := if 32768 < s.length then (noT, 7) else if s.length < 4 then (noT, 5) else if s.take 4 ≠ magicL then (noT, 4) else contC s 7 4 []
section
variable {s : List UInt8} {p q e v : Int} {n : Nat} {cs : List (List Sp)} {ms : List (List Mp)} {T : Tab} {l : List Sp} {m : List Mp} {xs : List Int}
theorem contC_err (h : getSpans s p = (l, q, e)) (he : e ≠ 0) : contC s (n + 1) p cs = (noT, e) := by rw [contC, h]; exact if_pos he
theorem contC_go (h : getSpans s p = (l, q, 0)) : contC s (n + 1) p cs = contC s n q (cs ++ [l]) := by rw [contC, h]; exact if_neg (by simp)
theorem contM_err (h : getMaps s p = (m, q, e)) (he : e ≠ 0) : contM s (n + 1) p cs ms = (noT, e) := by rw [contM, h]; exact if_pos he
theorem contM_go (h : getMaps s p = (m, q, 0)) : contM s (n + 1) p cs ms = contM s n q cs (ms ++ [m]) := by rw [contM, h]; exact if_neg (by simp)
theorem contX_err (h : getList s p = (xs, q, e)) (he : e ≠ 0) : contX s p cs ms = (noT, e) := by rw [contX, h]; exact if_pos he
theorem contX_go (h : getList s p = (xs, q, 0)) : contX s p cs ms = contS s q (mkT cs ms xs) := by rw [contX, h]; exact if_neg (by simp)
theorem contS_err (h : getInt s p = (v, q, e)) (he : e ≠ 0) : contS s p T = (noT, e) := by rw [contS, h]; exact if_pos he
theorem contS_sum (h : getInt s p = (v, q, 0)) (hv : v ≠ (sumL (s.take p.toNat) : Int)) : contS s p T = (noT, 6) := by rw [contS, h]; simp only [ne_eq, not_true_eq_false, if_false]; rw [if_pos hv]
theorem contS_form (h : getInt s p = (v, q, 0)) (hv : v = (sumL (s.take p.toNat) : Int)) (hq : q < (s.length : Int)) : contS s p T = (noT, 4) := by rw [contS, h]; simp only [ne_eq, not_true_eq_false, if_false]; rw [if_neg (by simp [hv]), if_pos hq]
theorem contS_bad (h : getInt s p = (v, q, 0)) (hv : v = (sumL (s.take p.toNat) : Int)) (hq : (s.length : Int) ≤ q) (hT : T.check ≠ 0) : contS s p T = (noT, 2) := by rw [contS, h]; simp only [ne_eq, not_true_eq_false, if_false]; rw [if_neg (by simp [hv]), if_neg (by omega), if_pos hT]
theorem contS_ok (h : getInt s p = (v, q, 0)) (hv : v = (sumL (s.take p.toNat) : Int)) (hq : (s.length : Int) ≤ q) (hT : T.check = 0) : contS s p T = (T, 0) := by rw [contS, h]; simp only [ne_eq, not_true_eq_false, if_false]; rw [if_neg (by simp [hv]), if_neg (by omega), if_neg (by simp [hT])]
theorem decTR_full (h : 32768 < s.length) : decTR s = (noT, 7) := by unfold decTR; rw [if_pos h]
theorem decTR_short (h : s.length < 4) : decTR s = (noT, 5) := by unfold decTR; rw [if_neg (by omega), if_pos h]
theorem decTR_form (h1 : s.length ≤ 32768) (h2 : 4 ≤ s.length) (h : s.take 4 ≠ magicL) : decTR s = (noT, 4) := by unfold decTR; rw [if_neg (by omega), if_neg (by omega), if_pos h]
theorem decTR_go (h1 : s.length ≤ 32768) (h2 : 4 ≤ s.length) (h : s.take 4 = magicL) : decTR s = contC s 7 4 [] := by unfold decTR; rw [if_neg (by omega), if_neg (by omega), if_neg (by simp [h])]
end

/-- The columns and the mappings of what is well-formed can be written and read. -/
def ColOk (l : List Sp) : Prop := checkS l 0 1114111 = true ∧ ∀ v ∈ l, fitsB v.2.2 = true
theorem encCols_pre : ∀ (l : List (List Sp)) (b : List UInt8), (∀ c ∈ l, ColOk c) → ∃ e, encCols b l = b ++ e
  | [], b, _ => ⟨[], by simp [encCols]⟩
  | c :: r, b, h => by
    have hc := h c List.mem_cons_self
    obtain ⟨f, hf⟩ := encCols_pre r (putSpans b c).1 fun x hx => h x (List.mem_cons_of_mem _ hx)
    have hp := (getSpans_putSpans b [] c hc.1 hc.2).1
    obtain ⟨e, he⟩ := putAll_pre (nums 0 c) (putInt b c.length)
    refine ⟨encU 9 (zz c.length) ++ e ++ f, ?_⟩
    show encCols (putSpans b c).1 r = _
    rw [hf, hp]
    simp only
    rw [he]; simp [putInt]
theorem contC_fwd (s : List UInt8) : ∀ (l : List (List Sp)) (n : Nat) (cs : List (List Sp)) (b t : List UInt8), (∀ c ∈ l, ColOk c) → s = encCols b l ++ t →
    contC s (l.length + n) b.length cs = contC s n (encCols b l).length (cs ++ l)
  | [], n, cs, b, t, _, _ => by simp [encCols]
  | c :: r, n, cs, b, t, h, hs => by
    have hc := h c List.mem_cons_self
    have hr := fun x hx => h x (List.mem_cons_of_mem c hx)
    obtain ⟨f, hf⟩ := encCols_pre r (putSpans b c).1 hr
    have hs1 : s = encCols (putSpans b c).1 r ++ t := hs
    have hs2 : s = (putSpans b c).1 ++ (f ++ t) := by rw [hs1, hf, List.append_assoc]
    have g := (getSpans_putSpans b (f ++ t) c hc.1 hc.2).2
    rw [← hs2] at g
    have h4 := contC_fwd s r n (cs ++ [c]) (putSpans b c).1 t hr hs1
    rw [List.length_cons, show r.length + 1 + n = (r.length + n) + 1 by omega, contC_go g, h4, List.append_assoc]
    rfl
theorem encMps_pre : ∀ (l : List (List Mp)) (b : List UInt8), (∀ c ∈ l, ∀ m ∈ c, RowOk m) → ∃ e, encMps b l = b ++ e
  | [], b, _ => ⟨[], by simp [encMps]⟩
  | c :: r, b, h => by
    obtain ⟨f, hf⟩ := encMps_pre r (encMp b c) fun x hx => h x (List.mem_cons_of_mem _ hx)
    obtain ⟨e, he⟩ := encMp_pre c b (h c List.mem_cons_self)
    exact ⟨e ++ f, by show encMps (encMp b c) r = _; rw [hf, he, List.append_assoc]⟩
theorem contM_fwd (s : List UInt8) (cs : List (List Sp)) : ∀ (l : List (List Mp)) (n : Nat) (ms : List (List Mp)) (b t : List UInt8), (∀ c ∈ l, c.length ≤ 256 ∧ ∀ m ∈ c, RowOk m) → s = encMps b l ++ t →
    contM s (l.length + n) b.length cs ms = contM s n (encMps b l).length cs (ms ++ l)
  | [], n, ms, b, t, _, _ => by simp [encMps]
  | c :: r, n, ms, b, t, h, hs => by
    have hc := h c List.mem_cons_self
    have hr := fun x hx => h x (List.mem_cons_of_mem c hx)
    obtain ⟨f, hf⟩ := encMps_pre r (encMp b c) fun x hx => (hr x hx).2
    have hs1 : s = encMps (encMp b c) r ++ t := hs
    have hs2 : s = encMp b c ++ (f ++ t) := by rw [hs1, hf, List.append_assoc]
    have g := getMaps_fwd b (f ++ t) c hc.1 hc.2
    rw [← hs2] at g
    have h4 := contM_fwd s cs r n (ms ++ [c]) (encMp b c) t hr hs1
    rw [List.length_cons, show r.length + 1 + n = (r.length + n) + 1 by omega, contM_go g, h4, List.append_assoc]
    rfl

theorem scrG_fits : ∀ {l : List Int} {last : Int}, scrG last l = true → ∀ v ∈ l, 3 ≤ v ∧ v ≤ 60
  | [], _, _ => by simp
  | a :: r, last, h => by
    rw [scrG, Bool.and_eq_true, decide_eq_true_eq] at h
    intro v hv
    rcases List.mem_cons.1 hv with rfl | hv
    · omega
    · exact scrG_fits h.2 v hv
theorem toB_fits {x : Bool} {m : Mp} (h : toB x m = true) : m.2.length ≤ 18 ∧ ∀ v ∈ m.2, fitsB v = true := by
  obtain ⟨_, h1, h2⟩ := toB_iff.1 h
  refine ⟨h1, fun v hv => (fitsB_iff v).2 ?_⟩
  cases x
  · have := List.all_eq_true.1 h2 v hv
    have := (scalarB_iff v).1 this
    omega
  · have := scrG_fits h2 v hv
    omega
theorem row_ok {p : Bool} {x : Bool} {l : List Mp} (hk : keysB p (-1) (keysOf l) = true) (ht : l.all (toB x) = true) : ∀ m ∈ l, RowOk m := by
  intro m hm
  have h1 := keysB_at hk m.1 (List.mem_map_of_mem hm)
  have h2 := toB_fits (List.all_eq_true.1 ht m hm)
  exact ⟨⟨by omega, by omega⟩, by omega, h2.2⟩
theorem col_ok {T : Tab} (h : T.check = 0) : ∀ c ∈ T.cols.map (·.1), ColOk c := by
  intro c hc
  obtain ⟨⟨l, a, b⟩, hm, rfl⟩ := List.mem_map.1 hc
  have h1 := (shape_of h).ok hm
  refine ⟨by unfold checkS; rw [h1.1, Bool.true_and, decide_eq_true_eq]; exact h1.2.1, fun v hv => ?_⟩
  have h2 := vals_in h hm v hv
  have h3 : -1 ≤ a ∧ b ≤ 1000 := by
    simp only [Tab.cols, List.mem_cons, Prod.mk.injEq, List.not_mem_nil, or_false] at hm
    rcases hm with h | h | h | h | h | h | h <;> omega
  exact (fitsB_iff _).2 (by omega)
theorem mps_ok {T : Tab} (h : T.check = 0) : ∀ c ∈ T.mps, c.length ≤ 256 ∧ ∀ m ∈ c, RowOk m := by
  have hs := shape_of h
  have h4 := (rules_of h).2.2.2.1
  unfold Tab.rule4 at h4
  simp only [Bool.and_eq_true] at h4
  intro c hc
  simp only [Tab.mps, List.mem_cons, List.not_mem_nil, or_false] at hc
  rcases hc with rfl | rfl | rfl | rfl
  · exact ⟨hs.lx, row_ok hs.kx h4.1⟩
  · exact ⟨hs.lm, row_ok hs.km h4.2.1⟩
  · exact ⟨hs.ld, row_ok hs.kd h4.2.2.1⟩
  · exact ⟨hs.lp, row_ok hs.kp h4.2.2.2⟩
theorem exc_ok {T : Tab} (h : T.check = 0) : T.excluded.length ≤ 4096 ∧ ∀ v ∈ T.excluded, fitsB v = true := by
  have hs := shape_of h
  refine ⟨by have := hs.lenX; omega, fun v hv => (fitsB_iff v).2 ?_⟩
  have := keysB_at hs.ke v hv
  omega
theorem mkT_cols (c0 c1 c2 c3 c4 c5 c6 : List Sp) (m0 m1 m2 m3 : List Mp) (x : List Int) : (mkT [c0, c1, c2, c3, c4, c5, c6] [m0, m1, m2, m3] x).cols.map (·.1) = [c0, c1, c2, c3, c4, c5, c6] ∧ (mkT [c0, c1, c2, c3, c4, c5, c6] [m0, m1, m2, m3] x).mps = [m0, m1, m2, m3] ∧ (mkT [c0, c1, c2, c3, c4, c5, c6] [m0, m1, m2, m3] x).excluded = x := ⟨rfl, rfl, rfl⟩

/-- What Encode wrote, Decode reads. -/
theorem dec_enc {T : Tab} {s : List UInt8} (h : encTR T = (s, 0)) : decTR s = (T, 0) := by
  have hc : T.check = 0 := by
    apply Classical.byContradiction
    intro hc
    rw [encTR_bad hc] at h; simp at h
  have hl : (encAllT T).length ≤ 32768 := by
    apply Classical.byContradiction
    intro hl
    rw [encTR_full hc (by omega)] at h; simp at h
  rw [encTR_ok hc hl] at h
  simp only [Prod.mk.injEq, and_true] at h
  subst h
  obtain ⟨e1, h1⟩ := encCols_pre (T.cols.map (·.1)) magicL (col_ok hc)
  obtain ⟨e2, h2⟩ := encMps_pre T.mps (encCol T) fun c hc' => (mps_ok hc c hc').2
  obtain ⟨hx1, hx2⟩ := exc_ok hc
  have hp := (getList_putList (encMps (encCol T) T.mps) [] T.excluded hx1 hx2).1
  obtain ⟨e3, h3⟩ := putAll_pre (diffs 0 T.excluded) (putInt (encMps (encCol T) T.mps) T.excluded.length)
  have hb : encBody T = encMps (encCol T) T.mps ++ (encU 9 (zz T.excluded.length) ++ e3) := by
    unfold encBody; rw [hp]; simp only; rw [h3]; simp [putInt]
  have ha : encAllT T = encBody T ++ encU 9 (zz (sumL (encBody T))) := rfl
  have a1 : encAllT T = encMps (encCol T) T.mps ++ (encU 9 (zz T.excluded.length) ++ e3 ++ encU 9 (zz (sumL (encBody T)))) := by rw [ha, hb, List.append_assoc]
  have a2 : encAllT T = encCol T ++ (e2 ++ (encU 9 (zz T.excluded.length) ++ e3 ++ encU 9 (zz (sumL (encBody T))))) := by rw [a1, h2, List.append_assoc]
  have a3 : encAllT T = magicL ++ (e1 ++ (e2 ++ (encU 9 (zz T.excluded.length) ++ e3 ++ encU 9 (zz (sumL (encBody T)))))) := by rw [a2]; unfold encCol; rw [h1, List.append_assoc]
  have hlen : 4 ≤ (encAllT T).length := by rw [a3, List.length_append]; show 4 ≤ 4 + _; omega
  rw [decTR_go hl hlen (by rw [a3]; exact List.take_left' rfl)]
  have k1 := contC_fwd (encAllT T) (T.cols.map (·.1)) 0 [] magicL _ (col_ok hc) a2
  have k2 := contM_fwd (encAllT T) (T.cols.map (·.1)) T.mps 0 [] (encCol T) _ (mps_ok hc) a1
  have hg := (getList_putList (encMps (encCol T) T.mps) (encU 9 (zz (sumL (encBody T)))) T.excluded hx1 hx2).2
  have a4 : encAllT T = (putList (encMps (encCol T) T.mps) T.excluded).1 ++ encU 9 (zz (sumL (encBody T))) := ha
  rw [← a4] at hg
  have hsl := sumL_lt (encBody T)
  have hi : getInt (encAllT T) (encBody T).length = ((sumL (encBody T) : Int), ((encAllT T).length : Int), 0) := by
    have := getInt_putInt (encBody T) [] (sumL (encBody T)) (by omega) (by omega)
    rw [List.append_nil] at this
    exact this
  rw [show (7 : Nat) = (T.cols.map (·.1)).length + 0 from rfl, show (4 : Int) = ((magicL.length : Nat) : Int) from rfl, k1, List.nil_append]
  show contM _ 4 _ _ _ = _
  rw [show (4 : Nat) = T.mps.length + 0 from rfl]
  show contM _ _ (((encCol T).length : Nat) : Int) _ _ = _
  rw [k2, List.nil_append]
  show contX _ _ _ _ = _
  rw [contX_go hg, mkT_of]
  refine contS_ok hi ?_ (by omega) hc
  have : (encAllT T).take ((((putList (encMps (encCol T) T.mps) T.excluded).1.length : Nat) : Int)).toNat = encBody T := by
    rw [Int.toNat_natCast, a4]; exact List.take_left' rfl
  rw [this]

theorem contC_back (s : List UInt8) (T : Tab) : ∀ (n : Nat) (p : Int) (cs : List (List Sp)) (a : Nat), p = a → a ≤ s.length → contC s n p cs = (T, 0) →
    ∃ (b : Nat) (r : List (List Sp)), r.length = n ∧ a ≤ b ∧ b ≤ s.length ∧ encCols (s.take a) r = s.take b ∧ contM s 4 b (cs ++ r) [] = (T, 0)
  | 0, p, cs, a, hp, ha, h => ⟨a, [], rfl, by omega, ha, rfl, by rw [List.append_nil, ← hp]; exact h⟩
  | n + 1, p, cs, a, hp, ha, h => by
    obtain ⟨l, q, e, hg⟩ : ∃ l q e, getSpans s p = (l, q, e) := ⟨_, _, _, rfl⟩
    by_cases he : e = 0
    · subst he
      rw [contC_go hg] at h
      obtain ⟨a', b', ea, eb, hlt, hle, hput⟩ := getSpans_back hg
      obtain rfl : a' = a := by omega
      obtain ⟨b, r, g1, g2, g3, g4, g5⟩ := contC_back s T n q (cs ++ [l]) b' eb hle h
      refine ⟨b, l :: r, by simp [g1], by omega, g3, ?_, by rw [List.append_assoc] at g5; exact g5⟩
      show encCols (putSpans (s.take a') l).1 r = _
      rw [hput]; exact g4
    · rw [contC_err hg he] at h
      simp only [Prod.mk.injEq] at h
      exact absurd h.2 he
theorem contM_back (s : List UInt8) (T : Tab) (cs : List (List Sp)) : ∀ (n : Nat) (p : Int) (ms : List (List Mp)) (a : Nat), p = a → a ≤ s.length → contM s n p cs ms = (T, 0) →
    ∃ (b : Nat) (r : List (List Mp)), r.length = n ∧ a ≤ b ∧ b ≤ s.length ∧ encMps (s.take a) r = s.take b ∧ contX s b cs (ms ++ r) = (T, 0)
  | 0, p, ms, a, hp, ha, h => ⟨a, [], rfl, by omega, ha, rfl, by rw [List.append_nil, ← hp]; exact h⟩
  | n + 1, p, ms, a, hp, ha, h => by
    obtain ⟨l, q, e, hg⟩ : ∃ l q e, getMaps s p = (l, q, e) := ⟨_, _, _, rfl⟩
    by_cases he : e = 0
    · subst he
      rw [contM_go hg] at h
      obtain ⟨a', b', ea, eb, hlt, hle, hput⟩ := getMaps_back hg
      obtain rfl : a' = a := by omega
      obtain ⟨b, r, g1, g2, g3, g4, g5⟩ := contM_back s T cs n q (ms ++ [l]) b' eb hle h
      refine ⟨b, l :: r, by simp [g1], by omega, g3, ?_, by rw [List.append_assoc] at g5; exact g5⟩
      show encMps (encMp (s.take a') l) r = _
      rw [hput]; exact g4
    · rw [contM_err hg he] at h
      simp only [Prod.mk.injEq] at h
      exact absurd h.2 he

/-- What Decode accepts is what Encode writes. -/
theorem enc_dec {T : Tab} {s : List UInt8} (h : decTR s = (T, 0)) : encTR T = (s, 0) := by
  have h1 : s.length ≤ 32768 := by
    apply Classical.byContradiction
    intro hl
    rw [decTR_full (by omega)] at h; simp at h
  have h2 : 4 ≤ s.length := by
    apply Classical.byContradiction
    intro hl
    rw [decTR_short (by omega)] at h; simp at h
  have h3 : s.take 4 = magicL := by
    apply Classical.byContradiction
    intro hl
    rw [decTR_form h1 h2 hl] at h; simp at h
  rw [decTR_go h1 h2 h3] at h
  obtain ⟨b, cs, k1, k2, k3, k4, k5⟩ := contC_back s T 7 4 [] 4 rfl h2 h
  rw [List.nil_append] at k5
  obtain ⟨b2, ms, l1, l2, l3, l4, l5⟩ := contM_back s T cs 4 b [] b rfl k3 k5
  rw [List.nil_append] at l5
  obtain ⟨xs, q, e, hg⟩ : ∃ l q e, getList s b2 = (l, q, e) := ⟨_, _, _, rfl⟩
  by_cases he : e = 0
  · subst he
    rw [contX_go hg] at l5
    obtain ⟨a', b3, ea, eb, hlt, hle, hput⟩ := getList_back hg
    obtain rfl : a' = b2 := by omega
    subst eb
    obtain ⟨v, q2, e2, hi⟩ : ∃ l q e, getInt s b3 = (l, q, e) := ⟨_, _, _, rfl⟩
    by_cases he2 : e2 = 0
    · subst he2
      obtain ⟨a'', b4, ea, eb, hlt4, hle4, hput4, _⟩ := getInt_back hi
      obtain rfl : a'' = b3 := by omega
      by_cases hv : v = (sumL (s.take (a'' : Int).toNat) : Int)
      · by_cases hq : q2 < (s.length : Int)
        · rw [contS_form hi hv hq] at l5; simp at l5
        · by_cases hT : (mkT cs ms xs).check = 0
          · rw [contS_ok hi hv (by omega) hT] at l5
            simp only [Prod.mk.injEq, and_true] at l5
            subst l5
            obtain ⟨c0, c1, c2, c3, c4, c5, c6, rfl⟩ : ∃ c0 c1 c2 c3 c4 c5 c6, cs = [c0, c1, c2, c3, c4, c5, c6] := by
              match cs, k1 with
              | [c0, c1, c2, c3, c4, c5, c6], _ => exact ⟨_, _, _, _, _, _, _, rfl⟩
            obtain ⟨m0, m1, m2, m3, rfl⟩ : ∃ m0 m1 m2 m3, ms = [m0, m1, m2, m3] := by
              match ms, l1 with
              | [m0, m1, m2, m3], _ => exact ⟨_, _, _, _, rfl⟩
            obtain ⟨t1, t2, t3⟩ := mkT_cols c0 c1 c2 c3 c4 c5 c6 m0 m1 m2 m3 xs
            have hbody : encBody (mkT [c0, c1, c2, c3, c4, c5, c6] [m0, m1, m2, m3] xs) = s.take a'' := by
              unfold encBody encCol
              rw [t1, t2, t3, ← h3, k4, l4, hput]
            have hall : encAllT (mkT [c0, c1, c2, c3, c4, c5, c6] [m0, m1, m2, m3] xs) = s := by
              unfold encAllT
              rw [hbody]
              rw [Int.toNat_natCast] at hv
              rw [← hv, hput4]
              exact List.take_of_length_le (by omega)
            rw [encTR_ok hT (by rw [hall]; exact h1), hall]
          · rw [contS_bad hi hv (by omega) hT] at l5; simp at l5
      · rw [contS_sum hi hv] at l5; simp at l5
    · rw [contS_err hi he2] at l5
      simp only [Prod.mk.injEq] at l5
      exact absurd l5.2 he2
  · rw [contX_err hg he] at l5
    simp only [Prod.mk.injEq] at l5
    exact absurd l5.2 he

/-! ### The encodings of the tables that keep.Tables makes are short -/
theorem cols_lenT (k : Nat) : ∀ (l : List (List Sp)) (b : List UInt8), (∀ c ∈ l, c.length ≤ k) → (encCols b l).length ≤ b.length + (30 * k + 10) * l.length
  | [], b, _ => by simp [encCols]
  | c :: r, b, h => by
    have h1 := putSpans_lenT b c
    have h2 := cols_lenT k r (putSpans b c).1 fun x hx => h x (List.mem_cons_of_mem _ hx)
    have h3 := h c List.mem_cons_self
    rw [List.length_cons, Nat.mul_add]
    show (encCols (putSpans b c).1 r).length ≤ _
    omega
theorem mps_lenT (k j : Nat) (b : List UInt8) (c : List Mp) (h : c.length ≤ k) (h2 : ∀ m ∈ c, m.2.length ≤ j) : (encMp b c).length ≤ b.length + 10 + (20 + 10 * j) * k := by
  have h1 : ∀ (c : List Mp) (b : List UInt8), (∀ m ∈ c, m.2.length ≤ j) → (c.foldl encRow b).length ≤ b.length + (20 + 10 * j) * c.length := by
    intro c
    induction c with
    | nil => intro b _; simp
    | cons m r ih =>
      intro b hm
      have h3 := ih (encRow b m) fun x hx => hm x (List.mem_cons_of_mem _ hx)
      have h4 := hm m List.mem_cons_self
      have h5 := putList_lenT (putInt b m.1) m.2
      have h6 := putInt_len b m.1
      have h7 : (encRow b m).length = (putList (putInt b m.1) m.2).1.length := rfl
      rw [List.foldl_cons, List.length_cons, Nat.mul_add]
      omega
  have h3 := h1 c (putInt b c.length) h2
  have h4 := putInt_len b c.length
  have h5 : (20 + 10 * j) * c.length ≤ (20 + 10 * j) * k := Nat.mul_le_mul_left _ h
  unfold encMp
  omega
theorem made_short {T : Tab} (h : Made T) : encTR T = (encAllT T, 0) ∧ (encAllT T).length ≤ 32768 := by
  have hl : (encAllT T).length ≤ 32768 := by
    have h1 := cols_lenT 28 (T.cols.map (·.1)) magicL (by
      intro c hc
      simp only [Tab.cols, List.map_cons, List.map_nil, List.mem_cons, List.not_mem_nil, or_false] at hc
      rcases hc with rfl | rfl | rfl | rfl | rfl | rfl | rfl
      · exact colN_len h.c0
      · exact colN_len h.c1
      · exact colN_len h.c2
      · exact colN_len h.c3
      · exact colN_len h.c4
      · exact colN_len h.map.col
      · exact colN_len h.c6)
    have d1 : T.decomps.length ≤ 5 := by
      have := List.Nodup.length_le_of_subset (l₁ := keysOf T.decomps) (l₂ := [7680, 7681, 7682, 7683, 7684]) (h.dec.keys.imp fun h => by omega) (fun c hc => by
        obtain ⟨m, hm, rfl⟩ := List.mem_map.1 hc
        have := h.dec.rng m hm
        simp; omega)
      simpa [keysOf] using this
    have hE : T.extensions.length ≤ 1 ∧ ∀ m ∈ T.extensions, m.2.length ≤ 2 := by
      rcases h.ext with e | e <;> rw [e] <;> simp
    have hP : T.prototypes.length ≤ 5 ∧ ∀ m ∈ T.prototypes, m.2.length ≤ 2 := by
      refine ⟨h.pro.length_le, fun m hm => ?_⟩
      have : ∀ m ∈ protoL, m.2.length ≤ 2 := by decide
      exact this m (h.pro.subset hm)
    have hD : T.decomps.length ≤ 5 ∧ ∀ m ∈ T.decomps, m.2.length ≤ 2 := ⟨d1, fun m hm => (h.dform m hm).2.1⟩
    have hM : T.maps.length ≤ 28 ∧ ∀ m ∈ T.maps, m.2.length ≤ 2 := by
      refine ⟨?_, fun m hm => ?_⟩
      · have e1 : (keysOf T.maps).length = T.maps.length := by unfold keysOf; rw [List.length_map]
        rw [← e1, ← h.map.same, List.length_map]
        exact Nat.le_trans (List.length_filter_le _ _) (colN_len h.map.col)
      · obtain ⟨a, _, e | e⟩ := h.map.form m hm <;> rw [e] <;> simp
    have hX : T.excluded.length ≤ 5 := by
      have := List.Nodup.length_le_of_subset (l₁ := T.excluded) (l₂ := [7680, 7681, 7682, 7683, 7684]) (h.dec.exs.imp fun h => by omega) (fun c hc => by
        obtain ⟨m, hm, rfl⟩ := List.mem_map.1 (h.dec.exk c hc)
        have := h.dec.rng m hm
        simp; omega)
      simpa using this
    have p1 := mps_lenT 1 2 (encCol T) T.extensions hE.1 hE.2
    have p2 := mps_lenT 28 2 (encMp (encCol T) T.extensions) T.maps hM.1 hM.2
    have p3 := mps_lenT 5 2 (encMp (encMp (encCol T) T.extensions) T.maps) T.decomps hD.1 hD.2
    have p4 := mps_lenT 5 2 (encMp (encMp (encMp (encCol T) T.extensions) T.maps) T.decomps) T.prototypes hP.1 hP.2
    have p5 := putList_lenT (encMps (encCol T) T.mps) T.excluded
    have p6 := putInt_len (encBody T) (sumL (encBody T))
    have e1 : encMps (encCol T) T.mps = encMp (encMp (encMp (encMp (encCol T) T.extensions) T.maps) T.decomps) T.prototypes := rfl
    have e2 : (encBody T).length = (putList (encMps (encCol T) T.mps) T.excluded).1.length := rfl
    have e3 : (encAllT T).length = (putInt (encBody T) (sumL (encBody T))).length := rfl
    have e4 : (encCol T).length = (encCols magicL (T.cols.map (·.1))).length := rfl
    have e5 : (T.cols.map (·.1)).length = 7 := rfl
    have e6 : magicL.length = 4 := rfl
    rw [e5, e6] at h1
    rw [e1] at p5
    rw [e1] at e2
    omega
  exact ⟨encTR_ok h.check hl, hl⟩
/-- What is written is at least as long as the mark and the sum. -/
theorem encAll_long {T : Tab} (h : T.check = 0) : 6 ≤ (encAllT T).length ∧ (encAllT T).take 4 = magicL := by
  obtain ⟨e1, h1⟩ := encCols_pre (T.cols.map (·.1)) magicL (col_ok h)
  obtain ⟨e2, h2⟩ := encMps_pre T.mps (encCol T) fun c hc' => (mps_ok h c hc').2
  obtain ⟨hx1, hx2⟩ := exc_ok h
  have hp := (getList_putList (encMps (encCol T) T.mps) [] T.excluded hx1 hx2).1
  obtain ⟨e3, h3⟩ := putAll_pre (diffs 0 T.excluded) (putInt (encMps (encCol T) T.mps) T.excluded.length)
  have l1 := encU_len 9 (zz T.excluded.length)
  have l2 := encU_len 9 (zz (sumL (encBody T)))
  have hb : encBody T = encMps (encCol T) T.mps ++ (encU 9 (zz T.excluded.length) ++ e3) := by
    unfold encBody; rw [hp]; simp only; rw [h3]; simp [putInt]
  have ha : encAllT T = encBody T ++ encU 9 (zz (sumL (encBody T))) := rfl
  have hc : encCol T = magicL ++ e1 := h1
  have hm : encAllT T = magicL ++ (e1 ++ e2 ++ (encU 9 (zz T.excluded.length) ++ e3) ++ encU 9 (zz (sumL (encBody T)))) := by
    rw [ha, hb, h2, hc]; simp
  rw [hm]
  refine ⟨?_, List.take_left' rfl⟩
  simp only [List.length_append]
  show 6 ≤ 4 + _
  omega
end Go.Proofs.YtikcfoobfobmnaaGreatDoor
