/-
  Plain mathematics of chapter 3 (lists of numbers and of spans) and of 2.1: no program in sight.
-/
import Derived.Test.YtkdhldhbjomiaaaDoorPkPlain
namespace ND
open Go

def fitsB (v : Int) : Bool := decide (-1073741824 ≤ v ∧ v ≤ 1073741824)
theorem fitsB_iff (v : Int) : fitsB v = true ↔ -1073741824 ≤ v ∧ v ≤ 1073741824 := by unfold fitsB; simp
theorem fitsB_not (v : Int) : fitsB v = false ↔ v < -1073741824 ∨ 1073741824 < v := by unfold fitsB; rw [decide_eq_false_iff_not]; omega

def putAll (b : List UInt8) (ds : List Int) : List UInt8 := ds.foldl putInt b
def diffs : Int → List Int → List Int
  | _, [] => []
  | last, v :: r => (v - last) :: diffs v r
/-- PutList: the bytes, the error. -/
def putList (b : List UInt8) (l : List Int) : List UInt8 × Int :=
  if 4096 < l.length then ([], 7) else if l.all fitsB then (putAll (putInt b l.length) (diffs 0 l), 0) else ([], 3)

def okD (last d : Int) : Bool := decide (-2147483648 ≤ d ∧ d ≤ 2147483648) && fitsB (last + d)
/-- The elements of a list that is read: the error, the elements, the index behind them. -/
def getL (s : List UInt8) : Nat → Int → Int → Int × List Int × Int
  | 0, _, p => (0, [], p)
  | n + 1, last, p =>
    if (getInt s p).2.2 ≠ 0 then ((getInt s p).2.2, [], 0)
    else if okD last (getInt s p).1 = false then (4, [], 0)
    else if (getL s n (last + (getInt s p).1) (getInt s p).2.1).1 ≠ 0 then ((getL s n (last + (getInt s p).1) (getInt s p).2.1).1, [], 0)
    else (0, (last + (getInt s p).1) :: (getL s n (last + (getInt s p).1) (getInt s p).2.1).2.1, (getL s n (last + (getInt s p).1) (getInt s p).2.1).2.2)
/-- GetList: the elements, the index, the error. -/
def getList (s : List UInt8) (p : Int) : List Int × Int × Int :=
  if (getInt s p).2.2 ≠ 0 then ([], p, (getInt s p).2.2)
  else if (getInt s p).1 < 0 ∨ 4096 < (getInt s p).1 then ([], p, 4)
  else if (getL s (getInt s p).1.toNat 0 (getInt s p).2.1).1 ≠ 0 then ([], p, (getL s (getInt s p).1.toNat 0 (getInt s p).2.1).1)
  else ((getL s (getInt s p).1.toNat 0 (getInt s p).2.1).2.1, (getL s (getInt s p).1.toNat 0 (getInt s p).2.1).2.2, 0)

theorem putAll_cons (b : List UInt8) (d : Int) (ds : List Int) : putAll b (d :: ds) = putAll (putInt b d) ds := rfl
theorem putAll_pre (ds : List Int) : ∀ b : List UInt8, ∃ e, putAll b ds = b ++ e := by
  induction ds with
  | nil => intro b; exact ⟨[], by simp [putAll]⟩
  | cons d ds ih =>
    intro b
    obtain ⟨e, he⟩ := ih (putInt b d)
    exact ⟨encU 9 (zz d) ++ e, by rw [putAll_cons, he]; simp [putInt]⟩
def inI64 (v : Int) : Prop := -9223372036854775808 ≤ v ∧ v ≤ 9223372036854775807
/-- The next number of what putAll has written. -/
theorem getInt_putAll (b t : List UInt8) (d : Int) (ds : List Int) (h : inI64 d) : getInt (putAll b (d :: ds) ++ t) b.length = (d, (((putInt b d).length : Nat) : Int), 0) := by
  obtain ⟨e, he⟩ := putAll_pre ds (putInt b d)
  rw [putAll_cons, he, List.append_assoc]
  exact getInt_putInt b (e ++ t) d h.1 h.2

theorem getL_putAll (l : List Int) : ∀ (b t : List UInt8) (last : Int), fitsB last = true → (∀ v ∈ l, fitsB v = true) →
    getL (putAll b (diffs last l) ++ t) l.length last b.length = (0, l, (((putAll b (diffs last l)).length : Nat) : Int)) := by
  induction l with
  | nil => intro b t last _ _; simp [getL, putAll, diffs]
  | cons v r ih =>
    intro b t last hl h
    have hv := h v (by simp)
    have h1 := (fitsB_iff last).1 hl
    have h2 := (fitsB_iff v).1 hv
    have hg := getInt_putAll b t (v - last) (diffs v r) ⟨by omega, by omega⟩
    have hs : last + (v - last) = v := by omega
    have hok : okD last (v - last) = true := by
      unfold okD; rw [hs, hv, Bool.and_true]; simp; omega
    have hi := ih (putInt b (v - last)) t v hv (fun x hx => h x (by simp [hx]))
    simp only [diffs, List.length_cons, getL]
    rw [hg]
    simp only [hs, hok]
    rw [putAll_cons, hi]
    simp

theorem getList_putList (b t : List UInt8) (l : List Int) (hl : l.length ≤ 4096) (h : ∀ v ∈ l, fitsB v = true) :
    putList b l = (putAll (putInt b l.length) (diffs 0 l), 0) ∧ getList ((putList b l).1 ++ t) b.length = (l, ((((putList b l).1).length : Nat) : Int), 0) := by
  have hp : putList b l = (putAll (putInt b l.length) (diffs 0 l), 0) := by
    unfold putList; rw [if_neg (by omega), if_pos (List.all_eq_true.2 h)]
  refine ⟨hp, ?_⟩
  rw [hp]
  have hg := getInt_putAll b t (l.length : Int) (diffs 0 l) ⟨by omega, by omega⟩
  have hL := getL_putAll l (putInt b (l.length : Int)) t 0 (by decide) h
  simp only at hg ⊢
  rw [putAll_cons] at hg
  unfold getList
  rw [hg]
  simp only [Int.toNat_natCast]
  rw [hL]
  simp only [ne_eq, not_true_eq_false, if_false]
  rw [if_neg (by omega)]

/-! ### Spans -/

/-- From, To, Value. -/
abbrev Sp := Int × Int × Int
/-- 2.1 behind a span that ends at last. -/
def okS (lo hi : Int) : Int → List Sp → Bool
  | _, [] => true
  | last, s :: r => decide (last < s.1 ∧ s.1 ≤ s.2.1 ∧ s.2.1 ≤ 1114111 ∧ lo ≤ s.1 ∧ s.2.1 ≤ hi) && okS lo hi s.2.1 r
def checkS (l : List Sp) (lo hi : Int) : Bool := okS lo hi (-1) l && decide (l.length ≤ 256)
def nums : Int → List Sp → List Int
  | _, [] => []
  | last, s :: r => (s.1 - last) :: (s.2.1 - s.1) :: s.2.2 :: nums s.2.1 r
def putSpans (b : List UInt8) (l : List Sp) : List UInt8 × Int :=
  if checkS l 0 1114111 = false then ([], 1) else if l.all (fun s => fitsB s.2.2) then (putAll (putInt b l.length) (nums 0 l), 0) else ([], 3)
/-- The spans that are read: the error, the spans, the index behind them. gap: the least difference to the To of the span before. -/
def getS (s : List UInt8) : Nat → Int → Int → Int → Int × List Sp × Int
  | 0, _, _, p => (0, [], p)
  | n + 1, last, gap, p =>
    if (getInt s p).2.2 ≠ 0 then ((getInt s p).2.2, [], 0)
    else if (getInt s p).1 < gap ∨ 1114111 - last < (getInt s p).1 then (4, [], 0)
    else if (getInt s (getInt s p).2.1).2.2 ≠ 0 then ((getInt s (getInt s p).2.1).2.2, [], 0)
    else if (getInt s (getInt s p).2.1).1 < 0 ∨ 1114111 - (last + (getInt s p).1) < (getInt s (getInt s p).2.1).1 then (4, [], 0)
    else if (getInt s (getInt s (getInt s p).2.1).2.1).2.2 ≠ 0 then ((getInt s (getInt s (getInt s p).2.1).2.1).2.2, [], 0)
    else if fitsB (getInt s (getInt s (getInt s p).2.1).2.1).1 = false then (4, [], 0)
    else
      let q := getS s n (last + (getInt s p).1 + (getInt s (getInt s p).2.1).1) 1 (getInt s (getInt s (getInt s p).2.1).2.1).2.1
      if q.1 ≠ 0 then (q.1, [], 0)
      else (0, (last + (getInt s p).1, last + (getInt s p).1 + (getInt s (getInt s p).2.1).1, (getInt s (getInt s (getInt s p).2.1).2.1).1) :: q.2.1, q.2.2)
def getSpans (s : List UInt8) (p : Int) : List Sp × Int × Int :=
  if (getInt s p).2.2 ≠ 0 then ([], p, (getInt s p).2.2)
  else if (getInt s p).1 < 0 ∨ 256 < (getInt s p).1 then ([], p, 4)
  else
    let q := getS s (getInt s p).1.toNat 0 0 (getInt s p).2.1
    if q.1 ≠ 0 then ([], p, q.1) else (q.2.1, q.2.2, 0)

theorem okS_cons {lo hi last : Int} {s : Sp} {r : List Sp} : okS lo hi last (s :: r) = true ↔ (last < s.1 ∧ s.1 ≤ s.2.1 ∧ s.2.1 ≤ 1114111 ∧ lo ≤ s.1 ∧ s.2.1 ≤ hi) ∧ okS lo hi s.2.1 r = true := by
  simp [okS]

theorem getS_putAll (l : List Sp) : ∀ (b t : List UInt8) (last lst gap : Int), okS 0 1114111 last l = true → (last = -1 ∧ lst = 0 ∧ gap = 0 ∨ 0 ≤ last ∧ last ≤ 1114111 ∧ lst = last ∧ gap = 1) → (∀ v ∈ l, fitsB v.2.2 = true) →
    getS (putAll b (nums lst l) ++ t) l.length lst gap b.length = (0, l, (((putAll b (nums lst l)).length : Nat) : Int)) := by
  induction l with
  | nil => intro b t last lst gap _ _ _; simp [getS, putAll, nums]
  | cons s r ih =>
    intro b t last lst gap ho hl h
    obtain ⟨⟨a1, a2, a3, a4, a5⟩, a6⟩ := okS_cons.1 ho
    have hv := h s (by simp)
    have hv' := (fitsB_iff _).1 hv
    have g1 := getInt_putAll b t (s.1 - lst) ((s.2.1 - s.1) :: s.2.2 :: nums s.2.1 r) ⟨by omega, by omega⟩
    have g2 := getInt_putAll (putInt b (s.1 - lst)) t (s.2.1 - s.1) (s.2.2 :: nums s.2.1 r) ⟨by omega, by omega⟩
    have g3 := getInt_putAll (putInt (putInt b (s.1 - lst)) (s.2.1 - s.1)) t s.2.2 (nums s.2.1 r) ⟨by omega, by omega⟩
    rw [← putAll_cons] at g2
    rw [← putAll_cons, ← putAll_cons] at g3
    have hi := ih (putInt (putInt (putInt b (s.1 - lst)) (s.2.1 - s.1)) s.2.2) t s.2.1 s.2.1 1 a6 (.inr ⟨by omega, a3, rfl, rfl⟩) (fun x hx => h x (by simp [hx]))
    rw [← putAll_cons, ← putAll_cons, ← putAll_cons] at hi
    have e1 : lst + (s.1 - lst) = s.1 := by omega
    have e2 : s.1 + (s.2.1 - s.1) = s.2.1 := by omega
    simp only [nums, List.length_cons, getS]
    rw [g1]
    simp only
    rw [g2]
    simp only
    rw [g3]
    simp only [e1, e2, hv]
    rw [hi]
    simp only [ne_eq, not_true_eq_false, if_false, Bool.true_eq_false]
    rw [if_neg (by omega), if_neg (by omega)]

theorem getSpans_putSpans (b t : List UInt8) (l : List Sp) (hc : checkS l 0 1114111 = true) (h : ∀ v ∈ l, fitsB v.2.2 = true) :
    putSpans b l = (putAll (putInt b l.length) (nums 0 l), 0) ∧ getSpans ((putSpans b l).1 ++ t) b.length = (l, ((((putSpans b l).1).length : Nat) : Int), 0) := by
  have hp : putSpans b l = (putAll (putInt b l.length) (nums 0 l), 0) := by
    unfold putSpans; rw [if_neg (by rw [hc]; simp), if_pos (List.all_eq_true.2 h)]
  refine ⟨hp, ?_⟩
  rw [hp]
  unfold checkS at hc
  rw [Bool.and_eq_true, decide_eq_true_eq] at hc
  have hg := getInt_putAll b t (l.length : Int) (nums 0 l) ⟨by omega, by omega⟩
  have hL := getS_putAll l (putInt b (l.length : Int)) t (-1) 0 0 hc.1 (.inl ⟨rfl, rfl, rfl⟩) h
  simp only at hg ⊢
  rw [putAll_cons] at hg
  unfold getSpans
  rw [hg]
  simp only [Int.toNat_natCast]
  rw [hL]
  simp only [ne_eq, not_true_eq_false, if_false]
  rw [if_neg (by omega)]
end ND
