/-
  Plain mathematics of chapter 4, first part: tables, values of spans, sequences of mappings, fixed properties. No program in sight.
-/
import Derived.Test.YtkdhldhbjomiaaaDoorPkListPlain
import Derived.Test.YtkdhldhbjomiaaaDoorUtfPlain
namespace ND
open Go

/-- From, To. -/
abbrev Mp := Int × List Int
structure Tab where
  category : List Sp
  cls : List Sp
  joining : List Sp
  bidi : List Sp
  script : List Sp
  status : List Sp
  ignorable : List Sp
  extensions : List Mp
  maps : List Mp
  decomps : List Mp
  excluded : List Int
  prototypes : List Mp

def sylB (c : Int) : Bool := decide (44032 ≤ c ∧ c ≤ 55203)
def jamoB (c : Int) : Bool := decide (4352 ≤ c ∧ c ≤ 4370 ∨ 4449 ≤ c ∧ c ≤ 4469 ∨ 4520 ≤ c ∧ c ≤ 4546)
def surB (c : Int) : Bool := decide (55296 ≤ c ∧ c ≤ 57343)
def resB (c : Int) : Bool := decide (0 ≤ c ∧ c ≤ 127 ∨ 55296 ≤ c ∧ c ≤ 57343 ∨ 44032 ≤ c ∧ c ≤ 55203 ∨ 4352 ≤ c ∧ c ≤ 4370 ∨ 4449 ≤ c ∧ c ≤ 4469 ∨ 4520 ≤ c ∧ c ≤ 4546)
def nameB (c : Int) : Bool := decide (97 ≤ c ∧ c ≤ 122 ∨ 48 ≤ c ∧ c ≤ 57 ∨ c = 45)
theorem sylB_iff (c : Int) : sylB c = true ↔ 44032 ≤ c ∧ c ≤ 55203 := by unfold sylB; simp
theorem jamoB_iff (c : Int) : jamoB c = true ↔ (4352 ≤ c ∧ c ≤ 4370 ∨ 4449 ≤ c ∧ c ≤ 4469 ∨ 4520 ≤ c ∧ c ≤ 4546) := by unfold jamoB; simp
theorem surB_iff (c : Int) : surB c = true ↔ 55296 ≤ c ∧ c ≤ 57343 := by unfold surB; simp
theorem resB_iff (c : Int) : resB c = true ↔ (0 ≤ c ∧ c ≤ 127 ∨ 55296 ≤ c ∧ c ≤ 57343 ∨ 44032 ≤ c ∧ c ≤ 55203 ∨ 4352 ≤ c ∧ c ≤ 4370 ∨ 4449 ≤ c ∧ c ≤ 4469 ∨ 4520 ≤ c ∧ c ≤ 4546) := by unfold resB; simp
theorem resB_not (c : Int) : resB c = false ↔ ¬(0 ≤ c ∧ c ≤ 127 ∨ 55296 ≤ c ∧ c ≤ 57343 ∨ 44032 ≤ c ∧ c ≤ 55203 ∨ 4352 ≤ c ∧ c ≤ 4370 ∨ 4449 ≤ c ∧ c ≤ 4469 ∨ 4520 ≤ c ∧ c ≤ 4546) := by unfold resB; rw [decide_eq_false_iff_not]
theorem nameB_iff (c : Int) : nameB c = true ↔ (97 ≤ c ∧ c ≤ 122 ∨ 48 ≤ c ∧ c ≤ 57 ∨ c = 45) := by unfold nameB; simp

/-- The value of a code point in a list of spans, or 0. -/
def valueL : List Sp → Int → Int
  | [], _ => 0
  | s :: r, c => if s.1 ≤ c ∧ c ≤ s.2.1 then s.2.2 else valueL r c
/-- The sequence of a code point, or the empty one. -/
def findL : List Mp → Int → List Int
  | [], _ => []
  | m :: r, c => if m.1 = c then m.2 else findL r c

/-- The first spans end ahead of the next ones' beginnings. -/
def sortS (l : List Sp) : Prop := ∃ lo hi, okS lo hi (-1) l = true
theorem sortS_of_check {l : List Sp} {lo hi : Int} (h : checkS l lo hi = true) : sortS l := by
  unfold checkS at h
  rw [Bool.and_eq_true] at h
  exact ⟨lo, hi, h.1⟩
theorem okS_at {lo hi : Int} {l : List Sp} : ∀ {last : Int}, okS lo hi last l = true → ∀ {i j : Nat} {a b : Sp}, i < j → l[i]? = some a → l[j]? = some b → a.1 ≤ a.2.1 ∧ a.2.1 < b.1 := by
  induction l with
  | nil => intro last _ i j a b _ h; simp at h
  | cons s r ih =>
    intro last h i j a b hij ha hb
    obtain ⟨h1, h2⟩ := okS_cons.1 h
    cases j with
    | zero => omega
    | succ j =>
      cases i with
      | zero =>
        simp at ha hb
        subst ha
        have : ∀ {last : Int} {r : List Sp}, okS lo hi last r = true → ∀ {j : Nat} {b : Sp}, r[j]? = some b → last < b.1 := by
          intro last r
          induction r generalizing last with
          | nil => intro _ j b h; simp at h
          | cons t r ih' =>
            intro h j b hb
            obtain ⟨g1, g2⟩ := okS_cons.1 h
            cases j with
            | zero => simp at hb; subst hb; exact g1.1
            | succ j => have := ih' g2 (j := j) (by simpa using hb); omega
        exact ⟨h1.2.1, this h2 hb⟩
      | succ i => exact ih h2 (i := i) (j := j) (by omega) (by simpa using ha) (by simpa using hb)
theorem okS_el {lo hi : Int} {l : List Sp} : ∀ {last : Int}, okS lo hi last l = true → ∀ {i : Nat} {a : Sp}, l[i]? = some a → last < a.1 ∧ a.1 ≤ a.2.1 ∧ a.2.1 ≤ 1114111 ∧ lo ≤ a.1 ∧ a.2.1 ≤ hi := by
  induction l with
  | nil => intro last _ i a h; simp at h
  | cons s r ih =>
    intro last h i a ha
    obtain ⟨h1, h2⟩ := okS_cons.1 h
    cases i with
    | zero => simp at ha; subst ha; exact h1
    | succ i =>
      have := ih h2 (i := i) (by simpa using ha)
      omega

/-- What the search for a code point comes to: k is the first place whose span ends at c or behind it. -/
theorem valueL_at {l : List Sp} {c : Int} {k : Nat} (h0 : ∀ i a, i < k → l[i]? = some a → a.2.1 < c) {a : Sp} (ha : l[k]? = some a) (hc : a.1 ≤ c) (hc' : c ≤ a.2.1) : valueL l c = a.2.2 := by
  induction l generalizing k with
  | nil => simp at ha
  | cons s r ih =>
    cases k with
    | zero => simp at ha; subst ha; rw [valueL, if_pos ⟨hc, hc'⟩]
    | succ k =>
      have h1 := h0 0 s (by omega) rfl
      rw [valueL, if_neg (by omega)]
      exact ih (k := k) (fun i a hi h => h0 (i + 1) a (by omega) (by simpa using h)) (by simpa using ha)
theorem valueL_no {l : List Sp} {c : Int} (h : ∀ (i : Nat) (a : Sp), l[i]? = some a → ¬(a.1 ≤ c ∧ c ≤ a.2.1)) : valueL l c = 0 := by
  induction l with
  | nil => rfl
  | cons s r ih => rw [valueL, if_neg (h 0 s rfl)]; exact ih (fun i a hi => h (i + 1) a (by simpa using hi))
theorem valueL_miss {l : List Sp} {c : Int} {k : Nat} {lo hi : Int} (hs : okS lo hi (-1) l = true) (h0 : ∀ i a, i < k → l[i]? = some a → a.2.1 < c) (h1 : ∀ a, l[k]? = some a → c < a.1) : valueL l c = 0 := by
  refine valueL_no fun i a hi => ?_
  rcases Nat.lt_trichotomy i k with h | h | h
  · have := h0 i a h hi; omega
  · subst h; have := h1 a hi; omega
  · have hk : k < l.length := by have := (List.getElem?_eq_some_iff.1 hi).1; omega
    have hk' : l[k]? = some l[k] := List.getElem?_eq_getElem hk
    have := okS_at hs h hk' hi
    have := h1 _ hk'
    omega

/-- Keys of mappings ascend. -/
def sortM (l : List Mp) : Prop := ∀ (i j : Nat) (a b : Mp), i < j → l[i]? = some a → l[j]? = some b → a.1 < b.1
theorem findL_at {l : List Mp} {c : Int} {k : Nat} (h0 : ∀ i a, i < k → l[i]? = some a → a.1 < c) {a : Mp} (ha : l[k]? = some a) (hc : a.1 = c) : findL l c = a.2 := by
  induction l generalizing k with
  | nil => simp at ha
  | cons s r ih =>
    cases k with
    | zero => simp at ha; subst ha; rw [findL, if_pos hc]
    | succ k =>
      have h1 := h0 0 s (by omega) rfl
      rw [findL, if_neg (by omega)]
      exact ih (k := k) (fun i a hi h => h0 (i + 1) a (by omega) (by simpa using h)) (by simpa using ha)
theorem findL_no {l : List Mp} {c : Int} (h : ∀ (i : Nat) (a : Mp), l[i]? = some a → a.1 ≠ c) : findL l c = [] := by
  induction l with
  | nil => rfl
  | cons s r ih => rw [findL, if_neg (h 0 s rfl)]; exact ih (fun i a hi => h (i + 1) a (by simpa using hi))
theorem findL_miss {l : List Mp} {c : Int} {k : Nat} (hs : sortM l) (h0 : ∀ i a, i < k → l[i]? = some a → a.1 < c) (h1 : ∀ a, l[k]? = some a → c ≠ a.1 ∧ c ≤ a.1) : findL l c = [] := by
  refine findL_no fun i a hi => ?_
  rcases Nat.lt_trichotomy i k with h | h | h
  · have := h0 i a h hi; omega
  · subst h; have := h1 a hi; omega
  · have hk : k < l.length := by have := (List.getElem?_eq_some_iff.1 hi).1; omega
    have hk' : l[k]? = some l[k] := List.getElem?_eq_getElem hk
    have := hs k i _ _ h hk' hi
    have := h1 _ hk'
    omega
theorem findL_mem {l : List Mp} {c : Int} (h : findL l c ≠ []) : (c, findL l c) ∈ l := by
  induction l with
  | nil => exact absurd rfl h
  | cons s r ih =>
    rw [findL] at h ⊢
    split at h
    · rename_i hc; rw [if_pos hc]; obtain ⟨a, b⟩ := s; simp only at hc; subst hc; exact List.mem_cons_self
    · rename_i hc; rw [if_neg hc]; exact List.mem_cons_of_mem _ (ih h)

/-- The fixed properties: category, Bidi class, script, status. -/
def fixC (c : Int) : Int × Int × Int × Int :=
  if 97 ≤ c ∧ c ≤ 122 then (1, 0, 3, 1)
  else if 65 ≤ c ∧ c ≤ 90 then (1, 0, 3, 3)
  else if 48 ≤ c ∧ c ≤ 57 then (3, 4, 1, 1)
  else if c = 45 then (5, 5, 1, 1)
  else if c = 46 then (5, 6, 1, 1)
  else if c = 32 then (7, 11, 1, 0)
  else if c < 32 ∨ c = 127 then (8, 11, 1, 0)
  else if c < 127 then (5, 8, 1, 0)
  else if 44032 ≤ c ∧ c ≤ 55203 then (1, 0, 9, 1)
  else if 4352 ≤ c ∧ c ≤ 4370 ∨ 4449 ≤ c ∧ c ≤ 4469 ∨ 4520 ≤ c ∧ c ≤ 4546 then (1, 0, 9, 0)
  else (0, 0, 0, 0)
/-- A property: own for a reserved code point, else the list's. -/
def propL (l : List Sp) (own c : Int) : Int := if lenC c = 0 then 0 else if resB c = true then own else valueL l c
def Tab.categoryOf (T : Tab) (c : Int) : Int := propL T.category (fixC c).1 c
def Tab.bidiOf (T : Tab) (c : Int) : Int := propL T.bidi (fixC c).2.1 c
def Tab.scriptOf (T : Tab) (c : Int) : Int := propL T.script (fixC c).2.2.1 c
def Tab.statusOf (T : Tab) (c : Int) : Int := propL T.status (fixC c).2.2.2 c
def Tab.classOf (T : Tab) (c : Int) : Int := valueL T.cls c
def Tab.joiningOf (T : Tab) (c : Int) : Int := valueL T.joining c
def Tab.ignB (T : Tab) (c : Int) : Bool := valueL T.ignorable c == 1
def Tab.excB (T : Tab) (c : Int) : Bool := decide (c ∈ T.excluded)
/-- What a code point is mapped to. -/
def Tab.mapsOf (T : Tab) (c : Int) : List Int := if 65 ≤ c ∧ c ≤ 90 then [c + 32] else findL T.maps c
end ND
