/-
  Merged texts: lemmas and walks that the last text of this claim leans on.
-/
import Derived.Test.YtikcfoobfobmnaaGreatDoorMgB75
import Derived.Test.YtikcfoobfobmnaaGreatDoorMgB74
import Derived.Test.YtikcfoobfobmnaaGreatDoorMgB717
import Derived.Shelf.Abstract
/-
  Canonical order of combining marks, in plain Lean: exchanging neighbours that are out of order changes no canonical order, and what is in order is its own.
-/
namespace ND

/-- x, put ahead of a sequence in order. -/
def putO (f : Int → Int) (x : Int) : List Int → List Int
  | [] => [x]
  | y :: r => if 0 < f y ∧ f y < f x then y :: putO f x r else x :: y :: r
/-- The canonical order. -/
def can (f : Int → Int) : List Int → List Int
  | [] => []
  | x :: r => putO f x (can f r)
/-- Two neighbours are in order. -/
def okP (f : Int → Int) (x y : Int) : Prop := ¬ (0 < f y ∧ f y < f x)
/-- In order up to n. -/
def SortN (f : Int → Int) (n : Nat) (l : List Int) : Prop := ∀ i x y, i + 1 < n → l[i]? = some x → l[i + 1]? = some y → okP f x y

theorem putO_swap {f : Int → Int} {x y : Int} (h0 : 0 < f y) (h1 : f y < f x) : ∀ R, putO f x (putO f y R) = putO f y (putO f x R) := by
  intro R
  induction R with
  | nil => simp only [putO]; rw [if_pos ⟨h0, h1⟩, if_neg (by omega)]
  | cons z R ih =>
    by_cases hz : 0 < f z ∧ f z < f y
    · have hx : 0 < f z ∧ f z < f x := ⟨hz.1, by omega⟩
      simp only [putO, if_pos hz, if_pos hx, ih]
    · simp only [putO, if_neg hz, if_pos (And.intro h0 h1)]
      by_cases hx : 0 < f z ∧ f z < f x
      · simp only [putO, if_pos hx, if_neg hz]
      · simp only [if_neg hx, putO]
        rw [if_neg (by omega)]
theorem can_swap {f : Int → Int} {x y : Int} (h0 : 0 < f y) (h1 : f y < f x) (a b : List Int) : can f (a ++ x :: y :: b) = can f (a ++ y :: x :: b) := by
  induction a with
  | nil => exact putO_swap h0 h1 _
  | cons z a ih => simp only [List.cons_append, can, ih]
theorem can_sorted {f : Int → Int} : ∀ l : List Int, SortN f l.length l → can f l = l := by
  intro l
  induction l with
  | nil => intro _; rfl
  | cons x r ih =>
    intro h
    have hr : SortN f r.length r := fun i a b hi ha hb => h (i + 1) a b (by simp; omega) (by simpa using ha) (by simpa using hb)
    rw [can, ih hr]
    cases r with
    | nil => rfl
    | cons y r =>
      have := h 0 x y (by simp) rfl rfl
      rw [putO, if_neg this]
theorem putO_length (f : Int → Int) (x : Int) : ∀ l, (putO f x l).length = l.length + 1 := by
  intro l
  induction l with
  | nil => rfl
  | cons y r ih => rw [putO]; split <;> simp [ih]
theorem can_length (f : Int → Int) : ∀ l, (can f l).length = l.length := by
  intro l
  induction l with
  | nil => rfl
  | cons x r ih => rw [can, putO_length, ih]; rfl
theorem putO_mem {f : Int → Int} {x z : Int} : ∀ {l}, z ∈ putO f x l ↔ z = x ∨ z ∈ l := by
  intro l
  induction l with
  | nil => simp [putO]
  | cons y r ih =>
    rw [putO]
    split
    · simp only [List.mem_cons, ih]
      constructor
      · rintro (h | h | h) <;> simp [h]
      · rintro (h | h | h) <;> simp [h]
    · simp
theorem can_mem {f : Int → Int} {z : Int} : ∀ {l}, z ∈ can f l ↔ z ∈ l := by
  intro l
  induction l with
  | nil => simp [can]
  | cons x r ih => rw [can, putO_mem, ih]; simp
theorem sortN_cons {f : Int → Int} {x y : Int} {r : List Int} (h : okP f x y) (hr : SortN f (r.length + 1) (y :: r)) : SortN f (r.length + 2) (x :: y :: r) := fun i a b hi ha hb => by
  cases i with
  | zero => simp at ha hb; subst ha; subst hb; exact h
  | succ i => exact hr i a b (by omega) (by simpa using ha) (by simpa using hb)
theorem putO_sorted {f : Int → Int} {x : Int} : ∀ l, SortN f l.length l → SortN f (putO f x l).length (putO f x l) := by
  intro l
  induction l with
  | nil => intro _ i a b hi; simp [putO] at hi
  | cons y r ih =>
    intro h
    have hr : SortN f r.length r := fun i a b hi ha hb => h (i + 1) a b (by simp; omega) (by simpa using ha) (by simpa using hb)
    by_cases hc : 0 < f y ∧ f y < f x
    · rw [putO, if_pos hc]
      have h2 := ih hr
      cases r with
      | nil => simp only [putO] at h2 ⊢; exact sortN_cons (fun e => by omega) (fun i a b hi => by simp at hi)
      | cons z r =>
        by_cases hz : 0 < f z ∧ f z < f x
        · simp only [putO, if_pos hz] at h2 ⊢
          exact sortN_cons (h 0 y z (by simp) rfl rfl) h2
        · simp only [putO, if_neg hz] at h2 ⊢
          exact sortN_cons (fun e => by omega) h2
    · rw [putO, if_neg hc]
      exact sortN_cons hc h
theorem can_is_sorted (f : Int → Int) : ∀ l, SortN f (can f l).length (can f l) := by
  intro l
  induction l with
  | nil => intro i a b hi; simp [can] at hi
  | cons x r ih => exact putO_sorted _ ih
theorem can_can (f : Int → Int) (l : List Int) : can f (can f l) = can f l := can_sorted _ (can_is_sorted f l)

/-- Neighbours exchanged. -/
def swapL (l : List Int) (p : Nat) (x y : Int) : List Int := (l.set (p + 1) x).set p y
theorem cut_two {l : List Int} {p : Nat} {x y : Int} (hx : l[p]? = some x) (hy : l[p + 1]? = some y) : ∃ a b, a.length = p ∧ l = a ++ x :: y :: b ∧ swapL l p x y = a ++ y :: x :: b := by
  obtain ⟨h1, e1⟩ := List.getElem?_eq_some_iff.1 hx
  obtain ⟨h2, e2⟩ := List.getElem?_eq_some_iff.1 hy
  have e : l = l.take p ++ x :: y :: l.drop (p + 2) := by
    conv => lhs; rw [← List.take_append_drop p l, List.drop_eq_getElem_cons h1, List.drop_eq_getElem_cons h2, e1, e2]
  refine ⟨l.take p, l.drop (p + 2), by simp; omega, e, ?_⟩
  have hl : (l.take p).length = p := by simp; omega
  rw [swapL]
  generalize l.take p = a at e hl
  generalize l.drop (p + 2) = b at e
  subst e; subst hl
  simp
theorem can_swapL {f : Int → Int} {l : List Int} {p : Nat} {x y : Int} (hx : l[p]? = some x) (hy : l[p + 1]? = some y) (h0 : 0 < f y) (h1 : f y < f x) : can f (swapL l p x y) = can f l := by
  obtain ⟨a, b, _, e, s⟩ := cut_two hx hy
  rw [s, e, can_swap h0 h1]
theorem swapL_length (l : List Int) (p : Nat) (x y : Int) : (swapL l p x y).length = l.length := by simp [swapL]
theorem swapL_at {l : List Int} {p : Nat} {x y : Int} (hx : l[p]? = some x) (hy : l[p + 1]? = some y) (i : Nat) : (swapL l p x y)[i]? = if i = p then some y else if i = p + 1 then some x else l[i]? := by
  have h1 := (List.getElem?_eq_some_iff.1 hx).1
  have h2 := (List.getElem?_eq_some_iff.1 hy).1
  rw [swapL, List.getElem?_set, List.getElem?_set]
  by_cases e : p = i
  · subst e; simp [h1]
  · rw [if_neg e, if_neg (Ne.symm e)]
    by_cases e2 : p + 1 = i
    · subst e2; simp [h2]
    · rw [if_neg e2, if_neg (Ne.symm e2)]

/-- What the exchanging goes up by. -/
def wsum (f : Int → Int) : Nat → List Int → Int
  | _, [] => 0
  | k, x :: r => (k : Int) * f x + wsum f (k + 1) r
theorem wsum_app (f : Int → Int) : ∀ (a b : List Int) (k : Nat), wsum f k (a ++ b) = wsum f k a + wsum f (k + a.length) b := by
  intro a
  induction a with
  | nil => intro b k; simp [wsum]
  | cons x a ih => intro b k; simp only [List.cons_append, wsum, ih, List.length_cons]; rw [show k + 1 + a.length = k + (a.length + 1) by omega]; omega
theorem wsum_swap {f : Int → Int} {x y : Int} (h1 : f y < f x) (a b : List Int) (k : Nat) : wsum f k (a ++ x :: y :: b) < wsum f k (a ++ y :: x :: b) := by
  rw [wsum_app, wsum_app]
  simp only [wsum]
  have e1 : ((k + a.length + 1 : Nat) : Int) * f y = ((k + a.length : Nat) : Int) * f y + f y := by push_cast; rw [Int.add_mul]; omega
  have e2 : ((k + a.length + 1 : Nat) : Int) * f x = ((k + a.length : Nat) : Int) * f x + f x := by push_cast; rw [Int.add_mul]; omega
  rw [e1, e2]
  omega
theorem wsum_swapL {f : Int → Int} {l : List Int} {p : Nat} {x y : Int} (hx : l[p]? = some x) (hy : l[p + 1]? = some y) (h1 : f y < f x) : wsum f 0 l < wsum f 0 (swapL l p x y) := by
  obtain ⟨a, b, _, e, s⟩ := cut_two hx hy
  rw [s, e]
  exact wsum_swap h1 a b 0
theorem wsum_le {f : Int → Int} (hf : ∀ x, 0 ≤ f x ∧ f x ≤ 255) : ∀ (l : List Int) (k n : Nat), k + l.length ≤ n → 0 ≤ wsum f k l ∧ wsum f k l ≤ (l.length : Int) * ((n : Int) * 255) := by
  intro l
  induction l with
  | nil => intro k n _; simp [wsum]
  | cons x l ih =>
    intro k n h
    rw [List.length_cons] at h
    obtain ⟨i0, i1⟩ := ih (k + 1) n (by omega)
    have h1 : (k : Int) * f x ≤ (n : Int) * 255 := Int.mul_le_mul (by omega) (hf x).2 (hf x).1 (by omega)
    have h2 : (0 : Int) ≤ (k : Int) * f x := Int.mul_nonneg (by omega) (hf x).1
    rw [wsum, List.length_cons]
    push_cast
    rw [Int.add_mul]
    omega
/-- What is left to be exchanged. -/
def leftO (f : Int → Int) (l : List Int) : Nat := ((l.length : Int) * ((l.length : Int) * 255) - wsum f 0 l).toNat
theorem leftO_swap {f : Int → Int} (hf : ∀ x, 0 ≤ f x ∧ f x ≤ 255) {l : List Int} {p : Nat} {x y : Int} (hx : l[p]? = some x) (hy : l[p + 1]? = some y) (h1 : f y < f x) : leftO f (swapL l p x y) < leftO f l := by
  have h := wsum_swapL hx hy h1
  have h2 := (wsum_le hf (swapL l p x y) 0 l.length (by rw [swapL_length]; omega)).2
  unfold leftO
  rw [swapL_length] at h2 ⊢
  omega
/-- Inserting: the first i are in order, but for the one that moves (at g). -/
structure Ins (f : Int → Int) (l o : List Int) (i g : Nat) (m : Int) : Prop where
  len : o.length = l.length
  can : can f o = can f l
  le : g ≤ i
  lt : i < l.length
  m : o[g]? = some m
  ok : ∀ p a b, p + 1 ≤ i → p + 1 ≠ g → o[p]? = some a → o[p + 1]? = some b → okP f a b
  skip : ∀ p a b, p + 1 = g → g + 1 ≤ i → o[p]? = some a → o[g + 1]? = some b → okP f a b
theorem Ins.start {f : Int → Int} {l o : List Int} {i : Nat} {m : Int} (hl : o.length = l.length) (hc : ND.can f o = ND.can f l) (hs : SortN f i o) (hi : i < l.length) (hm : o[i]? = some m) : Ins f l o i i m :=
  ⟨hl, hc, Nat.le_refl _, hi, hm, fun p a b h1 h2 ha hb => hs p a b (by omega) ha hb, fun p a b _ h => absurd h (by omega)⟩
theorem Ins.step {f : Int → Int} {l o : List Int} {i p : Nat} {m x : Int} (h : Ins f l o i (p + 1) m) (hx : o[p]? = some x) (h0 : 0 < f m) (h1 : f m < f x) : Ins f l (swapL o p x m) i p m where
  len := by rw [swapL_length, h.len]
  can := by rw [can_swapL hx h.m h0 h1, h.can]
  le := by have := h.le; omega
  lt := h.lt
  m := by rw [swapL_at hx h.m, if_pos rfl]
  ok q a b hq hne ha hb := by
    rw [swapL_at hx h.m] at ha hb
    by_cases e : q = p
    · subst e
      rw [if_pos rfl] at ha
      rw [if_neg (by omega), if_pos rfl] at hb
      cases ha; cases hb
      intro e; omega
    · rw [if_neg e] at ha
      by_cases e2 : q = p + 1
      · subst e2
        rw [if_pos rfl] at ha
        rw [if_neg (by omega), if_neg (by omega)] at hb
        cases ha
        exact h.skip p _ b rfl hq hx hb
      · rw [if_neg e2] at ha
        rw [if_neg (by omega), if_neg (by omega)] at hb
        exact h.ok q a b hq (by omega) ha hb
  skip q a b hq hi ha hb := by
    rw [swapL_at hx h.m] at ha hb
    rw [if_neg (by omega), if_neg (by omega)] at ha
    rw [if_neg (by omega), if_pos rfl] at hb
    cases hb
    subst hq
    exact h.ok q a _ (by omega) (by omega) ha hx
theorem Ins.stop {f : Int → Int} {l o : List Int} {i g : Nat} {m : Int} (h : Ins f l o i g m) (hs : ∀ p x, p + 1 = g → o[p]? = some x → ¬ (f m < f x)) : SortN f (i + 1) o := fun p a b hp ha hb => by
  by_cases e : p + 1 = g
  · have h2 := h.m
    rw [← e, hb] at h2
    cases h2
    exact fun h3 => hs p a e ha h3.2
  · exact h.ok p a b (by omega) e ha hb

theorem SortN.more {f : Int → Int} {l : List Int} {n : Nat} {x y : Int} (h : SortN f (n + 1) l) (hx : l[n]? = some x) (hy : l[n + 1]? = some y) (ho : okP f x y) : SortN f (n + 2) l := fun p a b hp ha hb => by
  by_cases e : p = n
  · subst e; rw [hx] at ha; rw [hy] at hb; cases ha; cases hb; exact ho
  · exact h p a b (by omega) ha hb
theorem SortN.zero {f : Int → Int} {l : List Int} {n : Nat} {y : Int} (h : SortN f n l) (hy : l[n]? = some y) (h0 : f y ≤ 0) : SortN f (n + 1) l := fun p a b hp ha hb => by
  by_cases e : p + 1 = n
  · subst e; rw [hy] at hb; cases hb; exact fun h3 => by omega
  · exact h p a b (by omega) ha hb
theorem sortN_one (f : Int → Int) (l : List Int) : SortN f 1 l := fun i x y h => by omega

/-- The reference's exchanging: one pass, begun at o0, has come to i. -/
structure Bub (f : Int → Int) (l o0 o : List Int) (i : Nat) (more : Bool) : Prop where
  len : o.length = l.length
  can : can f o = can f l
  yes : more = true → leftO f o < leftO f o0
  no : more = false → o = o0 ∧ SortN f i o
theorem Bub.start {f : Int → Int} {l o : List Int} (hl : o.length = l.length) (hc : ND.can f o = ND.can f l) : Bub f l o o 1 false :=
  ⟨hl, hc, fun h => (by cases h), fun _ => ⟨rfl, sortN_one _ _⟩⟩
theorem Bub.swap {f : Int → Int} {l o0 o : List Int} {p : Nat} {more : Bool} {x y : Int} (hf : ∀ x, 0 ≤ f x ∧ f x ≤ 255) (h : Bub f l o0 o (p + 1) more) (hx : o[p]? = some x) (hy : o[p + 1]? = some y) (h0 : 0 < f y) (h1 : f y < f x) : Bub f l o0 (swapL o p x y) (p + 2) true where
  len := by rw [swapL_length, h.len]
  can := by rw [can_swapL hx hy h0 h1, h.can]
  yes _ := by
    have h2 := leftO_swap hf hx hy h1
    cases more with
    | true => have := h.yes rfl; omega
    | false => rw [(h.no rfl).1] at h2 ⊢; exact h2
  no h := by cases h
theorem Bub.next {f : Int → Int} {l o0 o : List Int} {p : Nat} {more : Bool} {x y : Int} (h : Bub f l o0 o (p + 1) more) (hx : o[p]? = some x) (hy : o[p + 1]? = some y) (hn : okP f x y) : Bub f l o0 o (p + 2) more :=
  ⟨h.len, h.can, h.yes, fun e => ⟨(h.no e).1, (h.no e).2.more hx hy hn⟩⟩
theorem sorted_done {f : Int → Int} {l o : List Int} {n : Nat} (hl : o.length = l.length) (hc : can f o = can f l) (hn : l.length ≤ n) (hs : SortN f n o) : o = can f l := by
  rw [← hc]
  exact (can_sorted o fun p a b hp ha hb => hs p a b (by omega) ha hb).symm

/-- Where the runs begin and end. -/
def runsGo (f : Int → Int) : Nat → Bool → List Int → List Int
  | i, ins, [] => if ins then [(i : Int)] else []
  | i, ins, c :: r => if (f c != 0) == ins then runsGo f (i + 1) ins r else (i : Int) :: runsGo f (i + 1) (!ins) r
def runsL (f : Int → Int) (l : List Int) : List Int := runsGo f 0 false l
theorem runsGo_step {f : Int → Int} {l : List Int} {i : Nat} {c : Int} (ins : Bool) (h : l[i]? = some c) : runsGo f i ins (l.drop i) = if (f c != 0) == ins then runsGo f (i + 1) ins (l.drop (i + 1)) else (i : Int) :: runsGo f (i + 1) (!ins) (l.drop (i + 1)) := by
  obtain ⟨h1, e⟩ := List.getElem?_eq_some_iff.1 h
  rw [List.drop_eq_getElem_cons h1, e, runsGo]
theorem runsGo_end {f : Int → Int} {l : List Int} {i : Nat} (ins : Bool) (h : l.length ≤ i) : runsGo f i ins (l.drop i) = if ins then [(i : Int)] else [] := by
  rw [List.drop_of_length_le h, runsGo]
theorem runsGo_len (f : Int → Int) : ∀ (l : List Int) (i : Nat) (ins : Bool), (runsGo f i ins l).length ≤ l.length + 1 := by
  intro l
  induction l with
  | nil => intro i ins; rw [runsGo]; split <;> simp
  | cons c r ih =>
    intro i ins
    rw [runsGo]
    split
    · have := ih (i + 1) ins; simp; omega
    · have := ih (i + 1) (!ins); simp; omega
/-- From inside a run: where it ends, and what follows. -/
theorem runsGo_inside (f : Int → Int) : ∀ (r : List Int) (i : Nat), ∃ k, i ≤ k ∧ runsGo f i true r = (k : Int) :: (runsGo f i true r).tail := by
  intro r
  induction r with
  | nil => intro i; exact ⟨i, Nat.le_refl _, rfl⟩
  | cons c r ih =>
    intro i
    rw [runsGo]
    split
    · obtain ⟨k, h1, h2⟩ := ih (i + 1)
      exact ⟨k, by omega, h2⟩
    · exact ⟨i, Nat.le_refl _, rfl⟩

theorem putO_filter {f : Int → Int} {x v : Int} : ∀ R, (putO f x R).filter (fun c => f c == v) = (x :: R).filter (fun c => f c == v) := by
  intro R
  induction R with
  | nil => rfl
  | cons y r ih =>
    rw [putO]
    split
    · rename_i h
      rw [List.filter_cons, ih]
      simp only [List.filter_cons]
      by_cases hx : f x = v
      · rw [if_neg (by simp; omega)]; simp [hx]; intro e; omega
      · simp [hx]
    · rfl
theorem can_filter (f : Int → Int) (v : Int) : ∀ l, (can f l).filter (fun c => f c == v) = l.filter (fun c => f c == v) := by
  intro l
  induction l with
  | nil => rfl
  | cons x r ih => rw [can, putO_filter, List.filter_cons, ih, List.filter_cons]
theorem can_same {f : Int → Int} {x y v : Int} {a b : List Int} (hx : f x = v) (hy : f y = v) (h : can f (a ++ x :: y :: b) = can f (a ++ y :: x :: b)) : x = y := by
  have h1 := can_filter f v (a ++ x :: y :: b)
  rw [h, can_filter] at h1
  simp only [List.filter_append, List.filter_cons, hx, hy, beq_self_eq_true, if_true] at h1
  have := List.append_cancel_left h1
  injection this with e _
  exact e.symm
theorem putO_app {f : Int → Int} {x z : Int} (hz : f z ≤ 0) (S : List Int) : ∀ R, putO f x (R ++ z :: S) = putO f x R ++ z :: S := by
  intro R
  induction R with
  | nil => simp only [List.nil_append, putO]; rw [if_neg (by omega)]; rfl
  | cons y r ih =>
    simp only [List.cons_append, putO]
    split
    · rw [ih]; rfl
    · rfl
theorem can_app {f : Int → Int} {z : Int} (hf : ∀ x, 0 ≤ f x) (hz : f z = 0) (b : List Int) : ∀ a, can f (a ++ z :: b) = can f a ++ z :: can f b := by
  intro a
  induction a with
  | nil =>
    simp only [List.nil_append, can]
    cases can f b with
    | nil => rfl
    | cons y r => rw [putO, if_neg (by have := hf y; omega)]
  | cons x a ih => simp only [List.cons_append, can, ih, putO_app (by omega : f z ≤ 0)]
theorem putO_at {f : Int → Int} {x z : Int} (hz : f z = 0) : ∀ (R : List Int) (i : Nat), R[i]? = some z → (putO f x R)[i + 1]? = some z := by
  intro R
  induction R with
  | nil => intro i h; simp at h
  | cons y r ih =>
    intro i h
    rw [putO]
    split
    · rename_i hc
      cases i with
      | zero => simp at h; subst h; omega
      | succ i => rw [List.getElem?_cons_succ]; exact ih i (by simpa using h)
    · rw [List.getElem?_cons_succ]; exact h
theorem can_at {f : Int → Int} {z : Int} (hf : ∀ x, 0 ≤ f x) (hz : f z = 0) : ∀ (l : List Int) (i : Nat), l[i]? = some z → (can f l)[i]? = some z := by
  intro l
  induction l with
  | nil => intro i h; simp at h
  | cons x r ih =>
    intro i h
    rw [can]
    cases i with
    | zero =>
      simp at h; subst h
      cases can f r with
      | nil => rfl
      | cons y q => rw [putO, if_neg (by have := hf y; omega)]; rfl
    | succ i => exact putO_at hz _ _ (ih i (by simpa using h))
theorem putO_count {f : Int → Int} {x z : Int} : ∀ R, (putO f x R).count z = (x :: R).count z := by
  intro R
  induction R with
  | nil => rfl
  | cons y r ih =>
    rw [putO]
    split
    · rw [List.count_cons, ih]; simp only [List.count_cons]; omega
    · rfl
theorem can_count (f : Int → Int) (z : Int) : ∀ l, (can f l).count z = l.count z := by
  intro l
  induction l with
  | nil => rfl
  | cons x r ih => rw [can, putO_count, List.count_cons, ih, List.count_cons]
end ND
/-
  What tables without a violated rule give: the range of the classes.
-/
namespace Go.Proofs.YtikcfoobfobmnaaGreatDoor
open Go.RowKit ND

theorem rules_of {T : Tab} (h : T.check = 0) : T.rule1 = true ∧ T.rule2 = true ∧ T.rule3 = true ∧ T.rule4 = true ∧ T.rule5 = true ∧ T.rule6 = true ∧ T.rule7 = true ∧ T.rule8 = true ∧ T.rule9 = true := by
  unfold Tab.check at h
  cases h1 : T.rule1 <;> cases h2 : T.rule2 <;> cases h3 : T.rule3 <;> cases h4 : T.rule4 <;> cases h5 : T.rule5 <;> cases h6 : T.rule6 <;> cases h7 : T.rule7 <;> cases h8 : T.rule8 <;> cases h9 : T.rule9 <;> simp [h1, h2, h3, h4, h5, h6, h7, h8, h9] at h ⊢
theorem shape_of {T : Tab} (h : T.check = 0) : Shape T := Shape.of (rules_of h).1 (rules_of h).2.1
theorem sized_of {T : Tab} (h : T.check = 0) : Sized T := Sized.of (rules_of h).2.2.2.1
theorem valueL_mem (l : List Sp) (c : Int) : valueL l c = 0 ∨ ∃ s ∈ l, valueL l c = s.2.2 := by
  induction l with
  | nil => exact .inl rfl
  | cons s r ih =>
    by_cases h : s.1 ≤ c ∧ c ≤ s.2.1
    · exact .inr ⟨s, List.mem_cons_self, by rw [valueL, if_pos h]⟩
    · rcases ih with ih | ⟨q, hq, e⟩
      · exact .inl (by rw [valueL, if_neg h]; exact ih)
      · exact .inr ⟨q, List.mem_cons_of_mem _ hq, by rw [valueL, if_neg h]; exact e⟩
theorem vals_in {T : Tab} (h : T.check = 0) {l : List Sp} {a b : Int} (hm : (l, a, b) ∈ T.cols) : ∀ s ∈ l, a ≤ s.2.2 ∧ s.2.2 ≤ b := by
  have h3 := (rules_of h).2.2.1
  unfold Tab.rule3 at h3
  rw [List.all_eq_true] at h3
  have h4 := h3 _ hm
  unfold valsOk at h4
  rw [List.all_eq_true] at h4
  intro s hs
  simpa using h4 s hs
theorem cls_range {T : Tab} (h : T.check = 0) (c : Int) : 0 ≤ T.classOf c ∧ T.classOf c ≤ 255 := by
  rcases valueL_mem T.cls c with e | ⟨s, hs, e⟩
  · unfold Tab.classOf; rw [e]; omega
  · have := vals_in h (l := T.cls) (a := 1) (b := 254) (by simp [Tab.cols]) s hs
    unfold Tab.classOf; rw [e]; omega
end Go.Proofs.YtikcfoobfobmnaaGreatDoor
/-
  A drawn region by what holds of each slot: values, sequences that have a property, tables that have one.
-/
namespace Go.Proofs.YtikcfoobfobmnaaGreatDoor
open Go.RowKit ND

/-- What is said of a slot. -/
inductive SpecQ where
  | val (v : Value)
  | lst (p : List Int → Prop)
  | tab (p : Tab → Prop)
  | two (n : Int) (p : List Int → Prop)
def SpecQ.ok : SpecQ → Value → World → Prop
  | .val u, v, _ => v = u
  | .lst p, v, w => ∃ ys, Ints w w.heap.size .i64 v ys ∧ p ys
  | .tab p, v, w => ∃ (t : Tv) (T : Tab), v = t.val ∧ TabR w w.heap.size t T ∧ p T
  | .two n p, v, w => ∃ u ys, v = .tuple #[u, .int .i64 n] ∧ Ints w w.heap.size .i64 u ys ∧ p ys
def RQ (specs : List SpecQ) (i : Nat) (v : Value) (w : World) : Prop := ∀ s, specs[i]? = some s → s.ok v w
theorem SpecQ.later {s : SpecQ} {v : Value} {w w' : World} (h : s.ok v w) (hb : Below w.heap.size w w') : s.ok v w' := by
  cases s with
  | val u => exact h
  | lst p => obtain ⟨ys, h1, h2⟩ := h; exact ⟨ys, h1.later hb, h2⟩
  | tab p => obtain ⟨t, T, e, h1, h2⟩ := h; exact ⟨t, T, e, h1.later hb, h2⟩
  | two n p => obtain ⟨u, ys, e, h1, h2⟩ := h; exact ⟨u, ys, e, h1.later hb, h2⟩
theorem RQ.later {specs : List SpecQ} {i : Nat} {v : Value} {w w' : World} (h : RQ specs i v w) (hb : Below w.heap.size w w') : RQ specs i v w' := fun s hs => SpecQ.later (h s hs) hb

/-- The obligation of one operation. -/
def ObQ (P : Program) (ops : Array Oper) (n : Nat) (ds : List Deferred) (fixed : List (Tmp × Value)) (C : World → Prop) (specs : List SpecQ) (Q : Exit → Act → World → Prop) (i : Nat) (o : Oper) : Prop :=
  ∀ a w, C w → FS n ds fixed a → Deps .any ops (RQ specs) o a w → ∀ K : Act → World → Prop, (∀ v w', RQ specs i v w' → C w' → Below w.heap.size w w' → K (a.put o.dst v) w') →
    if Region.wanted o (yielded ops a.tmps) = true then o.wp P a w K Q else K (a.put o.dst undef) w

theorem dep_q {ops : Array Oper} {specs : List SpecQ} {k : Nat} {o : Oper} {a : Act} {w : World} (ho : ops[k]? = some o) (hd : Deps .any ops (RQ specs) o a w) (j : Nat) (d : Tmp) (s : SpecQ)
    (h1 : ((ops[k]?).map fun o => o.after.any fun e => Region.binds .any e && e.on == j) = some true) (h2 : ((ops[j]?).map (·.dst)) = some (some d)) (h3 : specs[j]? = some s) : ∃ v, a.tmps[d]? = some v ∧ s.ok v w := by
  have h4 := get_op (fun o => o.after.any fun e => Region.binds .any e && e.on == j) ho h1
  obtain ⟨e, he, hb⟩ := Array.any_eq_true'.1 h4
  rw [Bool.and_eq_true, beq_iff_eq] at hb
  cases hj : ops[j]? with
  | none => rw [hj] at h2; cases h2
  | some oj =>
    rw [hj] at h2
    obtain ⟨v, hv, hr⟩ := hd e he hb.1 oj d (by rw [hb.2, hj]) (by simpa using h2)
    exact ⟨v, hv, hr s (by rw [hb.2]; exact h3)⟩

theorem rq_of {specs : List SpecQ} {k : Nat} {s0 : SpecQ} {v : Value} {w : World} (h : specs[k]? = some s0) (hok : s0.ok v w) : RQ specs k v w := fun s hs => by
  rw [h] at hs; cases hs; exact hok
theorem end_q {ops : Array Oper} {specs : List SpecQ} {a : Act} {w : World} (hr : ∀ (i : Nat) (o : Oper) (d : Tmp), ops[i]? = some o → o.dst = some d → ∃ v, a.tmps[d]? = some v ∧ RQ specs i v w) (i : Nat) (d : Tmp) (s : SpecQ)
    (h2 : ((ops[i]?).map (·.dst)) = some (some d)) (h3 : specs[i]? = some s) : ∃ v, a.tmps[d]? = some v ∧ s.ok v w := by
  cases hj : ops[i]? with
  | none => rw [hj] at h2; cases h2
  | some oj =>
    rw [hj] at h2
    obtain ⟨v, hv, h⟩ := hr i oj d hj (by simpa using h2)
    exact ⟨v, hv, h s h3⟩

theorem wp_region_q {P : Program} {id n : Nat} {ops : Array Oper} {Q : Exit → Act → World → Prop} {a : Act} {w : World} {ds : List Deferred} {fixed : List (Tmp × Value)} {C : World → Prop} {specs : List SpecQ} (hm : P.follows .mixedOrders = true)
    (hck : checksB ops n (fixed.map (·.1)) = true) (hf : FS n ds fixed a) (hc : C w.drew)
    (hob : ∀ (i : Nat) (o : Oper), ops[i]? = some o → ObQ P ops n ds fixed C specs Q i o)
    (hend : ∀ a w, C w → FS n ds fixed a → (∀ (i : Nat) (o : Oper) (d : Tmp), ops[i]? = some o → o.dst = some d → ∃ v, a.tmps[d]? = some v ∧ RQ specs i v w) → Q .normal a w) : (Code.region id ops true).wp P Q a w := by
  unfold checksB at hck
  rw [Bool.and_eq_true, Bool.and_eq_true, List.all_eq_true] at hck
  obtain ⟨⟨h1, h2⟩, h3⟩ := hck
  have hat : ∀ {i : Nat} {o : Oper}, ops[i]? = some o → ops.toList[i]? = some o := fun h => by simpa using h
  have hin : ∀ {i : Nat} {o : Oper} {d : Tmp}, ops[i]? = some o → o.dst = some d → d < n ∧ d ∉ fixed.map (·.1) := fun h hd => by
    have := h3 _ (List.mem_of_getElem? (hat h))
    rw [hd] at this
    simpa using this
  refine wp_region_any hm (wpAny_inv (F := FS n ds fixed) (C := C) (R := RQ specs) ?_ ?_ ?_ ?_ (fun i v w w' h hb => RQ.later h hb) ?_ hend _ _ _ _ ⟨by simp, hc, hf, fun i o d _ hl _ => ?_⟩ ?_)
  · intro i o ho e he _
    have := lowB_at h1 (hat ho) e he
    omega
  · intro i j o o' d hi hj hij hd hd'
    have hi' : (ops.toList.map (·.dst))[i]? = some (some d) := by rw [List.getElem?_map, hat hi]; simp [hd]
    have hj' : (ops.toList.map (·.dst))[j]? = some (some d) := by rw [List.getElem?_map, hat hj]; simp [hd']
    rcases Nat.lt_or_gt_of_ne hij with h | h
    · exact nodupB_at h2 h hi' hj'
    · exact nodupB_at h2 h hj' hi'
  · intro i o a v ho ⟨q1, q2, q3⟩
    cases hd : o.dst with
    | none => exact ⟨q1, q2, q3⟩
    | some d =>
      obtain ⟨_, hn⟩ := hin ho hd
      refine ⟨by simpa [Act.put] using q1, q2, fun p hp => ?_⟩
      have hne : d ≠ p.1 := fun e => hn (e ▸ List.mem_map_of_mem hp)
      simp [Act.put, hne, q3 p hp]
  · intro i o d a ho hd hf
    rw [hf.1]; exact (hin ho hd).1
  · intro i o ho a w hc hf hd K hK
    refine hob i o ho a w hc hf hd K fun v w' hr hc' hb => hK v w' (fun _ _ => hr) hc' hb
  · rw [Array.getD_eq_getD_getElem?, Array.getElem?_replicate] at hl
    split at hl <;> simp at hl
  · unfold unl
    exact Nat.le_trans List.countP_le_length (by simp)

section
variable {P : Program} {f : FuncId} {tys : Array TypeId} {a : Act} {o : Oper} {w : World}
theorem enter0 (ho : o.op = .call { callee := .value (.func f), args := #[], argTypes := tys })
    (eg : ∀ args w, (callFunc f args).run P w = .ok (.enter f args) w) : (execOp a.eval o).run P w = .ok (.enter f #[]) w := by
  unfold execOp
  rw [ho]
  have hf : a.eval (.func f) = .func (.func f) #[] #[] := rfl
  simp [resolve, invoke, Deferred.ofValue, hf, eg]
theorem enter1 {x : Operand} {vx : Value} (ho : o.op = .call { callee := .value (.func f), args := #[x], argTypes := tys }) (hx : a.eval x = vx)
    (eg : ∀ args w, (callFunc f args).run P w = .ok (.enter f args) w) : (execOp a.eval o).run P w = .ok (.enter f #[vx]) w := by
  unfold execOp
  rw [ho]
  have hf : a.eval (.func f) = .func (.func f) #[] #[] := rfl
  simp [resolve, invoke, Deferred.ofValue, hx, hf, eg]
theorem enter3 {x y z : Operand} {vx vy vz : Value} (ho : o.op = .call { callee := .value (.func f), args := #[x, y, z], argTypes := tys }) (hx : a.eval x = vx) (hy : a.eval y = vy) (hz : a.eval z = vz)
    (eg : ∀ args w, (callFunc f args).run P w = .ok (.enter f args) w) : (execOp a.eval o).run P w = .ok (.enter f #[vx, vy, vz]) w := by
  unfold execOp
  rw [ho]
  have hf : a.eval (.func f) = .func (.func f) #[] #[] := rfl
  simp [resolve, invoke, Deferred.ofValue, hx, hy, hz, hf, eg]
theorem enter4 {x y z q : Operand} {vx vy vz vq : Value} (ho : o.op = .call { callee := .value (.func f), args := #[x, y, z, q], argTypes := tys }) (hx : a.eval x = vx) (hy : a.eval y = vy) (hz : a.eval z = vz) (hq : a.eval q = vq)
    (eg : ∀ args w, (callFunc f args).run P w = .ok (.enter f args) w) : (execOp a.eval o).run P w = .ok (.enter f #[vx, vy, vz, vq]) w := by
  unfold execOp
  rw [ho]
  have hf : a.eval (.func f) = .func (.func f) #[] #[] := rfl
  simp [resolve, invoke, Deferred.ofValue, hx, hy, hz, hq, hf, eg]
end
theorem unwanted_at {ops : Array Oper} {k g : Nat} {b c : Bool} {o : Oper} {a : Act} {d : Tmp} {v : Value} (ho : ops[k]? = some o) (hg : ((ops[k]?).map (·.guard)) = some (some (g, b))) (h2 : ((ops[g]?).map (·.dst)) = some (some d)) (hv : a.tmps[d]? = some v) (he : v = .bool c) (hc : c ≠ b) : ¬ Region.wanted o (yielded ops a.tmps) = true := by
  subst he
  cases hj : ops[g]? with
  | none => rw [hj] at h2; cases h2
  | some og =>
    rw [hj] at h2
    have hd : og.dst = some d := by simpa using h2
    have hgo := get_op (·.guard) ho hg
    cases b <;> cases c <;> first | exact absurd rfl hc | simp [Region.wanted, hgo, yielded, hj, hd, hv]
end Go.Proofs.YtikcfoobfobmnaaGreatDoor
