/-
  Merged texts: lemmas and walks that the last text of this claim leans on.
-/
import Derived.Test.YtneinkpfhkojgaaGreatDoorMgZ132
import Derived.Test.YtneinkpfhkojgaaGreatDoorMgZ131
import Derived.Test.YtneinkpfhkojgaaGreatDoorMgZ135
import Derived.Test.YtneinkpfhkojgaaGreatDoorMgZ136
import Derived.Test.YtneinkpfhkojgaaGreatDoorMgZ133
import Derived.Deep.Cut
import Derived.Deep.CutRange
import Derived.BigQuiet
import Derived.Test.YtneinkpfhkojgaaGreatDoorMgZ139
import Derived.Test.YtneinkpfhkojgaaGreatDoorMgZ134
/-
  Canonical order of combining marks, in plain Lean: exchanging neighbours that are out of order changes no canonical order, and what is in order is its own.
-/
namespace ND

/-- x, put ahead of a sequence in order. -/
def putO (f : Int → Int) (x : Int) : List Int → List Int
  | [] => [x]
  | y :: r => if 0 < f y ∧ f y < f x then y :: putO f x r else x :: y :: r
/-- The canonical order. -/
def can (f : Int → Int) : List Int → List Int
  | [] => []
  | x :: r => putO f x (can f r)
/-- Two neighbours are in order. -/
def okP (f : Int → Int) (x y : Int) : Prop := ¬ (0 < f y ∧ f y < f x)
/-- In order up to n. -/
def SortN (f : Int → Int) (n : Nat) (l : List Int) : Prop := ∀ i x y, i + 1 < n → l[i]? = some x → l[i + 1]? = some y → okP f x y

theorem putO_swap {f : Int → Int} {x y : Int} (h0 : 0 < f y) (h1 : f y < f x) : ∀ R, putO f x (putO f y R) = putO f y (putO f x R) := by
  intro R
  induction R with
  | nil => simp only [putO]; rw [if_pos ⟨h0, h1⟩, if_neg (by omega)]
  | cons z R ih =>
    by_cases hz : 0 < f z ∧ f z < f y
    · have hx : 0 < f z ∧ f z < f x := ⟨hz.1, by omega⟩
      simp only [putO, if_pos hz, if_pos hx, ih]
    · simp only [putO, if_neg hz, if_pos (And.intro h0 h1)]
      by_cases hx : 0 < f z ∧ f z < f x
      · simp only [putO, if_pos hx, if_neg hz]
      · simp only [if_neg hx, putO]
        rw [if_neg (by omega)]
theorem can_swap {f : Int → Int} {x y : Int} (h0 : 0 < f y) (h1 : f y < f x) (a b : List Int) : can f (a ++ x :: y :: b) = can f (a ++ y :: x :: b) := by
  induction a with
  | nil => exact putO_swap h0 h1 _
  | cons z a ih => simp only [List.cons_append, can, ih]
theorem can_sorted {f : Int → Int} : ∀ l : List Int, SortN f l.length l → can f l = l := by
  intro l
  induction l with
  | nil => intro _; rfl
  | cons x r ih =>
    intro h
    have hr : SortN f r.length r := fun i a b hi ha hb => h (i + 1) a b (by simp; omega) (by simpa using ha) (by simpa using hb)
    rw [can, ih hr]
    cases r with
    | nil => rfl
    | cons y r =>
      have := h 0 x y (by simp) rfl rfl
      rw [putO, if_neg this]
theorem putO_length (f : Int → Int) (x : Int) : ∀ l, (putO f x l).length = l.length + 1 := by
  intro l
  induction l with
  | nil => rfl
  | cons y r ih => rw [putO]; split <;> simp [ih]
theorem can_length (f : Int → Int) : ∀ l, (can f l).length = l.length := by
  intro l
  induction l with
  | nil => rfl
  | cons x r ih => rw [can, putO_length, ih]; rfl
theorem putO_mem {f : Int → Int} {x z : Int} : ∀ {l}, z ∈ putO f x l ↔ z = x ∨ z ∈ l := by
  intro l
  induction l with
  | nil => simp [putO]
  | cons y r ih =>
    rw [putO]
    split
    · simp only [List.mem_cons, ih]
      constructor
      · rintro (h | h | h) <;> simp [h]
      · rintro (h | h | h) <;> simp [h]
    · simp
theorem can_mem {f : Int → Int} {z : Int} : ∀ {l}, z ∈ can f l ↔ z ∈ l := by
  intro l
  induction l with
  | nil => simp [can]
  | cons x r ih => rw [can, putO_mem, ih]; simp
theorem sortN_cons {f : Int → Int} {x y : Int} {r : List Int} (h : okP f x y) (hr : SortN f (r.length + 1) (y :: r)) : SortN f (r.length + 2) (x :: y :: r) := fun i a b hi ha hb => by
  cases i with
  | zero => simp at ha hb; subst ha; subst hb; exact h
  | succ i => exact hr i a b (by omega) (by simpa using ha) (by simpa using hb)
theorem putO_sorted {f : Int → Int} {x : Int} : ∀ l, SortN f l.length l → SortN f (putO f x l).length (putO f x l) := by
  intro l
  induction l with
  | nil => intro _ i a b hi; simp [putO] at hi
  | cons y r ih =>
    intro h
    have hr : SortN f r.length r := fun i a b hi ha hb => h (i + 1) a b (by simp; omega) (by simpa using ha) (by simpa using hb)
    by_cases hc : 0 < f y ∧ f y < f x
    · rw [putO, if_pos hc]
      have h2 := ih hr
      cases r with
      | nil => simp only [putO] at h2 ⊢; exact sortN_cons (fun e => by omega) (fun i a b hi => by simp at hi)
      | cons z r =>
        by_cases hz : 0 < f z ∧ f z < f x
        · simp only [putO, if_pos hz] at h2 ⊢
          exact sortN_cons (h 0 y z (by simp) rfl rfl) h2
        · simp only [putO, if_neg hz] at h2 ⊢
          exact sortN_cons (fun e => by omega) h2
    · rw [putO, if_neg hc]
      exact sortN_cons hc h
theorem can_is_sorted (f : Int → Int) : ∀ l, SortN f (can f l).length (can f l) := by
  intro l
  induction l with
  | nil => intro i a b hi; simp [can] at hi
  | cons x r ih => exact putO_sorted _ ih
theorem can_can (f : Int → Int) (l : List Int) : can f (can f l) = can f l := can_sorted _ (can_is_sorted f l)

/-- Neighbours exchanged. -/
def swapL (l : List Int) (p : Nat) (x y : Int) : List Int := (l.set (p + 1) x).set p y
theorem cut_two {l : List Int} {p : Nat} {x y : Int} (hx : l[p]? = some x) (hy : l[p + 1]? = some y) : ∃ a b, a.length = p ∧ l = a ++ x :: y :: b ∧ swapL l p x y = a ++ y :: x :: b := by
  obtain ⟨h1, e1⟩ := List.getElem?_eq_some_iff.1 hx
  obtain ⟨h2, e2⟩ := List.getElem?_eq_some_iff.1 hy
  have e : l = l.take p ++ x :: y :: l.drop (p + 2) := by
    conv => lhs; rw [← List.take_append_drop p l, List.drop_eq_getElem_cons h1, List.drop_eq_getElem_cons h2, e1, e2]
  refine ⟨l.take p, l.drop (p + 2), by simp; omega, e, ?_⟩
  have hl : (l.take p).length = p := by simp; omega
  rw [swapL]
  generalize l.take p = a at e hl
  generalize l.drop (p + 2) = b at e
  subst e; subst hl
  simp
theorem can_swapL {f : Int → Int} {l : List Int} {p : Nat} {x y : Int} (hx : l[p]? = some x) (hy : l[p + 1]? = some y) (h0 : 0 < f y) (h1 : f y < f x) : can f (swapL l p x y) = can f l := by
  obtain ⟨a, b, _, e, s⟩ := cut_two hx hy
  rw [s, e, can_swap h0 h1]
theorem swapL_length (l : List Int) (p : Nat) (x y : Int) : (swapL l p x y).length = l.length := by simp [swapL]
theorem swapL_at {l : List Int} {p : Nat} {x y : Int} (hx : l[p]? = some x) (hy : l[p + 1]? = some y) (i : Nat) : (swapL l p x y)[i]? = if i = p then some y else if i = p + 1 then some x else l[i]? := by
  have h1 := (List.getElem?_eq_some_iff.1 hx).1
  have h2 := (List.getElem?_eq_some_iff.1 hy).1
  rw [swapL, List.getElem?_set, List.getElem?_set]
  by_cases e : p = i
  · subst e; simp [h1]
  · rw [if_neg e, if_neg (Ne.symm e)]
    by_cases e2 : p + 1 = i
    · subst e2; simp [h2]
    · rw [if_neg e2, if_neg (Ne.symm e2)]

/-- What the exchanging goes up by. -/
def wsum (f : Int → Int) : Nat → List Int → Int
  | _, [] => 0
  | k, x :: r => (k : Int) * f x + wsum f (k + 1) r
theorem wsum_app (f : Int → Int) : ∀ (a b : List Int) (k : Nat), wsum f k (a ++ b) = wsum f k a + wsum f (k + a.length) b := by
  intro a
  induction a with
  | nil => intro b k; simp [wsum]
  | cons x a ih => intro b k; simp only [List.cons_append, wsum, ih, List.length_cons]; rw [show k + 1 + a.length = k + (a.length + 1) by omega]; omega
theorem wsum_swap {f : Int → Int} {x y : Int} (h1 : f y < f x) (a b : List Int) (k : Nat) : wsum f k (a ++ x :: y :: b) < wsum f k (a ++ y :: x :: b) := by
  rw [wsum_app, wsum_app]
  simp only [wsum]
  have e1 : ((k + a.length + 1 : Nat) : Int) * f y = ((k + a.length : Nat) : Int) * f y + f y := by push_cast; rw [Int.add_mul]; omega
  have e2 : ((k + a.length + 1 : Nat) : Int) * f x = ((k + a.length : Nat) : Int) * f x + f x := by push_cast; rw [Int.add_mul]; omega
  rw [e1, e2]
  omega
theorem wsum_swapL {f : Int → Int} {l : List Int} {p : Nat} {x y : Int} (hx : l[p]? = some x) (hy : l[p + 1]? = some y) (h1 : f y < f x) : wsum f 0 l < wsum f 0 (swapL l p x y) := by
  obtain ⟨a, b, _, e, s⟩ := cut_two hx hy
  rw [s, e]
  exact wsum_swap h1 a b 0
theorem wsum_le {f : Int → Int} (hf : ∀ x, 0 ≤ f x ∧ f x ≤ 255) : ∀ (l : List Int) (k n : Nat), k + l.length ≤ n → 0 ≤ wsum f k l ∧ wsum f k l ≤ (l.length : Int) * ((n : Int) * 255) := by
  intro l
  induction l with
  | nil => intro k n _; simp [wsum]
  | cons x l ih =>
    intro k n h
    rw [List.length_cons] at h
    obtain ⟨i0, i1⟩ := ih (k + 1) n (by omega)
    have h1 : (k : Int) * f x ≤ (n : Int) * 255 := Int.mul_le_mul (by omega) (hf x).2 (hf x).1 (by omega)
    have h2 : (0 : Int) ≤ (k : Int) * f x := Int.mul_nonneg (by omega) (hf x).1
    rw [wsum, List.length_cons]
    push_cast
    rw [Int.add_mul]
    omega
/-- What is left to be exchanged. -/
def leftO (f : Int → Int) (l : List Int) : Nat := ((l.length : Int) * ((l.length : Int) * 255) - wsum f 0 l).toNat
theorem leftO_swap {f : Int → Int} (hf : ∀ x, 0 ≤ f x ∧ f x ≤ 255) {l : List Int} {p : Nat} {x y : Int} (hx : l[p]? = some x) (hy : l[p + 1]? = some y) (h1 : f y < f x) : leftO f (swapL l p x y) < leftO f l := by
  have h := wsum_swapL hx hy h1
  have h2 := (wsum_le hf (swapL l p x y) 0 l.length (by rw [swapL_length]; omega)).2
  unfold leftO
  rw [swapL_length] at h2 ⊢
  omega
/-- Inserting: the first i are in order, but for the one that moves (at g). -/
structure Ins (f : Int → Int) (l o : List Int) (i g : Nat) (m : Int) : Prop where
  len : o.length = l.length
  can : can f o = can f l
  le : g ≤ i
  lt : i < l.length
  m : o[g]? = some m
  ok : ∀ p a b, p + 1 ≤ i → p + 1 ≠ g → o[p]? = some a → o[p + 1]? = some b → okP f a b
  skip : ∀ p a b, p + 1 = g → g + 1 ≤ i → o[p]? = some a → o[g + 1]? = some b → okP f a b
theorem Ins.start {f : Int → Int} {l o : List Int} {i : Nat} {m : Int} (hl : o.length = l.length) (hc : ND.can f o = ND.can f l) (hs : SortN f i o) (hi : i < l.length) (hm : o[i]? = some m) : Ins f l o i i m :=
  ⟨hl, hc, Nat.le_refl _, hi, hm, fun p a b h1 h2 ha hb => hs p a b (by omega) ha hb, fun p a b _ h => absurd h (by omega)⟩
theorem Ins.step {f : Int → Int} {l o : List Int} {i p : Nat} {m x : Int} (h : Ins f l o i (p + 1) m) (hx : o[p]? = some x) (h0 : 0 < f m) (h1 : f m < f x) : Ins f l (swapL o p x m) i p m where
  len := by rw [swapL_length, h.len]
  can := by rw [can_swapL hx h.m h0 h1, h.can]
  le := by have := h.le; omega
  lt := h.lt
  m := by rw [swapL_at hx h.m, if_pos rfl]
  ok q a b hq hne ha hb := by
    rw [swapL_at hx h.m] at ha hb
    by_cases e : q = p
    · subst e
      rw [if_pos rfl] at ha
      rw [if_neg (by omega), if_pos rfl] at hb
      cases ha; cases hb
      intro e; omega
    · rw [if_neg e] at ha
      by_cases e2 : q = p + 1
      · subst e2
        rw [if_pos rfl] at ha
        rw [if_neg (by omega), if_neg (by omega)] at hb
        cases ha
        exact h.skip p _ b rfl hq hx hb
      · rw [if_neg e2] at ha
        rw [if_neg (by omega), if_neg (by omega)] at hb
        exact h.ok q a b hq (by omega) ha hb
  skip q a b hq hi ha hb := by
    rw [swapL_at hx h.m] at ha hb
    rw [if_neg (by omega), if_neg (by omega)] at ha
    rw [if_neg (by omega), if_pos rfl] at hb
    cases hb
    subst hq
    exact h.ok q a _ (by omega) (by omega) ha hx
theorem Ins.stop {f : Int → Int} {l o : List Int} {i g : Nat} {m : Int} (h : Ins f l o i g m) (hs : ∀ p x, p + 1 = g → o[p]? = some x → ¬ (f m < f x)) : SortN f (i + 1) o := fun p a b hp ha hb => by
  by_cases e : p + 1 = g
  · have h2 := h.m
    rw [← e, hb] at h2
    cases h2
    exact fun h3 => hs p a e ha h3.2
  · exact h.ok p a b (by omega) e ha hb

theorem SortN.more {f : Int → Int} {l : List Int} {n : Nat} {x y : Int} (h : SortN f (n + 1) l) (hx : l[n]? = some x) (hy : l[n + 1]? = some y) (ho : okP f x y) : SortN f (n + 2) l := fun p a b hp ha hb => by
  by_cases e : p = n
  · subst e; rw [hx] at ha; rw [hy] at hb; cases ha; cases hb; exact ho
  · exact h p a b (by omega) ha hb
theorem SortN.zero {f : Int → Int} {l : List Int} {n : Nat} {y : Int} (h : SortN f n l) (hy : l[n]? = some y) (h0 : f y ≤ 0) : SortN f (n + 1) l := fun p a b hp ha hb => by
  by_cases e : p + 1 = n
  · subst e; rw [hy] at hb; cases hb; exact fun h3 => by omega
  · exact h p a b (by omega) ha hb
theorem sortN_one (f : Int → Int) (l : List Int) : SortN f 1 l := fun i x y h => by omega

/-- The reference's exchanging: one pass, begun at o0, has come to i. -/
structure Bub (f : Int → Int) (l o0 o : List Int) (i : Nat) (more : Bool) : Prop where
  len : o.length = l.length
  can : can f o = can f l
  yes : more = true → leftO f o < leftO f o0
  no : more = false → o = o0 ∧ SortN f i o
theorem Bub.start {f : Int → Int} {l o : List Int} (hl : o.length = l.length) (hc : ND.can f o = ND.can f l) : Bub f l o o 1 false :=
  ⟨hl, hc, fun h => (by cases h), fun _ => ⟨rfl, sortN_one _ _⟩⟩
theorem Bub.swap {f : Int → Int} {l o0 o : List Int} {p : Nat} {more : Bool} {x y : Int} (hf : ∀ x, 0 ≤ f x ∧ f x ≤ 255) (h : Bub f l o0 o (p + 1) more) (hx : o[p]? = some x) (hy : o[p + 1]? = some y) (h0 : 0 < f y) (h1 : f y < f x) : Bub f l o0 (swapL o p x y) (p + 2) true where
  len := by rw [swapL_length, h.len]
  can := by rw [can_swapL hx hy h0 h1, h.can]
  yes _ := by
    have h2 := leftO_swap hf hx hy h1
    cases more with
    | true => have := h.yes rfl; omega
    | false => rw [(h.no rfl).1] at h2 ⊢; exact h2
  no h := by cases h
theorem Bub.next {f : Int → Int} {l o0 o : List Int} {p : Nat} {more : Bool} {x y : Int} (h : Bub f l o0 o (p + 1) more) (hx : o[p]? = some x) (hy : o[p + 1]? = some y) (hn : okP f x y) : Bub f l o0 o (p + 2) more :=
  ⟨h.len, h.can, h.yes, fun e => ⟨(h.no e).1, (h.no e).2.more hx hy hn⟩⟩
theorem sorted_done {f : Int → Int} {l o : List Int} {n : Nat} (hl : o.length = l.length) (hc : can f o = can f l) (hn : l.length ≤ n) (hs : SortN f n o) : o = can f l := by
  rw [← hc]
  exact (can_sorted o fun p a b hp ha hb => hs p a b (by omega) ha hb).symm

/-- Where the runs begin and end. -/
def runsGo (f : Int → Int) : Nat → Bool → List Int → List Int
  | i, ins, [] => if ins then [(i : Int)] else []
  | i, ins, c :: r => if (f c != 0) == ins then runsGo f (i + 1) ins r else (i : Int) :: runsGo f (i + 1) (!ins) r
def runsL (f : Int → Int) (l : List Int) : List Int := runsGo f 0 false l
theorem runsGo_step {f : Int → Int} {l : List Int} {i : Nat} {c : Int} (ins : Bool) (h : l[i]? = some c) : runsGo f i ins (l.drop i) = if (f c != 0) == ins then runsGo f (i + 1) ins (l.drop (i + 1)) else (i : Int) :: runsGo f (i + 1) (!ins) (l.drop (i + 1)) := by
  obtain ⟨h1, e⟩ := List.getElem?_eq_some_iff.1 h
  rw [List.drop_eq_getElem_cons h1, e, runsGo]
theorem runsGo_end {f : Int → Int} {l : List Int} {i : Nat} (ins : Bool) (h : l.length ≤ i) : runsGo f i ins (l.drop i) = if ins then [(i : Int)] else [] := by
  rw [List.drop_of_length_le h, runsGo]
theorem runsGo_len (f : Int → Int) : ∀ (l : List Int) (i : Nat) (ins : Bool), (runsGo f i ins l).length ≤ l.length + 1 := by
  intro l
  induction l with
  | nil => intro i ins; rw [runsGo]; split <;> simp
  | cons c r ih =>
    intro i ins
    rw [runsGo]
    split
    · have := ih (i + 1) ins; simp; omega
    · have := ih (i + 1) (!ins); simp; omega
/-- From inside a run: where it ends, and what follows. -/
theorem runsGo_inside (f : Int → Int) : ∀ (r : List Int) (i : Nat), ∃ k, i ≤ k ∧ runsGo f i true r = (k : Int) :: (runsGo f i true r).tail := by
  intro r
  induction r with
  | nil => intro i; exact ⟨i, Nat.le_refl _, rfl⟩
  | cons c r ih =>
    intro i
    rw [runsGo]
    split
    · obtain ⟨k, h1, h2⟩ := ih (i + 1)
      exact ⟨k, by omega, h2⟩
    · exact ⟨i, Nat.le_refl _, rfl⟩

theorem putO_filter {f : Int → Int} {x v : Int} : ∀ R, (putO f x R).filter (fun c => f c == v) = (x :: R).filter (fun c => f c == v) := by
  intro R
  induction R with
  | nil => rfl
  | cons y r ih =>
    rw [putO]
    split
    · rename_i h
      rw [List.filter_cons, ih]
      simp only [List.filter_cons]
      by_cases hx : f x = v
      · rw [if_neg (by simp; omega)]; simp [hx]; intro e; omega
      · simp [hx]
    · rfl
theorem can_filter (f : Int → Int) (v : Int) : ∀ l, (can f l).filter (fun c => f c == v) = l.filter (fun c => f c == v) := by
  intro l
  induction l with
  | nil => rfl
  | cons x r ih => rw [can, putO_filter, List.filter_cons, ih, List.filter_cons]
theorem can_same {f : Int → Int} {x y v : Int} {a b : List Int} (hx : f x = v) (hy : f y = v) (h : can f (a ++ x :: y :: b) = can f (a ++ y :: x :: b)) : x = y := by
  have h1 := can_filter f v (a ++ x :: y :: b)
  rw [h, can_filter] at h1
  simp only [List.filter_append, List.filter_cons, hx, hy, beq_self_eq_true, if_true] at h1
  have := List.append_cancel_left h1
  injection this with e _
  exact e.symm
theorem putO_app {f : Int → Int} {x z : Int} (hz : f z ≤ 0) (S : List Int) : ∀ R, putO f x (R ++ z :: S) = putO f x R ++ z :: S := by
  intro R
  induction R with
  | nil => simp only [List.nil_append, putO]; rw [if_neg (by omega)]; rfl
  | cons y r ih =>
    simp only [List.cons_append, putO]
    split
    · rw [ih]; rfl
    · rfl
theorem can_app {f : Int → Int} {z : Int} (hf : ∀ x, 0 ≤ f x) (hz : f z = 0) (b : List Int) : ∀ a, can f (a ++ z :: b) = can f a ++ z :: can f b := by
  intro a
  induction a with
  | nil =>
    simp only [List.nil_append, can]
    cases can f b with
    | nil => rfl
    | cons y r => rw [putO, if_neg (by have := hf y; omega)]
  | cons x a ih => simp only [List.cons_append, can, ih, putO_app (by omega : f z ≤ 0)]
theorem putO_at {f : Int → Int} {x z : Int} (hz : f z = 0) : ∀ (R : List Int) (i : Nat), R[i]? = some z → (putO f x R)[i + 1]? = some z := by
  intro R
  induction R with
  | nil => intro i h; simp at h
  | cons y r ih =>
    intro i h
    rw [putO]
    split
    · rename_i hc
      cases i with
      | zero => simp at h; subst h; omega
      | succ i => rw [List.getElem?_cons_succ]; exact ih i (by simpa using h)
    · rw [List.getElem?_cons_succ]; exact h
theorem can_at {f : Int → Int} {z : Int} (hf : ∀ x, 0 ≤ f x) (hz : f z = 0) : ∀ (l : List Int) (i : Nat), l[i]? = some z → (can f l)[i]? = some z := by
  intro l
  induction l with
  | nil => intro i h; simp at h
  | cons x r ih =>
    intro i h
    rw [can]
    cases i with
    | zero =>
      simp at h; subst h
      cases can f r with
      | nil => rfl
      | cons y q => rw [putO, if_neg (by have := hf y; omega)]; rfl
    | succ i => exact putO_at hz _ _ (ih i (by simpa using h))
theorem putO_count {f : Int → Int} {x z : Int} : ∀ R, (putO f x R).count z = (x :: R).count z := by
  intro R
  induction R with
  | nil => rfl
  | cons y r ih =>
    rw [putO]
    split
    · rw [List.count_cons, ih]; simp only [List.count_cons]; omega
    · rfl
theorem can_count (f : Int → Int) (z : Int) : ∀ l, (can f l).count z = l.count z := by
  intro l
  induction l with
  | nil => rfl
  | cons x r ih => rw [can, putO_count, List.count_cons, ih, List.count_cons]
end ND
/-
  What tables without a violated rule give: the range of the classes.
-/
namespace Go.Proofs.YtneinkpfhkojgaaGreatDoor
open Go.RowKit ND

theorem rules_of {T : Tab} (h : T.check = 0) : T.rule1 = true ∧ T.rule2 = true ∧ T.rule3 = true ∧ T.rule4 = true ∧ T.rule5 = true ∧ T.rule6 = true ∧ T.rule7 = true ∧ T.rule8 = true ∧ T.rule9 = true := by
  unfold Tab.check at h
  cases h1 : T.rule1 <;> cases h2 : T.rule2 <;> cases h3 : T.rule3 <;> cases h4 : T.rule4 <;> cases h5 : T.rule5 <;> cases h6 : T.rule6 <;> cases h7 : T.rule7 <;> cases h8 : T.rule8 <;> cases h9 : T.rule9 <;> simp [h1, h2, h3, h4, h5, h6, h7, h8, h9] at h ⊢
theorem shape_of {T : Tab} (h : T.check = 0) : Shape T := Shape.of (rules_of h).1 (rules_of h).2.1
theorem sized_of {T : Tab} (h : T.check = 0) : Sized T := Sized.of (rules_of h).2.2.2.1
theorem valueL_mem (l : List Sp) (c : Int) : valueL l c = 0 ∨ ∃ s ∈ l, valueL l c = s.2.2 := by
  induction l with
  | nil => exact .inl rfl
  | cons s r ih =>
    by_cases h : s.1 ≤ c ∧ c ≤ s.2.1
    · exact .inr ⟨s, List.mem_cons_self, by rw [valueL, if_pos h]⟩
    · rcases ih with ih | ⟨q, hq, e⟩
      · exact .inl (by rw [valueL, if_neg h]; exact ih)
      · exact .inr ⟨q, List.mem_cons_of_mem _ hq, by rw [valueL, if_neg h]; exact e⟩
theorem vals_in {T : Tab} (h : T.check = 0) {l : List Sp} {a b : Int} (hm : (l, a, b) ∈ T.cols) : ∀ s ∈ l, a ≤ s.2.2 ∧ s.2.2 ≤ b := by
  have h3 := (rules_of h).2.2.1
  unfold Tab.rule3 at h3
  rw [List.all_eq_true] at h3
  have h4 := h3 _ hm
  unfold valsOk at h4
  rw [List.all_eq_true] at h4
  intro s hs
  simpa using h4 s hs
theorem cls_range {T : Tab} (h : T.check = 0) (c : Int) : 0 ≤ T.classOf c ∧ T.classOf c ≤ 255 := by
  rcases valueL_mem T.cls c with e | ⟨s, hs, e⟩
  · unfold Tab.classOf; rw [e]; omega
  · have := vals_in h (l := T.cls) (a := 1) (b := 254) (by simp [Tab.cols]) s hs
    unfold Tab.classOf; rw [e]; omega
end Go.Proofs.YtneinkpfhkojgaaGreatDoor
/-
  The walk through order.Sort.
-/
namespace Go.Proofs.YtneinkpfhkojgaaGreatDoor
open Go.RowKit ND

theorem row_le {w : World} {base base' size n : Nat} {e : TypeId} {v : Value} {xs : List Value} (h : w.ownsRow base e size v n xs) (hb : base' ≤ base) : w.ownsRow base' e size v n xs :=
  ⟨h.1, h.2.imp id fun ⟨g, cap, cur, hv, h1, h2⟩ => ⟨g, cap, cur, hv, Nat.le_trans hb h1, h2⟩⟩
/-- A sequence comes back in a row of the call's own. -/
def RetRow (w : World) (ys : List Int) (e : Ending) (w' : World) : Prop := ∃ v, e = .returned v ∧ w'.ownsRow w.heap.size 3 1 v ys.length (ys.map (Value.int .i64)) ∧ Below w.heap.size w w'

set_option maxRecDepth 100000 in
set_option maxHeartbeats 4000000 in
theorem sort_any (t : Tv) (T : Tab) (v : Value) (xs : List Int) (w : World) (ht : TabR w w.heap.size t T) (hck : T.check = 0) (hlen : xs.length ≤ 4096) (hv : Ints w w.heap.size .i64 v xs) :
    Calls Tryz.prog 41 #[t.val, v] w (RetRow w (can T.classOf xs)) := by
  obtain ⟨A, c, rfl, _⟩ := id hv
  have hsh := shape_of hck
  have HF := Lib.hid (fun x => (cls_range hck x).1)
  obtain ⟨f, hf⟩ : ∃ f, T.classOf = f := ⟨_, rfl⟩
  have HC : Hid (∀ (b : Nat) (W : World) (x : Int), Tbl W b t T → Calls Tryz.prog 54 #[.agg #[t.c0, t.c1, t.c2, t.c3, t.c4, t.c5, t.c6, t.c7, t.c8, t.c9, t.c10, t.c11], .int .i64 x] W fun e W' => e = .returned (.int .i64 (f x)) ∧ Below W.heap.size W W') := Lib.hid fun b W x h => by
    have h2 := class_any t T x 0 1114111 W h.2 hsh.c1.1 hsh.c1.2.1
    rw [hf] at h2; exact h2
  rw [hf] at HF ⊢
  have HB0 : Hid (Below w.heap.size w (w.alloc (.cells t.cells 26))) := Lib.hid ((Below.refl _ _).alloc (Nat.le_refl _) _)
  have HT : Hid (Tbl (w.alloc (.cells t.cells 26)) w.heap.size t T) := Lib.hid ⟨Blk.new _ _ _, ht.later HB0.out⟩
  have HV := Lib.hid (hv.later HB0.out)
  clear hv ht hck hsh hf
  go_enter Tryz.func41, Tryz.ntmps41
  go_upto_region 1 with fail
  generalize w.alloc (.cells t.cells 26) = w1 at *
  obtain ⟨tb, htb⟩ : ∃ tb, w.heap.size = tb := ⟨_, rfl⟩
  rw [htb] at HT
  simp only [htb]
  obtain ⟨i0, hi, hz0, hz1, hz2⟩ := info_parts Tryz.infoInt'
  go_upto_region 2 with (at_builtin; refine wpList_append_ints (by rfl) (.const (.slice none 0 0)) (.tmp 9) rfl Tryz.underlying22 hi hz0 hz1 hz2 w1.heap.size w1.heap.size (.slice none 0 0) [] (.slice A xs.length c) xs rfl (World.ownsRow_nil _ _ _ _) rfl HV.out (by simp; omega) (Nat.le_refl _) ?_; intro v5 w2 ho hg _; simp only [List.nil_append] at ho; obtain ⟨A5, c5, rfl, _⟩ := id (Ints.of_own ho); have HO := Lib.hid ho; have HB2 := Lib.hid ((Below.refl _ _).grown hg (Nat.le_refl _) (fun k hk => by cases hk)); clear ho hg)
  go_wp2_with fail
  go_loopw [13] (fun s13 wr => ∃ (k : Nat) (o : List Int), k ≤ xs.length ∧ s13 = .int .i64 k ∧ Hid (o.length = xs.length ∧ can f o = can f xs ∧ SortN f k o) ∧ Hid (wr.ownsRow w1.heap.size 3 1 (.slice A5 xs.length c5) xs.length (o.map (Value.int .i64))) ∧ Hid (Below w1.heap.size w1 wr)) (fun i _ => xs.length - (intOf i).toNat)
  case atStart => exact ⟨0, xs, by omega, rfl, Lib.hid ⟨rfl, rfl, fun i x y h => by omega⟩, HO, HB2⟩
  case round =>
    obtain ⟨k, o, hk, rfl, HS, HOr, HBr⟩ := hrel
    by_cases hlt : k < xs.length
    · obtain ⟨x, hx⟩ : ∃ x, o[k]? = some x := ⟨_, List.getElem?_eq_getElem (by rw [HS.out.1]; exact hlt)⟩
      obtain ⟨gb, cap, e, hgb, _⟩ := HOr.out.form (by omega)
      cases e
      have hcell := (HOr.out.cellAt k (by omega)).trans (by rw [List.getElem?_map, hx]; rfl : (o.map (Value.int .i64))[k]? = some (.int .i64 x))
      have e1 := cell_regrown hcell
      have HX := Lib.hid hx
      have HTr := Lib.hid (HT.out.later HBr.out)
      have HCx : Hid (∀ V, Below wr.heap.size wr V → Calls Tryz.prog 54 #[.agg #[t.c0, t.c1, t.c2, t.c3, t.c4, t.c5, t.c6, t.c7, t.c8, t.c9, t.c10, t.c11], .int .i64 x] V fun e V' => e = .returned (.int .i64 (f x)) ∧ Below V.heap.size V V') := Lib.hid fun V hV => HC.out tb V x (HTr.out.later hV)
      have k0 : (0 : Int) ≤ (k : Int) := by omega
      have k1 : (k : Int) < (xs.length : Int) := by omega
      clear hx hcell
      go_upto_region 5 with fail
      obtain ⟨x0, x1, x2, x3, x4, x5, x6, x7, x8, x9, x10, x11⟩ := HTr.out.1.tabG
      refine wp_region_quiet_below (by kernel_rfl) (by kernel_rfl) ?_
      repeat (go_big_quiet_step ((go_at_call 54; with_reducible exact quiet_t HCx.out)))
      refine wpQuiet_nil ?_
      rintro _ ⟨⟨dq, osq⟩, rfl⟩
      have b5 := below_regrown wr dq osq
      clear x0 x1 x2 x3 x4 x5 x6 x7 x8 x9 x10 x11 e1 HCx HTr
      have HO5 := Lib.hid (own_later HOr.out b5)
      have HB5 := Lib.hid (below_then HBr.out (Nat.le_refl _) b5)
      generalize Go.Sort.grow (redrawn wr dq) osq = w5 at *
      clear HOr HBr b5
      by_cases h0 : f x = 0
      · have hb : (f x == 0) = true := by rw [h0]; rfl
        have HN := Lib.hid (SortN.zero HS.out.2.2 HX.out (by omega))
        clear h0
        go_wp2_with fail
        go_roundw
        case rel => exact ⟨k + 1, o, by omega, by go_num, Lib.hid ⟨HS.out.1, HS.out.2.1, HN.out⟩, HO5, HB5⟩
        case measure => simp [intOf]; omega
      · have hb : (f x == 0) = false := by simpa using h0
        have hpos : 0 < f x := by have := HF.out x; omega
        have HI := Lib.hid (Ins.start (f := f) HS.out.1 HS.out.2.1 HS.out.2.2 hlt HX.out)
        clear h0 HX HS
        go_wp2_with fail
        go_loopw [8] (fun s8 wr => ∃ (q : Nat) (o : List Int), s8 = .int .i64 q ∧ Hid (Ins f xs o k q x) ∧ Hid (wr.ownsRow w1.heap.size 3 1 (.slice (some ⟨gb, 0, none⟩) xs.length c5) xs.length (o.map (Value.int .i64))) ∧ Hid (Below w1.heap.size w1 wr)) (fun i _ => (intOf i).toNat)
        case atStart => exact ⟨k, o, rfl, HI, HO5, HB5⟩
        case round =>
          clear HI HO5 HB5
          obtain ⟨q, o, rfl, HI, HO6, HB6⟩ := hrel
          cases q with
          | zero =>
            have HN := Lib.hid (HI.out.stop (fun p y h => by omega))
            have HL := Lib.hid (And.intro HI.out.len HI.out.can)
            go_upto_region 8 with fail
            refine wp_region_quiet_below (by kernel_rfl) (by kernel_rfl) ?_
            repeat (go_big_quiet_step (fail))
            refine wpQuiet_nil ?_
            rintro _ ⟨⟨dq, osq⟩, rfl⟩
            have b5 := below_regrown wr dq osq
            have HO7 := Lib.hid (own_later HO6.out b5)
            have HB7 := Lib.hid (below_then HB6.out (Nat.le_refl _) b5)
            generalize Go.Sort.grow (redrawn wr dq) osq = w7 at *
            go_wp2_with fail
            go_roundw
            case rel => exact ⟨k + 1, o, by omega, by go_num, Lib.hid ⟨HL.out.1, HL.out.2, HN.out⟩, HO7, HB7⟩
            case measure => simp [intOf]; omega
          | succ p =>
            have hle := HI.out.le
            have hol := HI.out.len
            obtain ⟨y, hy⟩ : ∃ y, o[p]? = some y := ⟨_, List.getElem?_eq_getElem (by omega)⟩
            have hcp := (HO6.out.cellAt p (by omega)).trans (by rw [List.getElem?_map, hy]; rfl : (o.map (Value.int .i64))[p]? = some (.int .i64 y))
            have hcq := (HO6.out.cellAt (p + 1) (by omega)).trans (by rw [List.getElem?_map, HI.out.m]; rfl : (o.map (Value.int .i64))[p + 1]? = some (.int .i64 x))
            have ep := cell_regrown hcp
            have eq := cell_regrown hcq
            have HY := Lib.hid hy
            have HTr := Lib.hid (HT.out.later HB6.out)
            have HCy : Hid (∀ V, Below wr.heap.size wr V → Calls Tryz.prog 54 #[.agg #[t.c0, t.c1, t.c2, t.c3, t.c4, t.c5, t.c6, t.c7, t.c8, t.c9, t.c10, t.c11], .int .i64 y] V fun e V' => e = .returned (.int .i64 (f y)) ∧ Below V.heap.size V V') := Lib.hid fun V hV => HC.out tb V y (HTr.out.later hV)
            have w0 : IntKind.i64.wrap (((p + 1 : Nat) : Int) - 1) = (p : Int) := by rw [IntWalk.i64_in _ (by omega)]; omega
            have w2 : ((p + 1 : Nat) : Int) - 1 = (p : Int) := by omega
            have k2 : (0 : Int) < ((p + 1 : Nat) : Int) := by omega
            have k3 : (0 : Int) ≤ (p : Int) := by omega
            have k4 : (p : Int) < (xs.length : Int) := by omega
            clear hy hcp hcq hle hol
            by_cases h9 : f x < f y
            · have hgt : decide (f x < f y) = true := decide_eq_true h9
              go_upto_region 8 with fail
              obtain ⟨x0, x1, x2, x3, x4, x5, x6, x7, x8, x9, x10, x11⟩ := HTr.out.1.tabG
              refine wp_region_quiet_below (by kernel_rfl) (by kernel_rfl) ?_
              repeat (go_big_quiet_step ((go_at_call 54; with_reducible exact quiet_t HCy.out)))
              refine wpQuiet_nil ?_
              rintro _ ⟨⟨dq, osq⟩, rfl⟩
              have b7 := below_regrown wr dq osq
              clear x0 x1 x2 x3 x4 x5 x6 x7 x8 x9 x10 x11 ep eq HCy HTr
              have HO7 := Lib.hid (own_later HO6.out b7)
              have HB7 := Lib.hid (below_then HB6.out (Nat.le_refl _) b7)
              generalize Go.Sort.grow (redrawn wr dq) osq = w7 at *
              clear HO6 HB6 b7
              have hle := HI.out.le
              have hol := HI.out.len
              have hcp := (HO7.out.cellAt p (by omega)).trans (by rw [List.getElem?_map, HY.out]; rfl : (o.map (Value.int .i64))[p]? = some (.int .i64 y))
              have hcq := (HO7.out.cellAt (p + 1) (by omega)).trans (by rw [List.getElem?_map, HI.out.m]; rfl : (o.map (Value.int .i64))[p + 1]? = some (.int .i64 x))
              have fp := HO7.out.frozenAt p
              have fq := HO7.out.frozenAt (p + 1)
              have k5 : (0 : Int) ≤ ((p + 1 : Nat) : Int) := by omega
              have k6 : ((p + 1 : Nat) : Int) < (xs.length : Int) := by omega
              clear hle hol
              go_wp2_with fail
              go_region
              clear hcp hcq fp fq
              have HO8 : Hid (((w7.setCell ⟨gb, p + 1, none⟩ (.int .i64 y)).setCell ⟨gb, p, none⟩ (.int .i64 x)).drew.ownsRow w1.heap.size 3 1 (.slice (some ⟨gb, 0, none⟩) xs.length c5) xs.length ((swapL o p y x).map (Value.int .i64))) := by
                have h := ((HO7.out.stored (p + 1) (.int .i64 y)).1.stored p (.int .i64 x)).1
                rw [← List.map_set, ← List.map_set] at h
                exact Lib.hid h.drew
              have HB8 : Hid (Below w1.heap.size w1 ((w7.setCell ⟨gb, p + 1, none⟩ (.int .i64 y)).setCell ⟨gb, p, none⟩ (.int .i64 x)).drew) := Lib.hid (((HB7.out.setCell (p := ⟨gb, p + 1, none⟩) hgb _).setCell (p := ⟨gb, p, none⟩) hgb _).drew)
              have HN := Lib.hid (HI.out.step HY.out hpos h9)
              generalize ((w7.setCell ⟨gb, p + 1, none⟩ (.int .i64 y)).setCell ⟨gb, p, none⟩ (.int .i64 x)).drew = w8 at *
              go_wp2_with fail
              go_roundw
              case rel => exact ⟨p, swapL o p y x, rfl, HN, HO8, HB8⟩
              case measure => simp [intOf]
            · have hgt : decide (f x < f y) = false := decide_eq_false h9
              have HN := Lib.hid (HI.out.stop (fun p' y' h hy' hlt' => by
                obtain rfl : p' = p := by omega
                rw [HY.out] at hy'; cases hy'; exact h9 hlt'))
              have HL := Lib.hid (And.intro HI.out.len HI.out.can)
              clear h9
              go_upto_region 8 with fail
              obtain ⟨x0, x1, x2, x3, x4, x5, x6, x7, x8, x9, x10, x11⟩ := HTr.out.1.tabG
              refine wp_region_quiet_below (by kernel_rfl) (by kernel_rfl) ?_
              repeat (go_big_quiet_step ((go_at_call 54; with_reducible exact quiet_t HCy.out)))
              refine wpQuiet_nil ?_
              rintro _ ⟨⟨dq, osq⟩, rfl⟩
              have b7 := below_regrown wr dq osq
              clear x0 x1 x2 x3 x4 x5 x6 x7 x8 x9 x10 x11 ep eq HCy HTr
              have HO7 := Lib.hid (own_later HO6.out b7)
              have HB7 := Lib.hid (below_then HB6.out (Nat.le_refl _) b7)
              generalize Go.Sort.grow (redrawn wr dq) osq = w7 at *
              go_wp2_with fail
              go_roundw
              case rel => exact ⟨k + 1, o, by omega, by go_num, Lib.hid ⟨HL.out.1, HL.out.2, HN.out⟩, HO7, HB7⟩
              case measure => simp [intOf]; omega
    · have HD := Lib.hid (sorted_done HS.out.1 HS.out.2.1 (by omega) HS.out.2.2)
      go_wp2_with fail
      go_ret
      refine ⟨_, rfl, ?_, ?_⟩
      · rw [can_length, ← HD.out]
        exact row_le HOr.out HB0.out.size
      · exact HB0.out.trans (HBr.out.mono HB0.out.size)
end Go.Proofs.YtneinkpfhkojgaaGreatDoor
/-
  The walk through order.Order.
-/
namespace Go.Proofs.YtneinkpfhkojgaaGreatDoor
open Go.RowKit ND

/-- The canonical order, where there is no error. -/
def ordL (T : Tab) (xs : List Int) : List Int := if accE T xs = 0 then can T.classOf xs else []
theorem ordL_ok {T : Tab} {xs : List Int} (h : accE T xs = 0) : ordL T xs = can T.classOf xs := by unfold ordL; rw [if_pos h]
theorem ordL_bad {T : Tab} {xs : List Int} (h : accE T xs ≠ 0) : ordL T xs = [] := by unfold ordL; rw [if_neg h]
/-- A sequence and an error come back. -/
def RetTwo (w : World) (ys : List Int) (n : Int) (e : Ending) (w' : World) : Prop := ∃ v, e = .returned (.tuple #[v, .int .i64 n]) ∧ w'.ownsRow w.heap.size 3 1 v ys.length (ys.map (Value.int .i64)) ∧ Below w.heap.size w w'

set_option maxRecDepth 100000 in
set_option maxHeartbeats 1000000 in
theorem order_any (t : Tv) (T : Tab) (v : Value) (xs : List Int) (w : World) (ht : TabR w w.heap.size t T) (hg : Glob w) (hv : Ints w w.heap.size .i64 v xs) :
    Calls Tryz.prog 31 #[t.val, v] w (RetTwo w (ordL T xs) (accE T xs)) := by
  obtain ⟨A, c, rfl, _⟩ := id hv
  have HB0 : Hid (Below w.heap.size w (w.alloc (.cells t.cells 26))) := Lib.hid ((Below.refl _ _).alloc (Nat.le_refl _) _)
  have HT : Hid (Tbl (w.alloc (.cells t.cells 26)) w.heap.size t T) := Lib.hid ⟨Blk.new _ _ _, ht.later HB0.out⟩
  have HV := Lib.hid (hv.later HB0.out)
  have HCK := Lib.hid (ocheck_any t T _ xs _ HT.out.2 (hg.later HB0.out) HV.out)
  clear hv ht hg
  by_cases h0 : accE T xs = 0
  · have HE := Lib.hid (ordL_ok h0)
    obtain ⟨a1, a2, _⟩ := accE_zero h0
    have HS := Lib.hid (fun W (h : Below (w.alloc (.cells t.cells 26)).heap.size (w.alloc (.cells t.cells 26)) W) => sort_any t T _ xs W (HT.out.later h).2 a1 a2 (HV.out.later h))
    rw [h0] at HCK ⊢
    clear h0 a1 a2
    go_enter Tryz.func31, Tryz.ntmps31
    go_upto_region 1 with fail
    generalize w.alloc (.cells t.cells 26) = w1 at *
    have HTB := HT.out.1.tab
    obtain ⟨x0, x1, x2, x3, x4, x5, x6, x7, x8, x9, x10, x11⟩ := HTB
    go_upto_region 2 with (go_at_call 40; refine HCK.out.mono ?_; rintro e w2 ⟨rfl, b2⟩)
    clear x0 x1 x2 x3 x4 x5 x6 x7 x8 x9 x10 x11
    have HTB := (HT.out.later b2).1.tab
    obtain ⟨x0, x1, x2, x3, x4, x5, x6, x7, x8, x9, x10, x11⟩ := HTB
    go_wp2_with (go_at_call 41; refine (HS.out _ b2).mono ?_; rintro e w3 ⟨u, rfl, ho3, b3⟩)
    go_ret2
    rw [HE.out]
    exact ⟨u, rfl, row_le ho3 (by have := HB0.out.size; have := b2.size; omega), below_next (below_next HB0.out b2) b3⟩
  · have HE := Lib.hid (ordL_bad h0)
    have hb : (accE T xs != 0) = true := by simpa using h0
    clear h0
    go_enter Tryz.func31, Tryz.ntmps31
    go_upto_region 1 with fail
    generalize w.alloc (.cells t.cells 26) = w1 at *
    have HTB := HT.out.1.tab
    obtain ⟨x0, x1, x2, x3, x4, x5, x6, x7, x8, x9, x10, x11⟩ := HTB
    go_wp2_with (go_at_call 40; refine HCK.out.mono ?_; rintro e w2 ⟨rfl, b2⟩)
    go_ret2
    rw [HE.out]
    exact ⟨_, rfl, World.ownsRow_nil _ _ _ _, below_next HB0.out b2⟩
end Go.Proofs.YtneinkpfhkojgaaGreatDoor
/-
  Sequences out of a list of mappings: the walk through table.copied.
-/
namespace Go.Proofs.YtneinkpfhkojgaaGreatDoor
open Go.RowKit ND

theorem find_len {l : List Mp} {c : Int} (h : ∀ m ∈ l, m.2.length ≤ 1000) : (findL l c).length ≤ 1000 := by
  by_cases hf : findL l c = []
  · rw [hf]; simp
  · exact h _ (findL_mem hf)

set_option maxRecDepth 100000 in
set_option maxHeartbeats 400000 in
theorem copied_any (v : Value) (ys : List Int) (w : World) (hv : Ints w w.heap.size .i64 v ys) (hl : ys.length ≤ 1000) :
    Calls Tryz.prog 44 #[v] w (RetSeq w ys) := by
  obtain ⟨i0, hi, hz0, hz1, hz2⟩ := info_parts Tryz.infoInt'
  have HV := Lib.hid hv; clear hv
  go_enter Tryz.func44, Tryz.ntmps44
  go_wp2_with (at_builtin
               refine wpList_append_ints (by rfl) (.const (.slice none 0 0)) (.tmp 3) rfl Tryz.underlying22 hi hz0 hz1 hz2 w.heap.size w.heap.size (.slice none 0 0) [] v ys rfl (World.ownsRow_nil _ _ _ _) rfl HV.out (by simp; omega) (Nat.le_refl _) ?_
               intro v1 w1 hown1 hg1 hn1)
  go_ret
  exact ⟨_, rfl, Ints.of_own (by simpa using hown1), fun h => hn1 h (by trivial), (Below.refl _ _).grown hg1 (Nat.le_refl _) (by simp [Value.ownBlock])⟩
end Go.Proofs.YtneinkpfhkojgaaGreatDoor
/-
  The walk through one sequence of table.
-/
namespace Go.Proofs.YtneinkpfhkojgaaGreatDoor
open Go.RowKit ND

set_option maxRecDepth 100000 in
set_option maxHeartbeats 400000 in
theorem maps_any (t : Tv) (T : Tab) (c : Int) (w : World) (ht : TabR w w.heap.size t T) (hs : sortM T.maps) (hne : ∀ m ∈ T.maps, m.2 ≠ [] ∧ m.2.length ≤ 1000) (hlen : T.maps.length ≤ 256) :
    Calls Tryz.prog 33 #[t.val, .int .i64 c] w (RetSeq w (T.mapsOf c)) := by
  have HP := Lib.hid (fun W (h : Mapps W W.heap.size t.c8 T.maps) => find_any t.c8 T.maps c W h hs (fun m hm => (hne m hm).1) hlen)
  have HS := Lib.hid (find_len (c := c) (fun m hm => (hne m hm).2))
  have hr := ht.r8
  have HR := Lib.hid (fun o : Obj => hr.later ((Below.refl _ _).alloc (Nat.le_refl _) o))
  clear hr ht hs hlen hne
  by_cases hc : 65 ≤ c ∧ c ≤ 90
  · have hm : T.mapsOf c = [c + 32] := by unfold Tab.mapsOf; rw [if_pos hc]
    rw [hm]
    clear hm HP HS HR
    obtain ⟨h0, h1⟩ := hc
    have hw : c + 97 - 65 = c + 32 := by omega
    have HW := Lib.hid hw
    clear hw
    go_enter Tryz.func33, Tryz.ntmps33
    go_wp2_with fail
    go_ret
    refine ⟨_, rfl, ⟨some ⟨w.heap.size + 1, 0, none⟩, 1, rfl, Nat.le_refl _, by decide, (by intro h; cases h), fun i x hi => ⟨_, rfl, by simp, ?_⟩⟩, fun h => (by cases h), ((Below.refl _ _).alloc (Nat.le_refl _) _).alloc (by simp) _⟩
    have h := cells_new (w.alloc (.cells t.cells 26)) [.int .i64 (c + 32)] 3 i (.int .i64 x) (by
      cases i with
      | zero => simp at hi ⊢; exact hi
      | succ i => simp at hi)
    rw [show (w.alloc (.cells t.cells 26)).heap.size = w.heap.size + 1 by simp, ← HW.out] at h
    exact h
  · have hm : T.mapsOf c = findL T.maps c := by unfold Tab.mapsOf; rw [if_neg hc]
    rw [hm]
    clear hm
    have hc' : c < 65 ∨ 90 < c := by omega
    clear hc
    rcases hc' with hc | hc
    all_goals
      go_enter Tryz.func33, Tryz.ntmps33
      go_wp2_with fail
      refine (HP.out _ (HR.out _)).mono ?_
      rintro e w1 ⟨v, rfl, hv, hn, b1⟩
      go_wp2_with fail
      refine (copied_any v _ w1 hv HS.out).mono ?_
      rintro e w2 ⟨v', rfl, hv', hn', b2⟩
      go_wp2_with fail
      go_ret
      exact ⟨_, rfl, hv', hn', below_next ((Below.refl _ _).alloc (Nat.le_refl _) _) (below_next b1 b2)⟩
end Go.Proofs.YtneinkpfhkojgaaGreatDoor
/-
  What mapping computes, and the walk through mapping.Map.
-/
namespace Go.Proofs.YtneinkpfhkojgaaGreatDoor
open Go.RowKit ND

/-- What a code point is mapped to. -/
def mapOne (T : Tab) (c : Int) : List Int := if T.statusOf c = 1 ∨ T.statusOf c = 4 then [c] else if T.statusOf c = 3 then T.mapsOf c else []
/-- The first code point that is Disallowed. -/
def badAt (T : Tab) : Nat → List Int → Option Nat
  | _, [] => none
  | i, c :: r => if T.statusOf c = 0 then some i else badAt T (i + 1) r
def mapOut (T : Tab) (l : List Int) : List Int := l.flatMap (mapOne T)
/-- What Map hands back. -/
def mapR (T : Tab) (l : List Int) : List Int × Int × Int :=
  if accE T l ≠ 0 then ([], 0, accE T l) else match badAt T 0 l with
    | some i => ([], (i : Int), 16)
    | none => if 4096 < (mapOut T l).length then ([], 0, 7) else (mapOut T l, 0, 0)
theorem mapR_err {T : Tab} {l : List Int} (h : accE T l ≠ 0) : mapR T l = ([], 0, accE T l) := by unfold mapR; rw [if_pos h]
theorem mapR_bad {T : Tab} {l : List Int} {i : Nat} (h : accE T l = 0) (h2 : badAt T 0 l = some i) : mapR T l = ([], (i : Int), 16) := by unfold mapR; rw [if_neg (by omega), h2]
theorem mapR_full {T : Tab} {l : List Int} (h : accE T l = 0) (h2 : badAt T 0 l = none) (h3 : 4096 < (mapOut T l).length) : mapR T l = ([], 0, 7) := by unfold mapR; rw [if_neg (by omega), h2]; simp only; rw [if_pos h3]
theorem mapR_ok {T : Tab} {l : List Int} (h : accE T l = 0) (h2 : badAt T 0 l = none) (h3 : (mapOut T l).length ≤ 4096) : mapR T l = (mapOut T l, 0, 0) := by unfold mapR; rw [if_neg (by omega), h2]; simp only; rw [if_neg (by omega)]

theorem drop_at {l : List Int} {i : Nat} {c : Int} (h : l[i]? = some c) : l.drop i = c :: l.drop (i + 1) := by
  obtain ⟨h1, e⟩ := List.getElem?_eq_some_iff.1 h
  rw [List.drop_eq_getElem_cons h1, e]
theorem bad_hit {T : Tab} {l : List Int} {i : Nat} {c : Int} {R : Option Nat} (hc : l[i]? = some c) (h : badAt T i (l.drop i) = R) (h0 : T.statusOf c = 0) : R = some i := by
  rw [drop_at hc, badAt, if_pos h0] at h; exact h.symm
theorem bad_go {T : Tab} {l : List Int} {i : Nat} {c : Int} {R : Option Nat} (hc : l[i]? = some c) (h : badAt T i (l.drop i) = R) (h0 : T.statusOf c ≠ 0) : badAt T (i + 1) (l.drop (i + 1)) = R := by
  rw [drop_at hc, badAt, if_neg h0] at h; exact h
theorem bad_end {T : Tab} {l : List Int} {i : Nat} {R : Option Nat} (hi : l.length ≤ i) (h : badAt T i (l.drop i) = R) : R = none := by
  rw [List.drop_of_length_le hi, badAt] at h; exact h.symm
theorem out_step {T : Tab} {l : List Int} {i : Nat} {c : Int} (hc : l[i]? = some c) : mapOut T (l.take (i + 1)) = mapOut T (l.take i) ++ mapOne T c := by
  obtain ⟨h1, e⟩ := List.getElem?_eq_some_iff.1 hc
  unfold mapOut
  rw [List.take_succ_eq_append_getElem h1, List.flatMap_append, e]; simp
theorem mapsOf_len {T : Tab} (h : T.check = 0) (c : Int) : (T.mapsOf c).length ≤ 18 := by
  unfold Tab.mapsOf
  split
  · simp
  · by_cases h0 : findL T.maps c = []
    · rw [h0]; simp
    · have h4 := (rules_of h).2.2.2.1
      unfold Tab.rule4 at h4
      simp only [Bool.and_eq_true] at h4
      exact (toB_iff.1 (List.all_eq_true.1 h4.2.1 _ (findL_mem h0))).2.1
theorem mapOne_len {T : Tab} (h : T.check = 0) (c : Int) : (mapOne T c).length ≤ 18 := by
  unfold mapOne
  split
  · simp
  · split
    · exact mapsOf_len h c
    · simp

/-- A sequence, an index and an error come back. -/
def RetMap (w : World) (r : List Int × Int × Int) (e : Ending) (w' : World) : Prop := ∃ v, e = .returned (.tuple #[v, .int .i64 r.2.1, .int .i64 r.2.2]) ∧ w'.ownsRow w.heap.size 3 1 v r.1.length (r.1.map (Value.int .i64)) ∧ Below w.heap.size w w'

set_option maxRecDepth 100000 in
set_option maxHeartbeats 4000000 in
theorem map_any (t : Tv) (T : Tab) (v : Value) (xs : List Int) (w : World) (ht : TabR w w.heap.size t T) (hg : Glob w) (hv : Ints w w.heap.size .i64 v xs) :
    Calls Tryz.prog 20 #[t.val, v] w (RetMap w (mapR T xs)) := by
  obtain ⟨A, c, rfl, _⟩ := id hv
  have HB0 : Hid (Below w.heap.size w (w.alloc (.cells t.cells 26))) := Lib.hid ((Below.refl _ _).alloc (Nat.le_refl _) _)
  have HT : Hid (Tbl (w.alloc (.cells t.cells 26)) w.heap.size t T) := Lib.hid ⟨Blk.new _ _ _, ht.later HB0.out⟩
  have HV := Lib.hid (hv.later HB0.out)
  have HO := Lib.hid (order_any t T _ xs _ HT.out.2 (hg.later HB0.out) HV.out)
  clear hv ht hg
  by_cases h0 : accE T xs = 0
  · obtain ⟨hck, hlen, _⟩ := accE_zero h0
    have H0 := Lib.hid h0
    have HCK := Lib.hid hck
    have hsh := shape_of hck
    have hsz := sized_of hck
    have HC : Hid (∀ (b : Nat) (W : World) (x : Int), Tbl W b t T → Calls Tryz.prog 32 #[.agg #[t.c0, t.c1, t.c2, t.c3, t.c4, t.c5, t.c6, t.c7, t.c8, t.c9, t.c10, t.c11], .int .i64 x] W fun e W' => e = .returned (.int .i64 (T.statusOf x)) ∧ Below W.heap.size W W') := Lib.hid fun b W x h => status_any t T x 0 1114111 W h.2 hsh.c5.1 hsh.c5.2.1
    have HM : Hid (∀ (b : Nat) (W : World) (x : Int), Tbl W b t T → Calls Tryz.prog 33 #[.agg #[t.c0, t.c1, t.c2, t.c3, t.c4, t.c5, t.c6, t.c7, t.c8, t.c9, t.c10, t.c11], .int .i64 x] W (RetSeq W (T.mapsOf x))) := Lib.hid fun b W x h => maps_any t T x W h.2 (keysB_sort hsh.km) hsz.nm hsh.lm
    rw [h0] at HO
    clear h0 hck hsh hsz
    generalize ordL T xs = ol at *
    go_enter Tryz.func20, Tryz.ntmps20
    go_upto_region 1 with fail
    generalize w.alloc (.cells t.cells 26) = w1 at *
    obtain ⟨x0, x1, x2, x3, x4, x5, x6, x7, x8, x9, x10, x11⟩ := HT.out.1.tab
    go_upto_region 2 with (go_at_call 31; refine HO.out.mono ?_; rintro e w2 ⟨u2, rfl, ho2, b2⟩; obtain ⟨A2, c2, rfl, _⟩ := id (Ints.of_own ho2); clear ho2)
    clear x0 x1 x2 x3 x4 x5 x6 x7 x8 x9 x10 x11
    obtain ⟨tb, htb⟩ : ∃ tb, w.heap.size = tb := ⟨_, rfl⟩
    have HT2 : Hid (Tbl w2 tb t T) := Lib.hid (htb ▸ HT.out.later b2)
    have HV2 := Lib.hid (HV.out.later b2)
    have HB2 := Lib.hid (below_next HB0.out b2)
    simp only [htb]
    clear HT HV HB0 HO b2
    obtain ⟨i0, hi, hz0, hz1, hz2⟩ := info_parts Tryz.infoInt'
    go_wp2_with fail
    go_loopw [23, 9] (fun s23 s9 wr => ∃ (k : Nat) (acc : List Int) (A9 : Option Addr) (c9 : Nat), k ≤ xs.length ∧ s23 = .int .i64 k ∧ s9 = .slice A9 acc.length c9 ∧ acc.length ≤ 18 * k ∧ Hid (acc = mapOut T (xs.take k) ∧ badAt T k (xs.drop k) = badAt T 0 xs) ∧ Hid (wr.ownsRow w2.heap.size 3 1 (.slice A9 acc.length c9) acc.length (acc.map (Value.int .i64))) ∧ Hid (Below w2.heap.size w2 wr)) (fun i _ _ => xs.length - (intOf i).toNat)
    case atStart => exact ⟨0, [], none, 0, by omega, rfl, rfl, by simp, Lib.hid ⟨rfl, rfl⟩, Lib.hid (World.ownsRow_nil _ _ _ _), Lib.hid (Below.refl _ _)⟩
    case round =>
      obtain ⟨k, acc, A9, c9, hk, rfl, rfl, hal, HS, HOr, HBr⟩ := hrel
      by_cases hlt : k < xs.length
      · obtain ⟨x, hxk, _⟩ := get_of hlt
        obtain ⟨_, _, hve, _, _, _, hcell⟩ := HV2.out
        cases hve
        obtain ⟨ad, rfl, ha, hce⟩ := hcell k x hxk
        have e1 := (HBr.out.cell (p := ad.add k) (by rw [block_of_add]; exact ha)).trans hce
        have HX := Lib.hid hxk
        have k0 : (0 : Int) ≤ (k : Int) := by omega
        have k1 : (k : Int) < (xs.length : Int) := by omega
        have HTr := Lib.hid (HT2.out.later HBr.out)
        obtain ⟨x0, x1, x2, x3, x4, x5, x6, x7, x8, x9, x10, x11⟩ := HTr.out.1.tab
        have HCx := Lib.hid (HC.out tb wr x HTr.out)
        have HOS := Lib.hid (out_step (T := T) HX.out)
        clear hcell hxk ha hce
        obtain ⟨st, hst⟩ : ∃ st, T.statusOf x = st := ⟨_, rfl⟩
        rw [hst] at HCx
        by_cases s1 : st = 1
        · subst s1
          have HN : Hid (acc ++ [x] = mapOut T (xs.take (k + 1)) ∧ badAt T (k + 1) (xs.drop (k + 1)) = badAt T 0 xs) := Lib.hid ⟨by rw [HOS.out, ← HS.out.1]; unfold mapOne; rw [if_pos (.inl hst)], bad_go HX.out HS.out.2 (by omega)⟩
          clear hst
          go_upto_region 11 with (go_at_call 32; refine HCx.out.mono ?_; rintro e w5 ⟨rfl, b5⟩)
          have HO5 := Lib.hid (own_later HOr.out b5)
          have HB5 := Lib.hid (below_then HBr.out (Nat.le_refl _) b5)
          clear x0 x1 x2 x3 x4 x5 x6 x7 x8 x9 x10 x11 e1 HCx HTr HOr HBr b5 HS HX HOS
          go_wp2_with (at_builtin; refine wpList_append_ints (by rfl) (.tmp 34) (.tmp 36) rfl Tryz.underlying22 hi hz0 hz1 hz2 (w5.heap.size + 1) w2.heap.size (.slice A9 acc.length c9) acc (.slice (some ⟨w5.heap.size, 0, none⟩) 1 1) [x] rfl (HO5.out.alloc _) rfl (by have h := Ints.of_own (own_new w5 3 [x] (by simp)); simpa using h) (by simp; omega) (by have := HB5.out.size; simp; omega) ?_; intro v6 w6 ho6 hg6 _; obtain ⟨A6, c6, rfl, _⟩ := id (Ints.of_own ho6); have HO6 := Lib.hid ho6; have HB6 := Lib.hid ((HB5.out.alloc HB5.out.size (.cells #[.int .i64 x] 3)).grown hg6 (by have := HB5.out.size; simp; omega) (fun q hq => (HO5.out.lt q hq).1)); clear ho6 hg6)
          go_roundw
          case rel => exact ⟨k + 1, acc ++ [x], A6, c6, by omega, by go_num, by simp, by simp; omega, HN, HO6, HB6⟩
          case measure => simp [intOf]; omega
        by_cases s4 : st = 4
        · subst s4
          have HN : Hid (acc ++ [x] = mapOut T (xs.take (k + 1)) ∧ badAt T (k + 1) (xs.drop (k + 1)) = badAt T 0 xs) := Lib.hid ⟨by rw [HOS.out, ← HS.out.1]; unfold mapOne; rw [if_pos (.inr hst)], bad_go HX.out HS.out.2 (by omega)⟩
          clear hst
          go_upto_region 11 with (go_at_call 32; refine HCx.out.mono ?_; rintro e w5 ⟨rfl, b5⟩)
          have HO5 := Lib.hid (own_later HOr.out b5)
          have HB5 := Lib.hid (below_then HBr.out (Nat.le_refl _) b5)
          clear x0 x1 x2 x3 x4 x5 x6 x7 x8 x9 x10 x11 e1 HCx HTr HOr HBr b5 HS HX HOS
          go_wp2_with (at_builtin; refine wpList_append_ints (by rfl) (.tmp 34) (.tmp 36) rfl Tryz.underlying22 hi hz0 hz1 hz2 (w5.heap.size + 1) w2.heap.size (.slice A9 acc.length c9) acc (.slice (some ⟨w5.heap.size, 0, none⟩) 1 1) [x] rfl (HO5.out.alloc _) rfl (by have h := Ints.of_own (own_new w5 3 [x] (by simp)); simpa using h) (by simp; omega) (by have := HB5.out.size; simp; omega) ?_; intro v6 w6 ho6 hg6 _; obtain ⟨A6, c6, rfl, _⟩ := id (Ints.of_own ho6); have HO6 := Lib.hid ho6; have HB6 := Lib.hid ((HB5.out.alloc HB5.out.size (.cells #[.int .i64 x] 3)).grown hg6 (by have := HB5.out.size; simp; omega) (fun q hq => (HO5.out.lt q hq).1)); clear ho6 hg6)
          go_roundw
          case rel => exact ⟨k + 1, acc ++ [x], A6, c6, by omega, by go_num, by simp, by simp; omega, HN, HO6, HB6⟩
          case measure => simp [intOf]; omega
        by_cases s3 : st = 3
        · subst s3
          have HN : Hid (acc ++ T.mapsOf x = mapOut T (xs.take (k + 1)) ∧ badAt T (k + 1) (xs.drop (k + 1)) = badAt T 0 xs) := Lib.hid ⟨by rw [HOS.out, ← HS.out.1]; unfold mapOne; rw [if_neg (by omega), if_pos hst], bad_go HX.out HS.out.2 (by omega)⟩
          have hml := mapsOf_len HCK.out x
          have HMx := Lib.hid (fun W (h : Below wr.heap.size wr W) => HM.out tb W x (HTr.out.later h))
          clear hst HX
          generalize T.mapsOf x = ml at *
          go_upto_region 13 with (go_at_call 32; refine HCx.out.mono ?_; rintro e w5 ⟨rfl, b5⟩)
          have HO5 := Lib.hid (own_later HOr.out b5)
          have HB5 := Lib.hid (below_then HBr.out (Nat.le_refl _) b5)
          clear x0 x1 x2 x3 x4 x5 x6 x7 x8 x9 x10 x11 e1 HCx HOr HOS
          obtain ⟨x0, x1, x2, x3, x4, x5, x6, x7, x8, x9, x10, x11⟩ := (HTr.out.later b5).1.tab
          go_wp2_with (first
            | (go_at_call 33; refine (HMx.out _ b5).mono ?_; rintro e w7 ⟨u7, rfl, hi7, _, b7⟩; obtain ⟨A7, c7, rfl, _⟩ := id hi7; have HI7 := Lib.hid hi7; have HO7 := Lib.hid (own_later HO5.out b7); have HB7 := Lib.hid (below_then HB5.out (Nat.le_refl _) b7); clear hi7 b7)
            | (at_builtin; refine wpList_append_ints (by rfl) (.tmp 40) (.tmp 43) rfl Tryz.underlying22 hi hz0 hz1 hz2 w7.heap.size w2.heap.size (.slice A9 acc.length c9) acc (.slice A7 ml.length c7) ml rfl HO7.out rfl HI7.out (by omega) HB7.out.size ?_; intro v6 w6 ho6 hg6 _; obtain ⟨A6, c6, rfl, _⟩ := id (Ints.of_own ho6); have HO6 := Lib.hid ho6; have HB6 := Lib.hid (HB7.out.grown hg6 HB7.out.size (fun q hq => (HO7.out.lt q hq).1)); clear ho6 hg6))
          go_roundw
          case rel => exact ⟨k + 1, acc ++ ml, A6, c6, by omega, by go_num, by simp, by simp; omega, HN, HO6, HB6⟩
          case measure => simp [intOf]; omega
        by_cases s0 : st = 0
        · subst s0
          have HR : Hid (mapR T xs = ([], (k : Int), 16)) := Lib.hid (mapR_bad H0.out (bad_hit HX.out HS.out.2 hst))
          clear hst
          go_wp2_with (go_at_call 32; refine HCx.out.mono ?_; rintro e w5 ⟨rfl, b5⟩)
          go_ret3
          rw [HR.out]
          exact ⟨_, rfl, World.ownsRow_nil _ _ _ _, below_next HB2.out (below_then HBr.out (Nat.le_refl _) b5)⟩
        · have g1 : (st == 1) = false := by simpa using s1
          have g4 : (st == 4) = false := by simpa using s4
          have g3 : (st == 3) = false := by simpa using s3
          have g0 : (st == 0) = false := by simpa using s0
          have HN : Hid (acc = mapOut T (xs.take (k + 1)) ∧ badAt T (k + 1) (xs.drop (k + 1)) = badAt T 0 xs) := Lib.hid ⟨by rw [HOS.out, ← HS.out.1]; unfold mapOne; rw [if_neg (by omega), if_neg (by omega)]; simp, bad_go HX.out HS.out.2 (by omega)⟩
          clear hst s1 s4 s3 s0
          go_wp2_with (go_at_call 32; refine HCx.out.mono ?_; rintro e w5 ⟨rfl, b5⟩)
          go_roundw
          case rel => exact ⟨k + 1, acc, A9, c9, by omega, by go_num, rfl, by omega, HN, Lib.hid (own_later HOr.out b5), Lib.hid (below_then HBr.out (Nat.le_refl _) b5)⟩
          case measure => simp [intOf]; omega
      · have HE := Lib.hid (bad_end (by omega) HS.out.2)
        have HA : Hid (acc = mapOut T xs) := Lib.hid (by have := HS.out.1; rwa [List.take_of_length_le (by omega)] at this)
        by_cases hfl : 4096 < acc.length
        · have HR : Hid (mapR T xs = ([], 0, 7)) := Lib.hid (mapR_full H0.out HE.out (by rw [← HA.out]; exact hfl))
          have g : (4096 : Int) < (acc.length : Int) := by omega
          clear hfl
          go_wp2_with fail
          go_ret3
          rw [HR.out]
          exact ⟨_, rfl, World.ownsRow_nil _ _ _ _, below_next HB2.out HBr.out⟩
        · have HR : Hid (mapR T xs = (acc, 0, 0)) := Lib.hid (by rw [mapR_ok H0.out HE.out (by rw [← HA.out]; omega), HA.out])
          have g : ¬ (4096 : Int) < (acc.length : Int) := by omega
          clear hfl
          go_wp2_with fail
          go_ret3
          rw [HR.out]
          exact ⟨_, rfl, row_le HOr.out HB2.out.size, below_next HB2.out HBr.out⟩
  · have HR := Lib.hid (mapR_err h0)
    have hb : (accE T xs != 0) = true := by simpa using h0
    clear h0
    go_enter Tryz.func20, Tryz.ntmps20
    go_upto_region 1 with fail
    generalize w.alloc (.cells t.cells 26) = w1 at *
    obtain ⟨x0, x1, x2, x3, x4, x5, x6, x7, x8, x9, x10, x11⟩ := HT.out.1.tab
    go_wp2_with (go_at_call 31; refine HO.out.mono ?_; rintro e w2 ⟨u2, rfl, ho2, b2⟩; obtain ⟨A2, c2, rfl, _⟩ := id (Ints.of_own ho2); clear ho2)
    go_ret3
    rw [HR.out]
    exact ⟨_, rfl, World.ownsRow_nil _ _ _ _, below_next HB0.out b2⟩
end Go.Proofs.YtneinkpfhkojgaaGreatDoor
/-
  The walk through the reference's small: rule 1.
-/
namespace Go.Proofs.YtneinkpfhkojgaaGreatDoor
open Go.RowKit ND

set_option maxRecDepth 100000 in
set_option maxHeartbeats 1000000 in
theorem small_any (t : Tv) (T : Tab) (w : World) (ht : TabR w w.heap.size t T) :
    Calls Tryz.prog 77 #[t.val] w fun e w' => e = .returned (.bool T.rule1) ∧ Below w.heap.size w w' := by
  obtain ⟨A0, A1, A2, A3, A4, A5, A6, A7, A8, A9, A10, A11, k0, k1, k2, k3, k4, k5, k6, k7, k8, k9, k10, k11, rfl⟩ := ht.shape
  have HR := Lib.hid (fun o : Obj => ht.later ((Below.refl _ _).alloc (Nat.le_refl _) o))
  clear ht
  obtain ⟨R, hR⟩ : ∃ R, R = T.rule1 := ⟨_, rfl⟩
  rw [← hR]
  obtain ⟨R1, hR1⟩ : ∃ R1, R1 = T.cols.all lenC_ := ⟨_, rfl⟩
  obtain ⟨R2, hR2⟩ : ∃ R2, R2 = T.mps.all lenM_ := ⟨_, rfl⟩
  have HR1 : Hid ((T.cols.drop 0).all lenC_ = R1) := Lib.hid hR1.symm
  have HR2 : Hid ((T.mps.drop 0).all lenM_ = R2) := Lib.hid hR2.symm
  have HRR : Hid (R = (decide ((T.excluded.length : Int) ≤ 256) && (R1 && R2))) := Lib.hid (by rw [hR, hR1, hR2, rule1_cast])
  clear hR hR1 hR2
  go_enter Tryz.func77, Tryz.ntmps77
  go_wp2_with fail
  refine (refSpans_any _ T _ (HR.out _)).mono ?_
  rintro e w1 ⟨ad, as_, rfl, hc, _, b1⟩
  have HC := Lib.hid hc.2
  have HB := Lib.hid ((Blk.new w 26 _).later b1)
  have HT := Lib.hid ((HR.out _).later b1)
  have hbel1 := below_next ((Below.refl _ _).alloc (Nat.le_refl _) _) b1
  clear hc b1 HR
  go_wp2_with fail
  go_loop [17] (fun i => ∃ (k : Nat), k ≤ 7 ∧ i = .int .i64 k ∧ Hid ((T.cols.drop k).all lenC_ = R1)) (fun i => 7 - (intOf i).toNat)
  case atStart => exact ⟨0, by omega, rfl, HR1⟩
  case round =>
    obtain ⟨k, hk, rfl, HS⟩ := hrel
    clear HR1
    by_cases hlt : k < 7
    · obtain ⟨⟨l, lo, hi⟩, hxk, _⟩ := get_el (xs := T.cols) (k := k) hlt
      obtain ⟨v, d0, A, c, rfl, _⟩ := HC.out k _ hxk
      have HX := Lib.hid hxk
      simp only at d0
      clear hxk
      have k0 : (0 : Int) ≤ (k : Int) := by omega
      have k1 : (k : Int) < (7 : Int) := by omega
      by_cases hl : (l.length : Int) ≤ 256
      · have HN := Lib.hid (each_go HX.out HS.out (decide_eq_true hl))
        go_wp2_with fail
        go_round
        case rel => exact ⟨k + 1, by omega, by go_num, HN⟩
        case measure => simp [intOf]; omega
      · have HN := Lib.hid (each_no HX.out HS.out (decide_eq_false hl))
        have hl' : 256 < (l.length : Int) := by omega
        clear hl
        go_wp2_with fail
        go_ret
        rw [HRR.out, HN.out]
        exact ⟨by simp, hbel1⟩
    · have HN := Lib.hid (each_end (by show 7 ≤ k; omega) HS.out)
      obtain ⟨x0, x1, x2, x3, x4, x5, x6, x7, x8, x9, x10, x11⟩ := HB.out.tab
      go_wp2_with fail
      refine (refMappings_any _ T _ HT.out).mono ?_
      rintro e w2 ⟨am, rfl, hm, b2⟩
      have HM := Lib.hid hm.2
      have hbel2 := below_next hbel1 b2
      have y10 := (HB.out.later b2).at_ (i := 10) rfl
      clear hm HT HB HC HS hbel1 b2 x0 x1 x2 x3 x4 x5 x6 x7 x8 x9 x10 x11
      go_wp2_with fail
      go_loop [29] (fun i => ∃ (k : Nat), k ≤ 4 ∧ i = .int .i64 k ∧ Hid ((T.mps.drop k).all lenM_ = R2)) (fun i => 4 - (intOf i).toNat)
      case atStart => exact ⟨0, by omega, rfl, HR2⟩
      case round =>
        obtain ⟨k, hk, rfl, HS⟩ := hrel
        clear HR2
        by_cases hlt : k < 4
        · obtain ⟨l, hxk, _⟩ := get_el (xs := T.mps) (k := k) hlt
          obtain ⟨v, d0, A, c, rfl, _⟩ := HM.out k _ hxk
          have HX := Lib.hid hxk
          clear hxk
          have k0 : (0 : Int) ≤ (k : Int) := by omega
          have k1 : (k : Int) < (4 : Int) := by omega
          by_cases hl : (l.length : Int) ≤ 256
          · have HN := Lib.hid (each_go HX.out HS.out (decide_eq_true hl))
            go_wp2_with fail
            go_round
            case rel => exact ⟨k + 1, by omega, by go_num, HN⟩
            case measure => simp [intOf]; omega
          · have HN := Lib.hid (each_no HX.out HS.out (decide_eq_false hl))
            have hl' : 256 < (l.length : Int) := by omega
            clear hl
            go_wp2_with fail
            go_ret
            rw [HRR.out, HN.out]
            exact ⟨by simp, hbel2⟩
        · have HN2 := Lib.hid (each_end (by show 4 ≤ k; omega) HS.out)
          go_wp2_with fail
          go_ret
          rw [HRR.out, HN.out, HN2.out]
          exact ⟨by simp, hbel2⟩
end Go.Proofs.YtneinkpfhkojgaaGreatDoor
/-
  The walk through the reference's placed: rule 2.
-/
namespace Go.Proofs.YtneinkpfhkojgaaGreatDoor
open Go.RowKit ND

theorem keyOk_res {p : Bool} {last c : Int} (h1 : last < c) (h2 : c ≤ 1114111) : keyOk p last c = (!resB c || (p && nameB c)) := by
  unfold keyOk; rw [decide_eq_true (And.intro h1 h2), Bool.true_and]
theorem keyOk_out {p : Bool} {last c : Int} (h : ¬(last < c ∧ c ≤ 1114111)) : keyOk p last c = false := by
  unfold keyOk; rw [decide_eq_false h, Bool.false_and]
/-- What is left of the test of a key in range. -/
theorem res_ways (c : Int) (k : Nat) : ((!resB c || ((k == 3) && nameB c)) = true ∧ resB c = false) ∨ ((!resB c || ((k == 3) && nameB c)) = false ∧ resB c = true ∧ ((k : Int) == 3) = false) ∨
    ((!resB c || ((k == 3) && nameB c)) = false ∧ resB c = true ∧ ((k : Int) == 3) = true ∧ nameB c = false) ∨ ((!resB c || ((k == 3) && nameB c)) = true ∧ resB c = true ∧ ((k : Int) == 3) = true ∧ nameB c = true) := by
  by_cases h3 : k = 3
  · subst h3
    have e : (((3 : Nat) : Int) == 3) = true := by decide
    rw [e]
    cases resB c <;> cases nameB c <;> simp
  · have e : ((k : Int) == 3) = false := by rw [beq_eq_false_iff_ne]; omega
    have e2 : (k == 3) = false := by rw [beq_eq_false_iff_ne]; exact h3
    rw [e, e2]
    cases resB c <;> simp

set_option maxRecDepth 100000 in
set_option maxHeartbeats 8000000 in
theorem placed_any (t : Tv) (T : Tab) (w : World) (ht : TabR w w.heap.size t T) :
    Calls Tryz.prog 78 #[t.val] w fun e w' => e = .returned (.bool T.rule2) ∧ Below w.heap.size w w' := by
  obtain ⟨A0, A1, A2, A3, A4, A5, A6, A7, A8, A9, A10, A11, k0, k1, k2, k3, k4, k5, k6, k7, k8, k9, k10, k11, rfl⟩ := ht.shape
  have HR := Lib.hid (fun o : Obj => ht.later ((Below.refl _ _).alloc (Nat.le_refl _) o))
  clear ht
  obtain ⟨R, hR⟩ : ∃ R, R = T.rule2 := ⟨_, rfl⟩
  rw [← hR]
  obtain ⟨R1, hR1⟩ : ∃ R1, R1 = T.cols.all colShape := ⟨_, rfl⟩
  obtain ⟨R2, hR2⟩ : ∃ R2, R2 = T.mps.zipIdx.all mpKeys := ⟨_, rfl⟩
  obtain ⟨R3, hR3⟩ : ∃ R3, R3 = keysB false (-1) T.excluded := ⟨_, rfl⟩
  have HR1 : Hid ((T.cols.drop 0).all colShape = R1) := Lib.hid hR1.symm
  have HR2 : Hid ((T.mps.zipIdx.drop 0).all mpKeys = R2) := Lib.hid hR2.symm
  have HR3 : Hid (keysB false (-1) (T.excluded.drop 0) = R3) := Lib.hid hR3.symm
  have HRR : Hid (R = (R1 && (R2 && R3))) := Lib.hid (by rw [hR, hR1, hR2, hR3, rule2_parts])
  clear hR hR1 hR2 hR3
  go_enter Tryz.func78, Tryz.ntmps78
  go_wp2_with fail
  refine (refSpans_any _ T _ (HR.out _)).mono ?_
  rintro e w1 ⟨ad, as_, rfl, hc, _, b1⟩
  have HC := Lib.hid hc.2
  have hca := hc.1
  have HB := Lib.hid ((Blk.new w 26 _).later b1)
  have HT := Lib.hid ((HR.out _).later b1)
  have hbel1 := below_next ((Below.refl _ _).alloc (Nat.le_refl _) _) b1
  clear hc b1 HR
  go_wp2_with fail
  go_loopw [23] (fun i wr => ∃ (k : Nat), k ≤ 7 ∧ i = .int .i64 k ∧ Hid ((T.cols.drop k).all colShape = R1) ∧ Below w1.heap.size w1 wr) (fun i _ => 7 - (intOf i).toNat)
  case atStart => exact ⟨0, by omega, rfl, HR1, Below.refl _ _⟩
  case round =>
    obtain ⟨k, hk, rfl, HS, hbel⟩ := hrel
    clear HR1
    by_cases hlt : k < 7
    · obtain ⟨⟨l, lo, hi⟩, hxk, _⟩ := get_el (xs := T.cols) (k := k) hlt
      obtain ⟨v, d0, hv⟩ := HC.out k _ hxk
      simp only at d0 hv
      obtain ⟨A, c, rfl, hc1, hc2, _, hcell⟩ := id hv
      have HCE := Lib.hid hcell
      have hlm : l.length ≤ 9223372036854775807 := by unfold maxLen at hc2; omega
      have HV := Lib.hid (hv.later hbel)
      have e0 := (hbel.cell (p := ad.add k) (by rw [block_of_add]; exact hca)).trans d0
      have HX := Lib.hid hxk
      clear d0 hxk hcell hv hc1 hc2
      have q0 : (0 : Int) ≤ (k : Int) := by omega
      have q1 : (k : Int) < (7 : Int) := by omega
      have HK := Lib.hid (fun W h => refCheck_any (.slice A l.length c) l 0 1114111 W h)
      cases hck : checkS l 0 1114111
      · rw [hck] at HK
        have HN := Lib.hid (each_no HX.out HS.out (by unfold colShape colOk; rw [hck]; rfl))
        clear hck
        go_wp2_with fail
        refine (HK.out _ HV.out).mono ?_
        rintro e w2 ⟨rfl, b2⟩
        go_wp2_with fail
        go_ret
        rw [HRR.out, HN.out]
        exact ⟨by simp, below_next hbel1 (below_next hbel b2)⟩
      · rw [hck] at HK
        obtain ⟨Ro, hRo⟩ : ∃ Ro, Ro = l.all spOut := ⟨_, rfl⟩
        have HO : Hid ((l.drop 0).all spOut = Ro) := Lib.hid hRo.symm
        have HCO : Hid (colShape (l, lo, hi) = Ro) := Lib.hid (by rw [hRo]; unfold colShape colOk; rw [hck]; rfl)
        clear hck hRo
        go_wp2_with fail
        refine (HK.out _ HV.out).mono ?_
        rintro e w2 ⟨rfl, b2⟩
        have hbel2 : Below w1.heap.size w1 w2 := below_next hbel b2
        clear HK HV b2 e0 hbel
        go_wp2_with fail
        go_loopw [32] (fun i wr => ∃ (j : Nat), j ≤ l.length ∧ i = .int .i64 j ∧ Hid ((l.drop j).all spOut = Ro) ∧ Below w1.heap.size w1 wr) (fun i _ => l.length - (intOf i).toNat)
        case atStart => exact ⟨0, by omega, rfl, HO, hbel2⟩
        case round =>
          obtain ⟨j, hj, rfl, HSj, hbelj⟩ := hrel
          clear HO hbel2
          by_cases hjl : j < l.length
          · obtain ⟨⟨f, t, x⟩, hxj, _⟩ := get_el hjl
            obtain ⟨aj, rfl, ha, d0, d1, d2⟩ := HCE.out j _ hxj
            simp only at d0 d1 d2
            obtain ⟨e0, e1, e2⟩ := span_cells hbelj ha d0 d1 d2
            have HXj := Lib.hid hxj
            clear d0 d1 d2 hxj ha
            have r0 : (0 : Int) ≤ (j : Int) := by omega
            have r1 : (j : Int) < (l.length : Int) := by omega
            have HOU := Lib.hid (fun W => clean_any f t x W)
            cases ho : outB f t
            · rw [ho] at HOU
              have HN := Lib.hid (each_no HXj.out HSj.out ho)
              clear ho
              go_wp2_with fail
              refine (HOU.out _).mono ?_
              rintro e w3 ⟨rfl, b3⟩
              go_wp2_with fail
              go_ret
              rw [HRR.out, each_no HX.out HS.out (HCO.out.trans HN.out)]
              exact ⟨by simp, below_next hbel1 (below_next (hbelj.alloc hbelj.size _) b3)⟩
            · rw [ho] at HOU
              have HN := Lib.hid (each_go HXj.out HSj.out ho)
              clear ho
              go_wp2_with fail
              refine (HOU.out _).mono ?_
              rintro e w3 ⟨rfl, b3⟩
              go_wp2_with fail
              go_roundw
              case rel => exact ⟨j + 1, by omega, by go_num, HN, below_next (hbelj.alloc hbelj.size _) b3⟩
              case measure => simp [intOf]; omega
          · have HN := Lib.hid (each_go HX.out HS.out (HCO.out.trans (each_end (by omega) HSj.out)))
            go_wp2_with fail
            go_roundw
            case rel => exact ⟨k + 1, by omega, by go_num, HN, hbelj⟩
            case measure => simp [intOf]; omega
    · have HN := Lib.hid (each_end (by show 7 ≤ k; omega) HS.out)
      obtain ⟨x0, x1, x2, x3, x4, x5, x6, x7, x8, x9, x10, x11⟩ := (HB.out.later hbel).tab
      have HT2 := Lib.hid (HT.out.later hbel)
      clear HC hca HS
      go_wp2_with fail
      refine (refMappings_any _ T _ HT2.out).mono ?_
      rintro e w2 ⟨am, rfl, hm, b2⟩
      have HM := Lib.hid hm.2
      have hma := hm.1
      have HB2 := Lib.hid ((HB.out.later hbel).later b2)
      have HX10 := Lib.hid (HT2.out.r10.later b2)
      have hbel2 := below_next hbel1 (below_next hbel b2)
      clear hm HT2 hbel hbel1 b2 x0 x1 x2 x3 x4 x5 x6 x7 x8 x9 x10 x11 HB HT
      go_wp2_with fail
      go_loopw [45] (fun i wr => ∃ (k : Nat), k ≤ 4 ∧ i = .int .i64 k ∧ Hid ((T.mps.zipIdx.drop k).all mpKeys = R2) ∧ Below w2.heap.size w2 wr) (fun i _ => 4 - (intOf i).toNat)
      case atStart => exact ⟨0, by omega, rfl, HR2, Below.refl _ _⟩
      case round =>
        obtain ⟨k, hk, rfl, HS, hbel⟩ := hrel
        clear HR2
        by_cases hlt : k < 4
        · obtain ⟨⟨l, k'⟩, hxk, _⟩ := get_el (xs := T.mps.zipIdx) (k := k) hlt
          obtain ⟨hk', hxm⟩ := zip_at hxk
          simp only at hk' hxm
          subst hk'
          obtain ⟨v, d0, hv⟩ := HM.out k' _ hxm
          obtain ⟨A, c, rfl, hc1, hc2, _, hcell⟩ := id hv
          have HCE := Lib.hid hcell
          have hlm : l.length ≤ 9223372036854775807 := by unfold maxLen at hc2; omega
          have e0 := (hbel.cell (p := am.add k') (by rw [block_of_add]; exact hma)).trans d0
          have HX := Lib.hid hxk
          obtain ⟨Ro, hRo⟩ : ∃ Ro, Ro = mpKeys (l, k') := ⟨_, rfl⟩
          have HO : Hid (keysB (k' == 3) (-1) ((keysOf l).drop 0) = Ro) := Lib.hid hRo.symm
          have HCO : Hid (mpKeys (l, k') = Ro) := Lib.hid hRo.symm
          clear d0 hxk hxm hcell hv hc1 hc2 hRo
          have q0 : (0 : Int) ≤ (k' : Int) := by omega
          have q1 : (k' : Int) < (4 : Int) := by omega
          go_wp2_with fail
          clear e0
          go_loopw [52] (fun i wr => ∃ (j : Nat) (last : Int), j ≤ l.length ∧ i = .int .i64 j ∧ -1 ≤ last ∧ Hid ((j = 0 → last = -1) ∧ (∀ i, j = i + 1 → ∃ m, l[i]? = some m ∧ m.1 = last)) ∧ Hid (keysB (k' == 3) last ((keysOf l).drop j) = Ro) ∧ Below w2.heap.size w2 wr) (fun i _ => l.length - (intOf i).toNat)
          case atStart => exact ⟨0, -1, by omega, rfl, by omega, Lib.hid ⟨fun _ => rfl, fun i h => by omega⟩, HO, hbel⟩
          case round =>
            obtain ⟨j, last, hj, rfl, hla, HL, HSj, hbelj⟩ := hrel
            clear HO hbel
            by_cases hjl : j < l.length
            · obtain ⟨⟨cc, tg⟩, hxj, _⟩ := get_el hjl
              obtain ⟨aj, sv, rfl, ha, d0, d1, A', c', rfl, _⟩ := HCE.out j _ hxj
              simp only at d0 d1
              obtain ⟨e0, e1⟩ := map_cells hbelj ha d0 d1
              have HXj := Lib.hid (keys_get hxj)
              simp only at HXj
              have HL2 : Hid ((j + 1 = 0 → cc = -1) ∧ (∀ i, j + 1 = i + 1 → ∃ m, l[i]? = some m ∧ m.1 = cc)) := Lib.hid ⟨fun h => by omega, fun i h => ⟨(cc, tg), by rw [show i = j by omega]; exact hxj, rfl⟩⟩
              clear d0 d1 hxj
              have r0 : (0 : Int) ≤ (j : Int) := by omega
              have r1 : (j : Int) < (l.length : Int) := by omega
              have HP := Lib.hid (fun W => refReserved_any cc W)
              have HNA := Lib.hid (fun W => latin_any cc W)
              rcases show cc < 0 ∨ (0 ≤ cc ∧ 1114111 < cc) ∨ (0 ≤ cc ∧ cc ≤ 1114111) by omega with h1 | ⟨h1, h2⟩ | ⟨h1, h2⟩
              · have HN := Lib.hid (keys_no HXj.out HSj.out (keyOk_out (by omega)))
                have t1 : decide (cc < 0) = true := decide_eq_true h1
                clear HL HP HNA
                go_wp2_with fail
                go_quiet (fail)
                go_wp2_with fail
                go_ret
                rw [HRR.out, each_no HX.out HS.out (HCO.out.trans HN.out)]
                exact ⟨by simp, below_next hbel2 (below_drewN (hbelj.alloc hbelj.size _) nq)⟩
              · have HN := Lib.hid (keys_no HXj.out HSj.out (keyOk_out (by omega)))
                have t1 : decide (cc < 0) = false := by rw [decide_eq_false_iff_not]; omega
                have t2 : decide (1114111 < cc) = true := decide_eq_true h2
                clear HL HP HNA
                go_wp2_with fail
                go_quiet (fail)
                go_wp2_with fail
                go_ret
                rw [HRR.out, each_no HX.out HS.out (HCO.out.trans HN.out)]
                exact ⟨by simp, below_next hbel2 (below_drewN (hbelj.alloc hbelj.size _) nq)⟩
              · have t1 : decide (cc < 0) = false := by rw [decide_eq_false_iff_not]; omega
                have t2 : decide (1114111 < cc) = false := by rw [decide_eq_false_iff_not]; omega
                by_cases hj0 : j = 0
                · obtain rfl := HL.out.1 hj0
                  have HJ := Lib.hid hj0
                  have g0 : decide (0 < j) = false := by rw [decide_eq_false_iff_not]; omega
                  clear hj0
                  clear HL
                  have HE := Lib.hid (keyOk_res (p := (k' == 3)) (show -1 < cc by omega) h2)
                  rcases res_ways cc k' with ⟨ho, p0⟩ | ⟨ho, p0, p1⟩ | ⟨ho, p0, p1, p2⟩ | ⟨ho, p0, p1, p2⟩
                  · have HN := Lib.hid (keys_go HXj.out HSj.out (HE.out.trans ho))
                    rw [p0] at HP
                    clear ho p0 HNA HE
                    go_wp2_with fail
                    go_quiet ((go_at_call 98; exact quiet_left (HP.out _)))
                    go_wp2_with fail
                    go_roundw
                    case rel => exact ⟨j + 1, cc, by omega, by go_num, by omega, HL2, HN, below_drewN (hbelj.alloc hbelj.size _) nq⟩
                    case measure => simp [intOf]; omega
                  · have HN := Lib.hid (keys_no HXj.out HSj.out (HE.out.trans ho))
                    rw [p0] at HP
                    clear ho p0 HNA HE
                    go_wp2_with fail
                    go_quiet ((go_at_call 98; exact quiet_left (HP.out _)))
                    go_wp2_with fail
                    go_ret
                    rw [HRR.out, each_no HX.out HS.out (HCO.out.trans HN.out)]
                    exact ⟨by simp, below_next hbel2 (below_drewN (hbelj.alloc hbelj.size _) nq)⟩
                  · have HN := Lib.hid (keys_no HXj.out HSj.out (HE.out.trans ho))
                    rw [p0] at HP
                    rw [p2] at HNA
                    clear ho p0 p2 HE
                    go_wp2_with fail
                    go_quiet (first | (go_at_call 98; exact quiet_left (HP.out _)) | (go_at_call 47; exact quiet_left (HNA.out _)))
                    go_wp2_with fail
                    go_ret
                    rw [HRR.out, each_no HX.out HS.out (HCO.out.trans HN.out)]
                    exact ⟨by simp, below_next hbel2 (below_drewN (hbelj.alloc hbelj.size _) nq)⟩
                  · have HN := Lib.hid (keys_go HXj.out HSj.out (HE.out.trans ho))
                    rw [p0] at HP
                    rw [p2] at HNA
                    clear ho p0 p2 HE
                    go_wp2_with fail
                    go_quiet (first | (go_at_call 98; exact quiet_left (HP.out _)) | (go_at_call 47; exact quiet_left (HNA.out _)))
                    go_wp2_with fail
                    go_roundw
                    case rel => exact ⟨j + 1, cc, by omega, by go_num, by omega, HL2, HN, below_drewN (hbelj.alloc hbelj.size _) nq⟩
                    case measure => simp [intOf]; omega
                · obtain ⟨j', hj'⟩ : ∃ j', j = j' + 1 := ⟨j - 1, by omega⟩
                  obtain ⟨⟨pc, pt⟩, hxp, hpl⟩ := HL.out.2 j' hj'
                  simp only at hpl
                  subst hpl
                  obtain ⟨ap, sp, hap, _, d0, _⟩ := HCE.out j' _ hxp
                  cases hap
                  simp only at d0
                  have f0 := (hbelj.cell (p := aj.add (j' * 2)) (by rw [block_of_add]; exact ha)).trans d0
                  have g0 := fun o : Obj => (World.cell?_alloc_lt wr o (aj.add (j' * 2)) (World.block_lt_of_cell? _ _ f0)).trans f0
                  have hw : IntKind.i64.wrap ((j : Int) - 1) = j' := by rw [IntWalk.i64_in _ (by omega)]; omega
                  have s0 : (0 : Int) ≤ (j' : Int) := by omega
                  have s1 : (j' : Int) < (l.length : Int) := by omega
                  have s2 : 0 < j := by omega
                  have HJ := Lib.hid hj'
                  clear HL hxp d0 f0 ha hj0 hj'
                  by_cases h3 : cc ≤ pc
                  · have HN := Lib.hid (keys_no HXj.out HSj.out (keyOk_out (by omega)))
                    have t3 : decide (cc ≤ pc) = true := decide_eq_true h3
                    clear HP HNA
                    go_wp2_with fail
                    go_quiet (fail)
                    go_wp2_with fail
                    go_ret
                    rw [HRR.out, each_no HX.out HS.out (HCO.out.trans HN.out)]
                    exact ⟨by simp, below_next hbel2 (below_drewN (hbelj.alloc hbelj.size _) nq)⟩
                  · have t3 : decide (cc ≤ pc) = false := decide_eq_false h3
                    have HE := Lib.hid (keyOk_res (p := (k' == 3)) (show pc < cc by omega) h2)
                    rcases res_ways cc k' with ⟨ho, p0⟩ | ⟨ho, p0, p1⟩ | ⟨ho, p0, p1, p2⟩ | ⟨ho, p0, p1, p2⟩
                    · have HN := Lib.hid (keys_go HXj.out HSj.out (HE.out.trans ho))
                      rw [p0] at HP
                      clear ho p0 HNA HE
                      go_wp2_with fail
                      go_quiet ((go_at_call 98; exact quiet_left (HP.out _)))
                      go_wp2_with fail
                      go_roundw
                      case rel => exact ⟨j + 1, cc, by omega, by go_num, by omega, HL2, HN, below_drewN (hbelj.alloc hbelj.size _) nq⟩
                      case measure => simp [intOf]; omega
                    · have HN := Lib.hid (keys_no HXj.out HSj.out (HE.out.trans ho))
                      rw [p0] at HP
                      clear ho p0 HNA HE
                      go_wp2_with fail
                      go_quiet ((go_at_call 98; exact quiet_left (HP.out _)))
                      go_wp2_with fail
                      go_ret
                      rw [HRR.out, each_no HX.out HS.out (HCO.out.trans HN.out)]
                      exact ⟨by simp, below_next hbel2 (below_drewN (hbelj.alloc hbelj.size _) nq)⟩
                    · have HN := Lib.hid (keys_no HXj.out HSj.out (HE.out.trans ho))
                      rw [p0] at HP
                      rw [p2] at HNA
                      clear ho p0 p2 HE
                      go_wp2_with fail
                      go_quiet (first | (go_at_call 98; exact quiet_left (HP.out _)) | (go_at_call 47; exact quiet_left (HNA.out _)))
                      go_wp2_with fail
                      go_ret
                      rw [HRR.out, each_no HX.out HS.out (HCO.out.trans HN.out)]
                      exact ⟨by simp, below_next hbel2 (below_drewN (hbelj.alloc hbelj.size _) nq)⟩
                    · have HN := Lib.hid (keys_go HXj.out HSj.out (HE.out.trans ho))
                      rw [p0] at HP
                      rw [p2] at HNA
                      clear ho p0 p2 HE
                      go_wp2_with fail
                      go_quiet (first | (go_at_call 98; exact quiet_left (HP.out _)) | (go_at_call 47; exact quiet_left (HNA.out _)))
                      go_wp2_with fail
                      go_roundw
                      case rel => exact ⟨j + 1, cc, by omega, by go_num, by omega, HL2, HN, below_drewN (hbelj.alloc hbelj.size _) nq⟩
                      case measure => simp [intOf]; omega
            · have HN := Lib.hid (each_go HX.out HS.out (HCO.out.trans (keys_end (by unfold keysOf; rw [List.length_map]; omega) HSj.out)))
              go_wp2_with fail
              go_roundw
              case rel => exact ⟨k' + 1, by omega, by go_num, HN, hbelj⟩
              case measure => simp [intOf]; omega
        · have HN2 := Lib.hid (each_end (by show 4 ≤ k; omega) HS.out)
          obtain ⟨A, c, hA, hc1, hc2, _, hcell⟩ := HX10.out
          cases hA
          have HCE := Lib.hid hcell
          have hlm : T.excluded.length ≤ 9223372036854775807 := by unfold maxLen at hc2; omega
          have x10 := (HB2.out.later hbel).at_ (i := 10) rfl
          clear HM hma HS HX10 hcell hc1 hc2 HB2
          go_wp2_with fail
          go_loop [100] (fun i => ∃ (j : Nat) (last : Int), j ≤ T.excluded.length ∧ i = .int .i64 j ∧ -1 ≤ last ∧ Hid ((j = 0 → last = -1) ∧ (∀ i, j = i + 1 → T.excluded[i]? = some last)) ∧ Hid (keysB false last (T.excluded.drop j) = R3)) (fun i => T.excluded.length - (intOf i).toNat)
          case atStart => exact ⟨0, -1, by omega, rfl, by omega, Lib.hid ⟨fun _ => rfl, fun i h => by omega⟩, HR3⟩
          case round =>
            obtain ⟨j, last, hj, rfl, hla, HL, HSj⟩ := hrel
            clear HR3
            by_cases hjl : j < T.excluded.length
            · obtain ⟨cc, hxj, _⟩ := get_el hjl
              obtain ⟨aj, rfl, ha, d0⟩ := HCE.out j _ hxj
              have e0 := (hbel.cell (p := aj.add j) (by rw [block_of_add]; exact ha)).trans d0
              have HXj := Lib.hid hxj
              have HL2 : Hid ((j + 1 = 0 → cc = -1) ∧ (∀ i, j + 1 = i + 1 → T.excluded[i]? = some cc)) := Lib.hid ⟨fun h => by omega, fun i h => by rw [show i = j by omega]; exact hxj⟩
              clear d0 hxj
              have r0 : (0 : Int) ≤ (j : Int) := by omega
              have r1 : (j : Int) < (T.excluded.length : Int) := by omega
              have HP := Lib.hid (fun W => refReserved_any cc W)
              rcases show cc < 0 ∨ (0 ≤ cc ∧ 1114111 < cc) ∨ (0 ≤ cc ∧ cc ≤ 1114111) by omega with h1 | ⟨h1, h2⟩ | ⟨h1, h2⟩
              · have HN3 := Lib.hid (keys_no HXj.out HSj.out (keyOk_out (by omega)))
                have t1 : decide (cc < 0) = true := decide_eq_true h1
                clear HL HP
                go_wp2_with fail
                go_ret
                rw [HRR.out, HN3.out]
                exact ⟨by simp, below_next hbel2 hbel⟩
              · have HN3 := Lib.hid (keys_no HXj.out HSj.out (keyOk_out (by omega)))
                have t1 : decide (cc < 0) = false := by rw [decide_eq_false_iff_not]; omega
                have t2 : decide (1114111 < cc) = true := decide_eq_true h2
                clear HL HP
                go_wp2_with fail
                go_ret
                rw [HRR.out, HN3.out]
                exact ⟨by simp, below_next hbel2 hbel⟩
              · have t1 : decide (cc < 0) = false := by rw [decide_eq_false_iff_not]; omega
                have t2 : decide (1114111 < cc) = false := by rw [decide_eq_false_iff_not]; omega
                by_cases hj0 : j = 0
                · obtain rfl := HL.out.1 hj0
                  have HJ := Lib.hid hj0
                  have g0 : decide (0 < j) = false := by rw [decide_eq_false_iff_not]; omega
                  clear hj0 HL
                  have HE := Lib.hid (keyOk_res (p := false) (show -1 < cc by omega) h2)
                  cases ho : resB cc
                  · have HN3 := Lib.hid (keys_go HXj.out HSj.out (HE.out.trans (by rw [ho]; rfl)))
                    rw [ho] at HP
                    clear ho HE
                    go_wp2_with fail
                    refine (HP.out _).mono ?_
                    rintro e w' ⟨rfl, rfl⟩
                    go_wp2_with fail
                    go_round
                    case rel => exact ⟨j + 1, cc, by omega, by go_num, by omega, HL2, HN3⟩
                    case measure => simp [intOf]; omega
                  · have HN3 := Lib.hid (keys_no HXj.out HSj.out (HE.out.trans (by rw [ho]; rfl)))
                    rw [ho] at HP
                    clear ho HE
                    go_wp2_with fail
                    refine (HP.out _).mono ?_
                    rintro e w' ⟨rfl, rfl⟩
                    go_wp2_with fail
                    go_ret
                    rw [HRR.out, HN3.out]
                    exact ⟨by simp, below_next hbel2 hbel⟩
                · obtain ⟨j', hj'⟩ : ∃ j', j = j' + 1 := ⟨j - 1, by omega⟩
                  have hxp := HL.out.2 j' hj'
                  obtain ⟨ap, hap, _, d0⟩ := HCE.out j' _ hxp
                  cases hap
                  have f0 := (hbel.cell (p := aj.add j') (by rw [block_of_add]; exact ha)).trans d0
                  have hw : IntKind.i64.wrap ((j : Int) - 1) = j' := by rw [IntWalk.i64_in _ (by omega)]; omega
                  have hw2 : (j : Int) - 1 = j' := by omega
                  have s0 : (0 : Int) ≤ (j' : Int) := by omega
                  have s1 : (j' : Int) < (T.excluded.length : Int) := by omega
                  have s2 : 0 < j := by omega
                  have HJ := Lib.hid hj'
                  clear HL hxp d0 ha hj0 hj'
                  by_cases h3 : cc ≤ last
                  · have HN3 := Lib.hid (keys_no HXj.out HSj.out (keyOk_out (by omega)))
                    have t3 : decide (cc ≤ last) = true := decide_eq_true h3
                    clear HP
                    go_wp2_with fail
                    go_ret
                    rw [HRR.out, HN3.out]
                    exact ⟨by simp, below_next hbel2 hbel⟩
                  · have t3 : decide (cc ≤ last) = false := decide_eq_false h3
                    have HE := Lib.hid (keyOk_res (p := false) (show last < cc by omega) h2)
                    cases ho : resB cc
                    · have HN3 := Lib.hid (keys_go HXj.out HSj.out (HE.out.trans (by rw [ho]; rfl)))
                      rw [ho] at HP
                      clear ho HE
                      go_wp2_with fail
                      refine (HP.out _).mono ?_
                      rintro e w' ⟨rfl, rfl⟩
                      go_wp2_with fail
                      go_round
                      case rel => exact ⟨j + 1, cc, by omega, by go_num, by omega, HL2, HN3⟩
                      case measure => simp [intOf]; omega
                    · have HN3 := Lib.hid (keys_no HXj.out HSj.out (HE.out.trans (by rw [ho]; rfl)))
                      rw [ho] at HP
                      clear ho HE
                      go_wp2_with fail
                      refine (HP.out _).mono ?_
                      rintro e w' ⟨rfl, rfl⟩
                      go_wp2_with fail
                      go_ret
                      rw [HRR.out, HN3.out]
                      exact ⟨by simp, below_next hbel2 hbel⟩
            · have HN3 := Lib.hid (keys_end (by omega) HSj.out)
              go_wp2_with fail
              go_ret
              rw [HRR.out, HN.out, HN2.out, HN3.out]
              exact ⟨by simp, below_next hbel2 hbel⟩
end Go.Proofs.YtneinkpfhkojgaaGreatDoor
/-
  The walk through the reference's sized: rule 4.
-/
namespace Go.Proofs.YtneinkpfhkojgaaGreatDoor
open Go.RowKit ND

set_option maxRecDepth 100000 in
set_option maxHeartbeats 4000000 in
theorem sized_any (t : Tv) (T : Tab) (w : World) (ht : TabR w w.heap.size t T) :
    Calls Tryz.prog 80 #[t.val] w fun e w' => e = .returned (.bool T.rule4) ∧ Below w.heap.size w w' := by
  obtain ⟨A0, A1, A2, A3, A4, A5, A6, A7, A8, A9, A10, A11, k0, k1, k2, k3, k4, k5, k6, k7, k8, k9, k10, k11, rfl⟩ := ht.shape
  have HR := Lib.hid (fun o : Obj => ht.later ((Below.refl _ _).alloc (Nat.le_refl _) o))
  clear ht
  obtain ⟨R, hR⟩ : ∃ R, R = T.rule4 := ⟨_, rfl⟩
  rw [← hR]
  have HR2 : Hid ((T.mps.zipIdx.drop 0).all mpTo = R) := Lib.hid (by rw [hR, rule4_zip]; rfl)
  clear hR
  go_enter Tryz.func80, Tryz.ntmps80
  go_wp2_with fail
  refine (refMappings_any _ T _ (HR.out _)).mono ?_
  rintro e w2 ⟨am, rfl, hm, b2⟩
  have HM := Lib.hid hm.2
  have hma := hm.1
  have hbel2 := below_next ((Below.refl _ _).alloc (Nat.le_refl _) _) b2
  clear hm b2 HR
  go_wp2_with fail
  go_loopw [14] (fun i wr => ∃ (k : Nat), k ≤ 4 ∧ i = .int .i64 k ∧ Hid ((T.mps.zipIdx.drop k).all mpTo = R) ∧ Below w2.heap.size w2 wr) (fun i _ => 4 - (intOf i).toNat)
  case atStart => exact ⟨0, by omega, rfl, HR2, Below.refl _ _⟩
  case round =>
    obtain ⟨k, hk, rfl, HS, hbel⟩ := hrel
    clear HR2
    by_cases hlt : k < 4
    · obtain ⟨⟨l, k'⟩, hxk, _⟩ := get_el (xs := T.mps.zipIdx) (k := k) hlt
      obtain ⟨hk', hxm⟩ := zip_at' hxk
      simp only at hk' hxm
      subst hk'
      obtain ⟨v, d0, hv⟩ := HM.out k' _ hxm
      obtain ⟨A, c, rfl, hc1, hc2, _, hcell⟩ := id hv
      have HCE := Lib.hid hcell
      have hlm : l.length ≤ 9223372036854775807 := by unfold maxLen at hc2; omega
      have e0 := (hbel.cell (p := am.add k') (by rw [block_of_add]; exact hma)).trans d0
      have HX := Lib.hid hxk
      obtain ⟨Ro, hRo⟩ : ∃ Ro, Ro = l.all (toB (k' == 0)) := ⟨_, rfl⟩
      have HO : Hid ((l.drop 0).all (toB (k' == 0)) = Ro) := Lib.hid hRo.symm
      have HCO : Hid (mpTo (l, k') = Ro) := Lib.hid hRo.symm
      clear d0 hxk hxm hcell hv hc1 hc2 hRo
      have q0 : (0 : Int) ≤ (k' : Int) := by omega
      have q1 : (k' : Int) < (4 : Int) := by omega
      go_wp2_with fail
      clear e0
      go_loopw [21] (fun i wr => ∃ (j : Nat), j ≤ l.length ∧ i = .int .i64 j ∧ Hid ((l.drop j).all (toB (k' == 0)) = Ro) ∧ Below w2.heap.size w2 wr) (fun i _ => l.length - (intOf i).toNat)
      case atStart => exact ⟨0, by omega, rfl, HO, hbel⟩
      case round =>
        obtain ⟨j, hj, rfl, HSj, hbelj⟩ := hrel
        clear HO hbel
        by_cases hjl : j < l.length
        · obtain ⟨⟨cc, tg⟩, hxj, _⟩ := get_el hjl
          obtain ⟨aj, sv, rfl, ha, d0, d1, hto⟩ := HCE.out j _ hxj
          simp only at d0 d1 hto
          obtain ⟨A', c', rfl, hd1, hd2, _, hcell⟩ := id hto
          have HTC := Lib.hid hcell
          obtain ⟨e0, e1⟩ := map_cells hbelj ha d0 d1
          have HXj := Lib.hid hxj
          have hlt2 : tg.length ≤ 9223372036854775807 := by unfold maxLen at hd2; omega
          clear d0 d1 hxj ha hto hcell hd1 hd2
          have r0 : (0 : Int) ≤ (j : Int) := by omega
          have r1 : (j : Int) < (l.length : Int) := by omega
          rcases to_ways k' cc tg with ⟨ho, p0⟩ | ⟨ho, p0, p1⟩ | ⟨ho, p0, p1, p2⟩ | ⟨ho, p0, p1, p2⟩
          · have HN := Lib.hid (each_no HXj.out HSj.out ho)
            clear ho
            go_wp2_with fail
            go_ret
            rw [each_no HX.out HS.out (HCO.out.trans HN.out)]
            exact ⟨rfl, below_next hbel2 (hbelj.alloc hbelj.size _)⟩
          · have HN := Lib.hid (each_no HXj.out HSj.out ho)
            clear ho
            go_wp2_with fail
            go_ret
            rw [each_no HX.out HS.out (HCO.out.trans HN.out)]
            exact ⟨rfl, below_next hbel2 (hbelj.alloc hbelj.size _)⟩
          · obtain ⟨Rs, hRs⟩ : ∃ Rs, Rs = scrG 2 tg := ⟨_, rfl⟩
            have HO : Hid (scrG 2 (tg.drop 0) = Rs) := Lib.hid hRs.symm
            have HTS : Hid (toB (k' == 0) (cc, tg) = Rs) := Lib.hid (ho.trans hRs.symm)
            have hbelw := hbelj.alloc hbelj.size (.cells #[.int .i64 cc, .slice A' tg.length c'] 49)
            have HTB := Lib.hid (Blk.new wr 49 #[.int .i64 cc, .slice A' tg.length c'])
            clear ho hRs
            go_wp2_with fail
            have HB1 := Lib.hid (HTB.out.at_ (i := 1) (u := .slice A' tg.length c') rfl)
            clear HTB
            generalize World.alloc _ (.cells #[.int .i64 cc, .slice A' tg.length c'] 49) = wo at *
            clear e0 e1 hbelj
            go_loop [38] (fun i => ∃ (m : Nat) (last : Int), m ≤ tg.length ∧ i = .int .i64 m ∧ Hid ((m = 0 → last = 2) ∧ (∀ i, m = i + 1 → tg[i]? = some last)) ∧ Hid (scrG last (tg.drop m) = Rs)) (fun i => tg.length - (intOf i).toNat)
            case atStart => exact ⟨0, 2, by omega, rfl, Lib.hid ⟨fun _ => rfl, fun i h => by omega⟩, HO⟩
            case round =>
              obtain ⟨m, last, hm, rfl, HL, HSm⟩ := hrel
              clear HO
              by_cases hml : m < tg.length
              · obtain ⟨x, hxm, _⟩ := get_el hml
                obtain ⟨ax, rfl, hax, d0⟩ := HTC.out m _ hxm
                have e0 := (hbelw.cell (p := ax.add m) (by rw [block_of_add]; exact hax)).trans d0
                have HXm := Lib.hid hxm
                have HL2 : Hid ((m + 1 = 0 → x = 2) ∧ (∀ i, m + 1 = i + 1 → tg[i]? = some x)) := Lib.hid ⟨fun h => by omega, fun i h => by rw [show i = m by omega]; exact hxm⟩
                have s0 : (0 : Int) ≤ (m : Int) := by omega
                have s1 : (m : Int) < (tg.length : Int) := by omega
                clear d0 hxm
                rcases scr_ways last x m HL.out.1 with ⟨ho, u0⟩ | ⟨ho, u0, u1⟩ | ⟨ho, u0, u1, u2⟩ | ⟨ho, u0, u1, u2, u3⟩ | ⟨ho, u0, u1, u2, u3⟩
                · have HN := Lib.hid (scr_no HXm.out HSm.out ho)
                  clear ho HL
                  go_wp2_with fail
                  go_ret
                  rw [each_no HX.out HS.out (HCO.out.trans (each_no HXj.out HSj.out (HTS.out.trans HN.out)))]
                  exact ⟨rfl, below_next hbel2 hbelw⟩
                · have HN := Lib.hid (scr_no HXm.out HSm.out ho)
                  clear ho HL
                  go_wp2_with fail
                  go_ret
                  rw [each_no HX.out HS.out (HCO.out.trans (each_no HXj.out HSj.out (HTS.out.trans HN.out)))]
                  exact ⟨rfl, below_next hbel2 hbelw⟩
                · have HN := Lib.hid (scr_go HXm.out HSm.out ho)
                  have g0 : decide (0 < m) = false := by rw [decide_eq_false_iff_not]; omega
                  have g1 : decide (0 < (k' : Int)) = false := by rw [beq_iff_eq] at p2; rw [decide_eq_false_iff_not]; omega
                  have g2 : decide (0 < k') = false := by rw [beq_iff_eq] at p2; rw [decide_eq_false_iff_not]; omega
                  clear ho HL u2
                  go_wp2_with fail
                  go_round
                  case rel => exact ⟨m + 1, x, by omega, by go_num, HL2, HN⟩
                  case measure => simp [intOf]; omega
                · have HN := Lib.hid (scr_no HXm.out HSm.out ho)
                  obtain ⟨j', hj'⟩ : ∃ j', m = j' + 1 := ⟨m - 1, by omega⟩
                  have hxp := HL.out.2 j' hj'
                  obtain ⟨ap, hap, _, d0⟩ := HTC.out j' _ hxp
                  cases hap
                  have f0 := (hbelw.cell (p := ax.add j') (by rw [block_of_add]; exact hax)).trans d0
                  have hw2 : (m : Int) - 1 = j' := by omega
                  have v0 : (0 : Int) ≤ (j' : Int) := by omega
                  have v1 : (j' : Int) < (tg.length : Int) := by omega
                  have b1 := HB1.out
                  have HJ := Lib.hid hj'
                  clear ho HL hxp hj' d0
                  go_wp2_with fail
                  go_ret
                  rw [each_no HX.out HS.out (HCO.out.trans (each_no HXj.out HSj.out (HTS.out.trans HN.out)))]
                  exact ⟨rfl, below_next hbel2 hbelw⟩
                · have HN := Lib.hid (scr_go HXm.out HSm.out ho)
                  obtain ⟨j', hj'⟩ : ∃ j', m = j' + 1 := ⟨m - 1, by omega⟩
                  have hxp := HL.out.2 j' hj'
                  obtain ⟨ap, hap, _, d0⟩ := HTC.out j' _ hxp
                  cases hap
                  have f0 := (hbelw.cell (p := ax.add j') (by rw [block_of_add]; exact hax)).trans d0
                  have hw2 : (m : Int) - 1 = j' := by omega
                  have v0 : (0 : Int) ≤ (j' : Int) := by omega
                  have v1 : (j' : Int) < (tg.length : Int) := by omega
                  have b1 := HB1.out
                  have g1 : decide (0 < (k' : Int)) = false := by rw [beq_iff_eq] at p2; rw [decide_eq_false_iff_not]; omega
                  have g2 : decide (0 < k') = false := by rw [beq_iff_eq] at p2; rw [decide_eq_false_iff_not]; omega
                  have HJ := Lib.hid hj'
                  clear ho HL hxp hj' d0
                  go_wp2_with fail
                  go_round
                  case rel => exact ⟨m + 1, x, by omega, by go_num, HL2, HN⟩
                  case measure => simp [intOf]; omega
              · have HN := Lib.hid (each_go HXj.out HSj.out (HTS.out.trans (scr_end (by omega) HSm.out)))
                go_wp2_with fail
                go_roundw
                case rel => exact ⟨j + 1, by omega, by go_num, HN, hbelw⟩
                case measure => simp [intOf]; omega
          · obtain ⟨Rs, hRs⟩ : ∃ Rs, Rs = tg.all scalarB := ⟨_, rfl⟩
            have HO : Hid ((tg.drop 0).all scalarB = Rs) := Lib.hid hRs.symm
            have HTS : Hid (toB (k' == 0) (cc, tg) = Rs) := Lib.hid (ho.trans hRs.symm)
            have hbelw := hbelj.alloc hbelj.size (.cells #[.int .i64 cc, .slice A' tg.length c'] 49)
            have g1 : decide (0 < (k' : Int)) = true := by rw [beq_eq_false_iff_ne] at p2; rw [decide_eq_true_iff]; omega
            have g2 : 0 < k' := by rw [beq_eq_false_iff_ne] at p2; omega
            clear ho hRs
            go_wp2_with fail
            generalize World.alloc _ (.cells #[.int .i64 cc, .slice A' tg.length c'] 49) = wo at *
            clear e0 e1 hbelj
            go_loop [38] (fun i => ∃ (m : Nat), m ≤ tg.length ∧ i = .int .i64 m ∧ Hid ((tg.drop m).all scalarB = Rs)) (fun i => tg.length - (intOf i).toNat)
            case atStart => exact ⟨0, by omega, rfl, HO⟩
            case round =>
              obtain ⟨m, hm, rfl, HSm⟩ := hrel
              clear HO
              by_cases hml : m < tg.length
              · obtain ⟨x, hxm, _⟩ := get_el hml
                obtain ⟨ax, rfl, hax, d0⟩ := HTC.out m _ hxm
                have e0 := (hbelw.cell (p := ax.add m) (by rw [block_of_add]; exact hax)).trans d0
                have HXm := Lib.hid hxm
                have s0 : (0 : Int) ≤ (m : Int) := by omega
                have s1 : (m : Int) < (tg.length : Int) := by omega
                have HLE := Lib.hid (fun W => refScalar_any x W)
                clear d0 hxm hax
                cases hx : scalarB x
                · have HN := Lib.hid (each_no HXm.out HSm.out hx)
                  rw [hx] at HLE
                  clear hx
                  go_wp2_with fail
                  refine (HLE.out _).mono ?_
                  rintro e w' ⟨rfl, rfl⟩
                  go_wp2_with fail
                  go_ret
                  rw [each_no HX.out HS.out (HCO.out.trans (each_no HXj.out HSj.out (HTS.out.trans HN.out)))]
                  exact ⟨rfl, below_next hbel2 hbelw⟩
                · have HN := Lib.hid (each_go HXm.out HSm.out hx)
                  rw [hx] at HLE
                  clear hx
                  go_wp2_with fail
                  refine (HLE.out _).mono ?_
                  rintro e w' ⟨rfl, rfl⟩
                  go_wp2_with fail
                  go_round
                  case rel => exact ⟨m + 1, by omega, by go_num, HN⟩
                  case measure => simp [intOf]; omega
              · have HN := Lib.hid (each_go HXj.out HSj.out (HTS.out.trans (each_end (by omega) HSm.out)))
                go_wp2_with fail
                go_roundw
                case rel => exact ⟨j + 1, by omega, by go_num, HN, hbelw⟩
                case measure => simp [intOf]; omega
        · have HN := Lib.hid (each_go HX.out HS.out (HCO.out.trans (each_end (by omega) HSj.out)))
          go_wp2_with fail
          go_roundw
          case rel => exact ⟨k' + 1, by omega, by go_num, HN, hbelj⟩
          case measure => simp [intOf]; omega
    · have HN := Lib.hid (each_end (by show 4 ≤ k; omega) HS.out)
      go_wp2_with fail
      go_ret
      rw [HN.out]
      exact ⟨rfl, below_next hbel2 hbel⟩
end Go.Proofs.YtneinkpfhkojgaaGreatDoor
