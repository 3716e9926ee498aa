/-
  Plain mathematics of chapter 4, second part: full decompositions, with a bound on their depth. No program in sight.
-/
import Derived.Test.YtkdhldhbjomiaaaDoorTabP
namespace ND
open Go

/-- The full decomposition of a code point, at most f rounds deep. -/
def expF (D : List Mp) : Nat → Int → List Int
  | 0, c => [c]
  | f + 1, c => if findL D c = [] then [c] else (findL D c).flatMap (expF D f)
/-- How many code points the full decomposition has, or 19. -/
def sizeF (D : List Mp) : Nat → Int → Nat
  | 0, c => if findL D c = [] then 1 else 19
  | f + 1, c => if findL D c = [] then 1 else min 19 ((findL D c).map (sizeF D f)).sum
/-- Nothing in the list has a decomposition. -/
def doneB (D : List Mp) (l : List Int) : Bool := l.all (fun x => decide (findL D x = []))
def fin (D : List Mp) (f : Nat) (c : Int) : Bool := doneB D (expF D f c)

theorem expF_none {D : List Mp} {c : Int} (h : findL D c = []) (f : Nat) : expF D f c = [c] := by
  cases f with
  | zero => rfl
  | succ f => rw [expF, if_pos h]
theorem expF_some {D : List Mp} {c : Int} (h : findL D c ≠ []) (f : Nat) : expF D (f + 1) c = (findL D c).flatMap (expF D f) := by rw [expF, if_neg h]
theorem doneB_append (D : List Mp) (a b : List Int) : doneB D (a ++ b) = (doneB D a && doneB D b) := by unfold doneB; rw [List.all_append]
theorem doneB_flatMap (D : List Mp) (g : Int → List Int) (l : List Int) : doneB D (l.flatMap g) = l.all (fun x => doneB D (g x)) := by
  induction l with
  | nil => rfl
  | cons a r ih => rw [List.flatMap_cons, doneB_append, ih, List.all_cons]
theorem doneB_one (D : List Mp) (c : Int) : doneB D [c] = decide (findL D c = []) := by unfold doneB; simp
theorem fin_none {D : List Mp} {c : Int} (h : findL D c = []) (f : Nat) : fin D f c = true := by
  unfold fin; rw [expF_none h, doneB_one, decide_eq_true h]
theorem fin_zero {D : List Mp} {c : Int} : fin D 0 c = decide (findL D c = []) := by unfold fin expF; rw [doneB_one]
theorem fin_succ {D : List Mp} {c : Int} (h : findL D c ≠ []) (f : Nat) : fin D (f + 1) c = (findL D c).all (fin D f) := by
  show doneB D (expF D (f + 1) c) = _
  rw [expF_some h, doneB_flatMap]; rfl
theorem length_pos_ne {α : Type} {l : List α} (h : l ≠ []) : 0 < l.length := List.length_pos_iff.2 h
theorem flatMap_same {g g' : Int → List Int} {l : List Int} (h : ∀ x ∈ l, g x = g' x) : l.flatMap g = l.flatMap g' := by
  induction l with
  | nil => rfl
  | cons a r ih => rw [List.flatMap_cons, List.flatMap_cons, h a List.mem_cons_self, ih fun x hx => h x (List.mem_cons_of_mem _ hx)]
theorem expF_ne (D : List Mp) : ∀ (f : Nat) (c : Int), expF D f c ≠ [] := by
  intro f
  induction f with
  | zero => intro c h; cases h
  | succ f ih =>
    intro c
    by_cases h : findL D c = []
    · rw [expF_none h]; intro h; cases h
    · rw [expF_some h]
      cases hl : findL D c with
      | nil => exact absurd hl h
      | cons a r => rw [List.flatMap_cons]; intro he; exact ih a (List.append_eq_nil_iff.1 he).1
/-- Once final, deeper rounds add nothing. -/
theorem fin_more {D : List Mp} : ∀ (f : Nat) (c : Int), fin D f c = true → expF D (f + 1) c = expF D f c := by
  intro f
  induction f with
  | zero =>
    intro c h
    rw [fin_zero, decide_eq_true_eq] at h
    rw [expF_none h, expF_none h]
  | succ f ih =>
    intro c h
    by_cases hc : findL D c = []
    · rw [expF_none hc, expF_none hc]
    · rw [expF_some hc, expF_some hc]
      rw [fin_succ hc] at h
      exact flatMap_same (fun x hx => ih x (List.all_eq_true.1 h x hx))
theorem fin_up {D : List Mp} {f : Nat} {c : Int} (h : fin D f c = true) : ∀ g, f ≤ g → fin D g c = true ∧ expF D g c = expF D f c := by
  intro g hg
  induction g with
  | zero => obtain rfl : f = 0 := by omega
            exact ⟨h, rfl⟩
  | succ g ih =>
    rcases Nat.lt_or_ge g f with hlt | hge
    · obtain rfl : f = g + 1 := by omega
      exact ⟨h, rfl⟩
    · obtain ⟨h1, h2⟩ := ih hge
      have h3 := fin_more g c h1
      refine ⟨?_, h3.trans h2⟩
      unfold fin at h1 ⊢
      rw [h3]; exact h1

/-- A sum of sizes. -/
theorem sum_sizes (D : List Mp) (f : Nat) (hs : ∀ c, sizeF D f c = if fin D f c = true then min 19 (expF D f c).length else 19) (l : List Int) :
    min 19 ((l.map (sizeF D f)).sum) = if l.all (fin D f) = true then min 19 (l.flatMap (expF D f)).length else if l = [] then 0 else 19 := by
  induction l with
  | nil => simp
  | cons a r ih =>
    rw [List.map_cons, List.sum_cons, List.all_cons, List.flatMap_cons, List.length_append, hs a]
    cases ha : fin D f a
    · simp
    · simp only [if_true, Bool.true_and]
      cases hr : r.all (fin D f)
      · rw [hr] at ih
        simp only [Bool.false_eq_true, if_false] at ih ⊢
        by_cases hn : r = []
        · subst hn; simp at hr
        · rw [if_neg hn] at ih; simp; omega
      · rw [hr, if_pos rfl] at ih
        simp only [if_true]
        omega
theorem sizeF_eq (D : List Mp) : ∀ (f : Nat) (c : Int), sizeF D f c = if fin D f c = true then min 19 (expF D f c).length else 19 := by
  intro f
  induction f with
  | zero =>
    intro c
    rw [sizeF, fin_zero]
    by_cases h : findL D c = []
    · rw [if_pos h, if_pos (by simpa using h)]; rfl
    · rw [if_neg h, if_neg (by simpa using h)]
  | succ f ih =>
    intro c
    by_cases h : findL D c = []
    · rw [sizeF, if_pos h, fin_none h, if_pos rfl, expF_none h]; rfl
    · rw [sizeF, if_neg h, fin_succ h, expF_some h, sum_sizes D f ih]
      cases hA : (findL D c).all (fin D f)
      · simp [h]
      · simp
theorem sizeF_le {D : List Mp} {f : Nat} {c : Int} : sizeF D f c ≤ 18 ↔ fin D f c = true ∧ (expF D f c).length ≤ 18 := by
  rw [sizeF_eq]
  cases h : fin D f c
  · simp
  · simp; omega

/-- How many rows are final. -/
def cntF (D : List Mp) (f : Nat) : Nat := D.countP (fun m => fin D f m.1)
theorem countP_strict {α : Type} {p q : α → Bool} {l : List α} (h : ∀ x ∈ l, p x = true → q x = true) (he : ∃ x ∈ l, q x = true ∧ p x = false) : l.countP p + 1 ≤ l.countP q := by
  induction l with
  | nil => obtain ⟨x, hx, _⟩ := he; cases hx
  | cons a r ih =>
    rw [List.countP_cons, List.countP_cons]
    have hr : ∀ x ∈ r, p x = true → q x = true := fun x hx => h x (List.mem_cons_of_mem _ hx)
    obtain ⟨x, hx, h1, h2⟩ := he
    rcases List.mem_cons.1 hx with rfl | hx
    · rw [h1, h2]
      have := List.countP_mono_left hr
      simp; omega
    · have := ih hr ⟨x, hx, h1, h2⟩
      cases hp : p a
      · simp; split <;> omega
      · rw [h a List.mem_cons_self hp]; simp; omega
def stableAt (D : List Mp) (f : Nat) : Prop := ∀ c, fin D (f + 1) c = true → fin D f c = true
theorem stable_up {D : List Mp} {f : Nat} (h : stableAt D f) : ∀ g, f ≤ g → stableAt D g := by
  intro g hg
  induction g with
  | zero => obtain rfl : f = 0 := by omega
            exact h
  | succ g ih =>
    rcases Nat.lt_or_ge g f with hlt | hge
    · obtain rfl : f = g + 1 := by omega
      exact h
    · have h1 := ih hge
      intro c hc
      by_cases hn : findL D c = []
      · exact fin_none hn _
      · rw [fin_succ hn] at hc ⊢
        rw [List.all_eq_true] at hc ⊢
        exact fun x hx => h1 x (hc x hx)
theorem stable_fin {D : List Mp} {f : Nat} (h : stableAt D f) {c : Int} : ∀ g, fin D g c = true → fin D f c = true := by
  intro g
  induction g with
  | zero => intro hc; exact (fin_up hc f (Nat.zero_le _)).1
  | succ g ih =>
    intro hc
    rcases Nat.lt_or_ge g f with hlt | hge
    · exact (fin_up hc f hlt).1
    · exact ih (stable_up h g hge c hc)
theorem fin_key {D : List Mp} {c : Int} (h : findL D c ≠ []) : ∃ m ∈ D, m.1 = c := ⟨_, findL_mem h, rfl⟩
theorem stable_or (D : List Mp) : ∀ f, (∃ g, g < f ∧ stableAt D g) ∨ f ≤ cntF D f := by
  intro f
  induction f with
  | zero => exact .inr (Nat.zero_le _)
  | succ f ih =>
    rcases ih with ⟨g, hg, hs⟩ | ih
    · exact .inl ⟨g, by omega, hs⟩
    · by_cases hs : stableAt D f
      · exact .inl ⟨f, by omega, hs⟩
      · right
        have : ∃ c, fin D (f + 1) c = true ∧ fin D f c = false := by
          by_cases he : ∃ c, fin D (f + 1) c = true ∧ fin D f c = false
          · exact he
          · refine absurd (fun c hc => ?_) hs
            cases hx : fin D f c
            · exact absurd ⟨c, hc, hx⟩ he
            · rfl
        obtain ⟨c, h1, h2⟩ := this
        have hk : findL D c ≠ [] := fun h => by rw [fin_none h] at h2; cases h2
        obtain ⟨m, hm, rfl⟩ := fin_key hk
        have := countP_strict (p := fun m : Mp => fin D f m.1) (q := fun m : Mp => fin D (f + 1) m.1) (l := D) (fun x _ hx => (fin_up hx (f + 1) (by omega)).1) ⟨m, hm, h1, h2⟩
        unfold cntF at ih ⊢
        omega
/-- Whatever is final at all is final after as many rounds as there are rows. -/
theorem fin_len {D : List Mp} {g : Nat} {c : Int} (h : fin D g c = true) : fin D D.length c = true := by
  rcases stable_or D D.length with ⟨f, hf, hs⟩ | hc
  · exact (fin_up (stable_fin hs g h) D.length (by omega)).1
  · by_cases hn : findL D c = []
    · exact fin_none hn _
    · obtain ⟨m, hm, rfl⟩ := fin_key hn
      have he : D.countP (fun m => fin D D.length m.1) = D.length := Nat.le_antisymm List.countP_le_length hc
      exact List.countP_eq_length.1 he m hm

/-- One round of the reference. -/
def exp1 (D : List Mp) (l : List Int) : List Int := l.flatMap (fun x => if findL D x = [] then [x] else findL D x)
def fullF (D : List Mp) : Nat → List Int → Option (List Int)
  | 0, _ => none
  | n + 1, l => if doneB D l = true then some l else if 18 < (exp1 D l).length then none else fullF D n (exp1 D l)
theorem flatMap_exp1 (D : List Mp) (k : Nat) (l : List Int) : (exp1 D l).flatMap (expF D k) = l.flatMap (expF D (k + 1)) := by
  unfold exp1
  induction l with
  | nil => rfl
  | cons a r ih =>
    rw [List.flatMap_cons, List.flatMap_append, ih, List.flatMap_cons]
    congr 1
    by_cases h : findL D a = []
    · rw [if_pos h, expF_none h]; simp [expF_none h]
    · rw [if_neg h, expF_some h]
theorem flatMap_zero (D : List Mp) (l : List Int) : l.flatMap (expF D 0) = l := by
  induction l with
  | nil => rfl
  | cons a r ih => rw [List.flatMap_cons, ih]; rfl
theorem flatMap_done {D : List Mp} {l : List Int} (h : doneB D l = true) (k : Nat) : l.flatMap (expF D k) = l := by
  induction l with
  | nil => rfl
  | cons a r ih =>
    unfold doneB at h ih
    rw [List.all_cons, Bool.and_eq_true, decide_eq_true_eq] at h
    rw [List.flatMap_cons, ih h.2, expF_none h.1]; rfl
theorem flatMap_len (D : List Mp) (k : Nat) (l : List Int) : l.length ≤ (l.flatMap (expF D k)).length := by
  induction l with
  | nil => simp
  | cons a r ih =>
    have := length_pos_ne (expF_ne D k a)
    rw [List.flatMap_cons, List.length_append, List.length_cons]; omega
theorem fullF_of (D : List Mp) : ∀ (n k : Nat) (l : List Int), k < n → doneB D (l.flatMap (expF D k)) = true → (l.flatMap (expF D k)).length ≤ 18 → fullF D n l = some (l.flatMap (expF D k)) := by
  intro n
  induction n with
  | zero => intro k l h; omega
  | succ n ih =>
    intro k l hk hd hl
    rw [fullF]
    by_cases h : doneB D l = true
    · rw [if_pos h, flatMap_done h]
    · rw [if_neg h]
      cases k with
      | zero => rw [flatMap_zero] at hd; exact absurd hd h
      | succ k =>
        rw [← flatMap_exp1] at hd hl ⊢
        have := flatMap_len D k (exp1 D l)
        rw [if_neg (by omega)]
        exact ih k _ (by omega) hd hl
theorem fullF_some (D : List Mp) : ∀ (n : Nat) (l r : List Int), fullF D n l = some r → ∃ k, k < n ∧ r = l.flatMap (expF D k) ∧ doneB D r = true ∧ (l.length ≤ 18 → r.length ≤ 18) := by
  intro n
  induction n with
  | zero => intro l r h; cases h
  | succ n ih =>
    intro l r h
    rw [fullF] at h
    by_cases hd : doneB D l = true
    · rw [if_pos hd] at h; cases h
      exact ⟨0, by omega, (flatMap_zero D l).symm, hd, id⟩
    · rw [if_neg hd] at h
      by_cases hb : 18 < (exp1 D l).length
      · rw [if_pos hb] at h; cases h
      · rw [if_neg hb] at h
        obtain ⟨k, hk, he, h1, h2⟩ := ih _ _ h
        exact ⟨k + 1, by omega, by rw [← flatMap_exp1]; exact he, h1, fun _ => h2 (by omega)⟩
/-- The code's size and the reference's full decomposition agree. -/
theorem full_size {D : List Mp} (hD : D.length ≤ 256) (c : Int) :
    (sizeF D (D.length + 1) c ≤ 18 ∧ fullF D 257 [c] = some (expF D D.length c) ∧ fin D D.length c = true ∧ (expF D D.length c).length ≤ 18) ∨ (¬ sizeF D (D.length + 1) c ≤ 18 ∧ fullF D 257 [c] = none) := by
  have h1 : ∀ k, [c].flatMap (expF D k) = expF D k c := fun k => by simp
  by_cases h : sizeF D (D.length + 1) c ≤ 18
  · refine .inl ⟨h, ?_⟩
    obtain ⟨hf, hl⟩ := sizeF_le.1 h
    have hf' := fin_len hf
    obtain ⟨_, he⟩ := fin_up hf' (D.length + 1) (by omega)
    rw [he] at hl
    refine ⟨?_, hf', hl⟩
    have := fullF_of D 257 D.length [c] (by omega) (by rw [h1]; exact hf') (by rw [h1]; exact hl)
    rw [this, h1]
  · refine .inr ⟨h, ?_⟩
    cases hr : fullF D 257 [c] with
    | none => rfl
    | some r =>
      obtain ⟨k, hk, he, hd, hl⟩ := fullF_some D 257 [c] r hr
      rw [h1] at he
      subst he
      have hf := fin_len (g := k) (c := c) hd
      obtain ⟨hf1, he1⟩ := fin_up hf (D.length + 1) (by omega)
      refine absurd (sizeF_le.2 ⟨hf1, ?_⟩) h
      have hk2 := hl (by simp)
      rcases Nat.le_total k (D.length + 1) with hle | hle
      · rw [(fin_up (f := k) hd (D.length + 1) hle).2]; exact hk2
      · rw [← (fin_up hf1 k hle).2]; exact hk2
end ND
