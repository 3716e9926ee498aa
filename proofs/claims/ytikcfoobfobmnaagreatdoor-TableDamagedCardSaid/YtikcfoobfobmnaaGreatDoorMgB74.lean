/-
  Merged texts: lemmas and walks that the last text of this claim leans on.
-/
import Derived.Test.YtikcfoobfobmnaaGreatDoorMgB72
import Derived.Test.YtikcfoobfobmnaaGreatDoorMgB71
import Derived.Test.YtikcfoobfobmnaaGreatDoorMgB73
/-
  The walks through keep.pool, keep.point and keep.Points.
-/
namespace Go.Proofs.YtikcfoobfobmnaaGreatDoor
open Go.RowKit ND

def poolL : List Int := [0xad, 0xb7, 0x301, 0x308, 0x323, 0x345, 0x375, 0x3b1, 0x3b2, 0x3b3, 0x430, 0x5d0, 0x5f3, 0x628, 0x629, 0x660, 0x6f0, 0x94d, 0x1e00, 0x1e01, 0x1e02, 0x1e03, 0x1e04, 0x200c, 0x200d, 0x30fb, 0x4e00, 0x1f600]
theorem pool_scal : ∀ c ∈ poolL, scalarB c = true := by decide

set_option maxRecDepth 100000 in
set_option maxHeartbeats 400000 in
theorem pool_any (w : World) : Calls Tryz.prog 22 #[] w fun e w' => e = .returned (.slice (some ⟨w.heap.size, 0, none⟩) 28 28) ∧ w' = w.alloc (.cells (poolL.map (Value.int .i64)).toArray 3) := by
  go_enter Tryz.func22, Tryz.ntmps22
  go_wp2_with fail
  go_ret
  exact ⟨rfl, rfl⟩

theorem Src.lt {w : World} {g : Nat} {v : Value} {n : Nat} (h : Src w g v n) : g < w.heap.size := by
  obtain ⟨i, _, hb⟩ := h; exact hb.lt
theorem Src.alloc {w : World} {g : Nat} {v : Value} {n : Nat} (h : Src w g v n) (o : Obj) : Src (w.alloc o) g v n := by
  obtain ⟨i, hi, hb⟩ := h; exact ⟨i, hi, hb.alloc o⟩
theorem Src.grown {w w' : World} {g : Nat} {v : Value} {n : Nat} {row : Option Nat} (h : Src w g v n) (hg : w.grownBy w' row) (hr : some g ≠ row) : Src w' g v n := by
  obtain ⟨i, hi, hb⟩ := h; exact ⟨i, hi, hb.grown hg hr⟩

def RetPoint (w : World) (g : Nat) (v : Value) (n : Nat) (e : Ending) (w' : World) : Prop :=
  ∃ r : Int, e = .returned (.int .i64 r) ∧ scalarB r = true ∧ Src w' g v n ∧ w.grownBy w' (some g)


end Go.Proofs.YtikcfoobfobmnaaGreatDoor
/-
  Plain mathematics of chapter 4, second part: full decompositions, with a bound on their depth. No program in sight.
-/
namespace ND
open Go

/-- The full decomposition of a code point, at most f rounds deep. -/
def expF (D : List Mp) : Nat → Int → List Int
  | 0, c => [c]
  | f + 1, c => if findL D c = [] then [c] else (findL D c).flatMap (expF D f)
/-- How many code points the full decomposition has, or 19. -/
def sizeF (D : List Mp) : Nat → Int → Nat
  | 0, c => if findL D c = [] then 1 else 19
  | f + 1, c => if findL D c = [] then 1 else min 19 ((findL D c).map (sizeF D f)).sum
/-- Nothing in the list has a decomposition. -/
def doneB (D : List Mp) (l : List Int) : Bool := l.all (fun x => decide (findL D x = []))
def fin (D : List Mp) (f : Nat) (c : Int) : Bool := doneB D (expF D f c)

theorem expF_none {D : List Mp} {c : Int} (h : findL D c = []) (f : Nat) : expF D f c = [c] := by
  cases f with
  | zero => rfl
  | succ f => rw [expF, if_pos h]
theorem expF_some {D : List Mp} {c : Int} (h : findL D c ≠ []) (f : Nat) : expF D (f + 1) c = (findL D c).flatMap (expF D f) := by rw [expF, if_neg h]
theorem doneB_append (D : List Mp) (a b : List Int) : doneB D (a ++ b) = (doneB D a && doneB D b) := by unfold doneB; rw [List.all_append]
theorem doneB_flatMap (D : List Mp) (g : Int → List Int) (l : List Int) : doneB D (l.flatMap g) = l.all (fun x => doneB D (g x)) := by
  induction l with
  | nil => rfl
  | cons a r ih => rw [List.flatMap_cons, doneB_append, ih, List.all_cons]
theorem doneB_one (D : List Mp) (c : Int) : doneB D [c] = decide (findL D c = []) := by unfold doneB; simp
theorem fin_none {D : List Mp} {c : Int} (h : findL D c = []) (f : Nat) : fin D f c = true := by
  unfold fin; rw [expF_none h, doneB_one, decide_eq_true h]
theorem fin_zero {D : List Mp} {c : Int} : fin D 0 c = decide (findL D c = []) := by unfold fin expF; rw [doneB_one]
theorem fin_succ {D : List Mp} {c : Int} (h : findL D c ≠ []) (f : Nat) : fin D (f + 1) c = (findL D c).all (fin D f) := by
  show doneB D (expF D (f + 1) c) = _
  rw [expF_some h, doneB_flatMap]; rfl
theorem length_pos_ne {α : Type} {l : List α} (h : l ≠ []) : 0 < l.length := List.length_pos_iff.2 h
theorem flatMap_same {g g' : Int → List Int} {l : List Int} (h : ∀ x ∈ l, g x = g' x) : l.flatMap g = l.flatMap g' := by
  induction l with
  | nil => rfl
  | cons a r ih => rw [List.flatMap_cons, List.flatMap_cons, h a List.mem_cons_self, ih fun x hx => h x (List.mem_cons_of_mem _ hx)]
theorem expF_ne (D : List Mp) : ∀ (f : Nat) (c : Int), expF D f c ≠ [] := by
  intro f
  induction f with
  | zero => intro c h; cases h
  | succ f ih =>
    intro c
    by_cases h : findL D c = []
    · rw [expF_none h]; intro h; cases h
    · rw [expF_some h]
      cases hl : findL D c with
      | nil => exact absurd hl h
      | cons a r => rw [List.flatMap_cons]; intro he; exact ih a (List.append_eq_nil_iff.1 he).1
/-- Once final, deeper rounds add nothing. -/
theorem fin_more {D : List Mp} : ∀ (f : Nat) (c : Int), fin D f c = true → expF D (f + 1) c = expF D f c := by
  intro f
  induction f with
  | zero =>
    intro c h
    rw [fin_zero, decide_eq_true_eq] at h
    rw [expF_none h, expF_none h]
  | succ f ih =>
    intro c h
    by_cases hc : findL D c = []
    · rw [expF_none hc, expF_none hc]
    · rw [expF_some hc, expF_some hc]
      rw [fin_succ hc] at h
      exact flatMap_same (fun x hx => ih x (List.all_eq_true.1 h x hx))
theorem fin_up {D : List Mp} {f : Nat} {c : Int} (h : fin D f c = true) : ∀ g, f ≤ g → fin D g c = true ∧ expF D g c = expF D f c := by
  intro g hg
  induction g with
  | zero => obtain rfl : f = 0 := by omega
            exact ⟨h, rfl⟩
  | succ g ih =>
    rcases Nat.lt_or_ge g f with hlt | hge
    · obtain rfl : f = g + 1 := by omega
      exact ⟨h, rfl⟩
    · obtain ⟨h1, h2⟩ := ih hge
      have h3 := fin_more g c h1
      refine ⟨?_, h3.trans h2⟩
      unfold fin at h1 ⊢
      rw [h3]; exact h1

/-- A sum of sizes. -/
theorem sum_sizes (D : List Mp) (f : Nat) (hs : ∀ c, sizeF D f c = if fin D f c = true then min 19 (expF D f c).length else 19) (l : List Int) :
    min 19 ((l.map (sizeF D f)).sum) = if l.all (fin D f) = true then min 19 (l.flatMap (expF D f)).length else if l = [] then 0 else 19 := by
  induction l with
  | nil => simp
  | cons a r ih =>
    rw [List.map_cons, List.sum_cons, List.all_cons, List.flatMap_cons, List.length_append, hs a]
    cases ha : fin D f a
    · simp
    · simp only [if_true, Bool.true_and]
      cases hr : r.all (fin D f)
      · rw [hr] at ih
        simp only [Bool.false_eq_true, if_false] at ih ⊢
        by_cases hn : r = []
        · subst hn; simp at hr
        · rw [if_neg hn] at ih; simp; omega
      · rw [hr, if_pos rfl] at ih
        simp only [if_true]
        omega
theorem sizeF_eq (D : List Mp) : ∀ (f : Nat) (c : Int), sizeF D f c = if fin D f c = true then min 19 (expF D f c).length else 19 := by
  intro f
  induction f with
  | zero =>
    intro c
    rw [sizeF, fin_zero]
    by_cases h : findL D c = []
    · rw [if_pos h, if_pos (by simpa using h)]; rfl
    · rw [if_neg h, if_neg (by simpa using h)]
  | succ f ih =>
    intro c
    by_cases h : findL D c = []
    · rw [sizeF, if_pos h, fin_none h, if_pos rfl, expF_none h]; rfl
    · rw [sizeF, if_neg h, fin_succ h, expF_some h, sum_sizes D f ih]
      cases hA : (findL D c).all (fin D f)
      · simp [h]
      · simp
theorem sizeF_le {D : List Mp} {f : Nat} {c : Int} : sizeF D f c ≤ 18 ↔ fin D f c = true ∧ (expF D f c).length ≤ 18 := by
  rw [sizeF_eq]
  cases h : fin D f c
  · simp
  · simp; omega

/-- How many rows are final. -/
def cntF (D : List Mp) (f : Nat) : Nat := D.countP (fun m => fin D f m.1)
theorem countP_strict {α : Type} {p q : α → Bool} {l : List α} (h : ∀ x ∈ l, p x = true → q x = true) (he : ∃ x ∈ l, q x = true ∧ p x = false) : l.countP p + 1 ≤ l.countP q := by
  induction l with
  | nil => obtain ⟨x, hx, _⟩ := he; cases hx
  | cons a r ih =>
    rw [List.countP_cons, List.countP_cons]
    have hr : ∀ x ∈ r, p x = true → q x = true := fun x hx => h x (List.mem_cons_of_mem _ hx)
    obtain ⟨x, hx, h1, h2⟩ := he
    rcases List.mem_cons.1 hx with rfl | hx
    · rw [h1, h2]
      have := List.countP_mono_left hr
      simp; omega
    · have := ih hr ⟨x, hx, h1, h2⟩
      cases hp : p a
      · simp; split <;> omega
      · rw [h a List.mem_cons_self hp]; simp; omega
def stableAt (D : List Mp) (f : Nat) : Prop := ∀ c, fin D (f + 1) c = true → fin D f c = true
theorem stable_up {D : List Mp} {f : Nat} (h : stableAt D f) : ∀ g, f ≤ g → stableAt D g := by
  intro g hg
  induction g with
  | zero => obtain rfl : f = 0 := by omega
            exact h
  | succ g ih =>
    rcases Nat.lt_or_ge g f with hlt | hge
    · obtain rfl : f = g + 1 := by omega
      exact h
    · have h1 := ih hge
      intro c hc
      by_cases hn : findL D c = []
      · exact fin_none hn _
      · rw [fin_succ hn] at hc ⊢
        rw [List.all_eq_true] at hc ⊢
        exact fun x hx => h1 x (hc x hx)
theorem stable_fin {D : List Mp} {f : Nat} (h : stableAt D f) {c : Int} : ∀ g, fin D g c = true → fin D f c = true := by
  intro g
  induction g with
  | zero => intro hc; exact (fin_up hc f (Nat.zero_le _)).1
  | succ g ih =>
    intro hc
    rcases Nat.lt_or_ge g f with hlt | hge
    · exact (fin_up hc f hlt).1
    · exact ih (stable_up h g hge c hc)
theorem fin_key {D : List Mp} {c : Int} (h : findL D c ≠ []) : ∃ m ∈ D, m.1 = c := ⟨_, findL_mem h, rfl⟩
theorem stable_or (D : List Mp) : ∀ f, (∃ g, g < f ∧ stableAt D g) ∨ f ≤ cntF D f := by
  intro f
  induction f with
  | zero => exact .inr (Nat.zero_le _)
  | succ f ih =>
    rcases ih with ⟨g, hg, hs⟩ | ih
    · exact .inl ⟨g, by omega, hs⟩
    · by_cases hs : stableAt D f
      · exact .inl ⟨f, by omega, hs⟩
      · right
        have : ∃ c, fin D (f + 1) c = true ∧ fin D f c = false := by
          by_cases he : ∃ c, fin D (f + 1) c = true ∧ fin D f c = false
          · exact he
          · refine absurd (fun c hc => ?_) hs
            cases hx : fin D f c
            · exact absurd ⟨c, hc, hx⟩ he
            · rfl
        obtain ⟨c, h1, h2⟩ := this
        have hk : findL D c ≠ [] := fun h => by rw [fin_none h] at h2; cases h2
        obtain ⟨m, hm, rfl⟩ := fin_key hk
        have := countP_strict (p := fun m : Mp => fin D f m.1) (q := fun m : Mp => fin D (f + 1) m.1) (l := D) (fun x _ hx => (fin_up hx (f + 1) (by omega)).1) ⟨m, hm, h1, h2⟩
        unfold cntF at ih ⊢
        omega
/-- Whatever is final at all is final after as many rounds as there are rows. -/
theorem fin_len {D : List Mp} {g : Nat} {c : Int} (h : fin D g c = true) : fin D D.length c = true := by
  rcases stable_or D D.length with ⟨f, hf, hs⟩ | hc
  · exact (fin_up (stable_fin hs g h) D.length (by omega)).1
  · by_cases hn : findL D c = []
    · exact fin_none hn _
    · obtain ⟨m, hm, rfl⟩ := fin_key hn
      have he : D.countP (fun m => fin D D.length m.1) = D.length := Nat.le_antisymm List.countP_le_length hc
      exact List.countP_eq_length.1 he m hm

/-- One round of the reference. -/
def exp1 (D : List Mp) (l : List Int) : List Int := l.flatMap (fun x => if findL D x = [] then [x] else findL D x)
def fullF (D : List Mp) : Nat → List Int → Option (List Int)
  | 0, _ => none
  | n + 1, l => if doneB D l = true then some l else if 18 < (exp1 D l).length then none else fullF D n (exp1 D l)
theorem flatMap_exp1 (D : List Mp) (k : Nat) (l : List Int) : (exp1 D l).flatMap (expF D k) = l.flatMap (expF D (k + 1)) := by
  unfold exp1
  induction l with
  | nil => rfl
  | cons a r ih =>
    rw [List.flatMap_cons, List.flatMap_append, ih, List.flatMap_cons]
    congr 1
    by_cases h : findL D a = []
    · rw [if_pos h, expF_none h]; simp [expF_none h]
    · rw [if_neg h, expF_some h]
theorem flatMap_zero (D : List Mp) (l : List Int) : l.flatMap (expF D 0) = l := by
  induction l with
  | nil => rfl
  | cons a r ih => rw [List.flatMap_cons, ih]; rfl
theorem flatMap_done {D : List Mp} {l : List Int} (h : doneB D l = true) (k : Nat) : l.flatMap (expF D k) = l := by
  induction l with
  | nil => rfl
  | cons a r ih =>
    unfold doneB at h ih
    rw [List.all_cons, Bool.and_eq_true, decide_eq_true_eq] at h
    rw [List.flatMap_cons, ih h.2, expF_none h.1]; rfl
theorem flatMap_len (D : List Mp) (k : Nat) (l : List Int) : l.length ≤ (l.flatMap (expF D k)).length := by
  induction l with
  | nil => simp
  | cons a r ih =>
    have := length_pos_ne (expF_ne D k a)
    rw [List.flatMap_cons, List.length_append, List.length_cons]; omega
theorem fullF_of (D : List Mp) : ∀ (n k : Nat) (l : List Int), k < n → doneB D (l.flatMap (expF D k)) = true → (l.flatMap (expF D k)).length ≤ 18 → fullF D n l = some (l.flatMap (expF D k)) := by
  intro n
  induction n with
  | zero => intro k l h; omega
  | succ n ih =>
    intro k l hk hd hl
    rw [fullF]
    by_cases h : doneB D l = true
    · rw [if_pos h, flatMap_done h]
    · rw [if_neg h]
      cases k with
      | zero => rw [flatMap_zero] at hd; exact absurd hd h
      | succ k =>
        rw [← flatMap_exp1] at hd hl ⊢
        have := flatMap_len D k (exp1 D l)
        rw [if_neg (by omega)]
        exact ih k _ (by omega) hd hl
theorem fullF_some (D : List Mp) : ∀ (n : Nat) (l r : List Int), fullF D n l = some r → ∃ k, k < n ∧ r = l.flatMap (expF D k) ∧ doneB D r = true ∧ (l.length ≤ 18 → r.length ≤ 18) := by
  intro n
  induction n with
  | zero => intro l r h; cases h
  | succ n ih =>
    intro l r h
    rw [fullF] at h
    by_cases hd : doneB D l = true
    · rw [if_pos hd] at h; cases h
      exact ⟨0, by omega, (flatMap_zero D l).symm, hd, id⟩
    · rw [if_neg hd] at h
      by_cases hb : 18 < (exp1 D l).length
      · rw [if_pos hb] at h; cases h
      · rw [if_neg hb] at h
        obtain ⟨k, hk, he, h1, h2⟩ := ih _ _ h
        exact ⟨k + 1, by omega, by rw [← flatMap_exp1]; exact he, h1, fun _ => h2 (by omega)⟩
/-- The code's size and the reference's full decomposition agree. -/
theorem full_size {D : List Mp} (hD : D.length ≤ 256) (c : Int) :
    (sizeF D (D.length + 1) c ≤ 18 ∧ fullF D 257 [c] = some (expF D D.length c) ∧ fin D D.length c = true ∧ (expF D D.length c).length ≤ 18) ∨ (¬ sizeF D (D.length + 1) c ≤ 18 ∧ fullF D 257 [c] = none) := by
  have h1 : ∀ k, [c].flatMap (expF D k) = expF D k c := fun k => by simp
  by_cases h : sizeF D (D.length + 1) c ≤ 18
  · refine .inl ⟨h, ?_⟩
    obtain ⟨hf, hl⟩ := sizeF_le.1 h
    have hf' := fin_len hf
    obtain ⟨_, he⟩ := fin_up hf' (D.length + 1) (by omega)
    rw [he] at hl
    refine ⟨?_, hf', hl⟩
    have := fullF_of D 257 D.length [c] (by omega) (by rw [h1]; exact hf') (by rw [h1]; exact hl)
    rw [this, h1]
  · refine .inr ⟨h, ?_⟩
    cases hr : fullF D 257 [c] with
    | none => rfl
    | some r =>
      obtain ⟨k, hk, he, hd, hl⟩ := fullF_some D 257 [c] r hr
      rw [h1] at he
      subst he
      have hf := fin_len (g := k) (c := c) hd
      obtain ⟨hf1, he1⟩ := fin_up hf (D.length + 1) (by omega)
      refine absurd (sizeF_le.2 ⟨hf1, ?_⟩) h
      have hk2 := hl (by simp)
      rcases Nat.le_total k (D.length + 1) with hle | hle
      · rw [(fin_up (f := k) hd (D.length + 1) hle).2]; exact hk2
      · rw [← (fin_up hf1 k hle).2]; exact hk2
end ND
/-
  Plain mathematics of chapter 4, third part: the nine rules. No program in sight.
-/
namespace ND
open Go

def blocksL : List Sp := [(0, 127, 0), (4352, 4370, 0), (4449, 4469, 0), (4520, 4546, 0), (44032, 55203, 0), (55296, 57343, 0)]
def refBlocks : List (Int × Int) := [(0, 127), (55296, 57343), (44032, 55203), (4352, 4370), (4449, 4469), (4520, 4546)]
/-- A span has no code point in common with a block. -/
def apartB (f t lo hi : Int) : Bool := !decide (f ≤ hi ∧ lo ≤ t)
def outB (f t : Int) : Bool := blocksL.all (fun b => apartB f t b.1 b.2.1)
theorem outB_ref (f t : Int) : refBlocks.all (fun b => apartB f t b.1 b.2) = outB f t := by
  unfold outB refBlocks blocksL
  simp only [List.all_cons, List.all_nil]
  generalize apartB f t 0 127 = a1
  generalize apartB f t 55296 57343 = a2
  generalize apartB f t 44032 55203 = a3
  generalize apartB f t 4352 4370 = a4
  generalize apartB f t 4449 4469 = a5
  generalize apartB f t 4520 4546 = a6
  cases a1 <;> cases a2 <;> cases a3 <;> cases a4 <;> cases a5 <;> cases a6 <;> rfl
theorem apart_ways (f t lo hi : Int) : (apartB f t lo hi = true ∧ decide (f ≤ hi) = false) ∨ (apartB f t lo hi = true ∧ decide (f ≤ hi) = true ∧ decide (lo ≤ t) = false) ∨ (apartB f t lo hi = false ∧ decide (f ≤ hi) = true ∧ decide (lo ≤ t) = true) := by
  unfold apartB
  simp only [Bool.not_eq_true', Bool.not_eq_false', decide_eq_true_eq, decide_eq_false_iff_not]
  omega
theorem outB_res {f t c : Int} (h : outB f t = true) (h1 : f ≤ c) (h2 : c ≤ t) : resB c = false := by
  unfold outB blocksL apartB at h
  simp only [List.all_cons, List.all_nil, Bool.and_eq_true, Bool.not_eq_true', decide_eq_false_iff_not] at h
  rw [resB_not]
  obtain ⟨a1, a2, a3, a4, a5, a6, _⟩ := h
  omega
theorem outB_one {c : Int} (h : resB c = false) : outB c c = true := by
  rw [resB_not] at h
  unfold outB blocksL apartB
  simp only [List.all_cons, List.all_nil, Bool.and_eq_true, Bool.not_eq_true', decide_eq_false_iff_not, Bool.and_true]
  refine ⟨?_, ?_, ?_, ?_, ?_, ?_⟩ <;> omega

/-- What a key may be behind another one; p: a letter, a digit or a hyphen may be one, too. -/
def keyOk (p : Bool) (last c : Int) : Bool := decide (last < c ∧ c ≤ 1114111) && (!resB c || (p && nameB c))
def keysB (p : Bool) : Int → List Int → Bool
  | _, [] => true
  | last, c :: r => keyOk p last c && keysB p c r
/-- Script numbers that ascend. -/
def scrG : Int → List Int → Bool
  | _, [] => true
  | last, s :: r => decide (3 ≤ s ∧ s ≤ 60 ∧ last < s) && scrG s r
def toB (x : Bool) (m : Mp) : Bool := decide (1 ≤ m.2.length ∧ m.2.length ≤ 18) && (if x then scrG 2 m.2 else m.2.all scalarB)
/-- How many code points have the status Mapped. -/
def mapCount : List Sp → Int
  | [] => 0
  | s :: r => (if s.2.2 = 3 then s.2.1 - s.1 + 1 else 0) + mapCount r
def okStat (s : Int) : Bool := decide (s = 1 ∨ s = 4)

def Tab.cols (T : Tab) : List (List Sp × Int × Int) := [(T.category, 0, 8), (T.cls, 1, 254), (T.joining, 0, 5), (T.bidi, 0, 11), (T.script, 0, 60), (T.status, 0, 4), (T.ignorable, 1, 1)]
def Tab.mps (T : Tab) : List (List Mp) := [T.extensions, T.maps, T.decomps, T.prototypes]
def keysOf (l : List Mp) : List Int := l.map (·.1)
def colOk (l : List Sp) : Bool := checkS l 0 1114111 && l.all (fun s => outB s.1 s.2.1)
def valsOk (c : List Sp × Int × Int) : Bool := c.1.all (fun s => decide (c.2.1 ≤ s.2.2 ∧ s.2.2 ≤ c.2.2))

def Tab.rule1 (T : Tab) : Bool := decide (T.excluded.length ≤ 256) && (T.cols.all (fun c => decide (c.1.length ≤ 256)) && T.mps.all (fun m => decide (m.length ≤ 256)))
def Tab.rule2m (T : Tab) : Bool := keysB false (-1) (keysOf T.extensions) && (keysB false (-1) (keysOf T.maps) && (keysB false (-1) (keysOf T.decomps) && keysB true (-1) (keysOf T.prototypes)))
def Tab.rule2 (T : Tab) : Bool := T.cols.all (fun c => colOk c.1) && (T.rule2m && keysB false (-1) T.excluded)
def Tab.rule3 (T : Tab) : Bool := T.cols.all valsOk
def Tab.rule4 (T : Tab) : Bool := T.extensions.all (toB true) && (T.maps.all (toB false) && (T.decomps.all (toB false) && T.prototypes.all (toB false)))
def Tab.mapOk (T : Tab) (m : Mp) : Bool := decide (T.statusOf m.1 = 3) && m.2.all (fun c => okStat (T.statusOf c))
def Tab.rule5 (T : Tab) : Bool := decide (mapCount T.status = (T.maps.length : Int)) && T.maps.all T.mapOk
def decEl (c : Int) : Bool := !(decide (c = 46) || sylB c || jamoB c)
def decOk (m : Mp) : Bool := decide (m.2.length ≤ 2) && m.2.all decEl
def Tab.szOk (T : Tab) (m : Mp) : Bool := decide (sizeF T.decomps (T.decomps.length + 1) m.1 ≤ 18)
def Tab.rule6 (T : Tab) : Bool := T.decomps.all decOk && T.decomps.all T.szOk
def Tab.exOk (T : Tab) (c : Int) : Bool := decide (findL T.decomps c ≠ [])
def Tab.rule7 (T : Tab) : Bool := T.excluded.all T.exOk

/-- The last code point of a full decomposition. -/
def lastF (D : List Mp) (f : Nat) (c : Int) : Int := (expF D f c).getLastD 0
/-- Whether a decomposition is composable: f rounds deep. -/
def Tab.compF (T : Tab) : Nat → Int → Bool
  | 0, _ => false
  | f + 1, c => match findL T.decomps c with
    | [a, b] => !T.excB c && (decide (T.classOf c = 0) && (decide (T.classOf a = 0) && (decide (findL T.decomps b = []) &&
        ((decide (findL T.decomps a = []) || T.compF f a) && (decide (T.classOf b = 0) || decide (T.classOf (lastF T.decomps f a) ≤ T.classOf b))))))
    | _ => false
def Tab.comp (T : Tab) (c : Int) : Bool := T.compF T.decomps.length c
/-- The sequences of the composable decompositions. -/
def Tab.pairs (T : Tab) : List (List Int) := (T.decomps.filter (fun m => T.comp m.1)).map (·.2)
def Tab.rule8 (T : Tab) : Bool := decide T.pairs.Nodup
def Tab.plainB (T : Tab) (c : Int) : Bool := decide (findL T.decomps c = []) && !T.ignB c
def Tab.protoEl (T : Tab) (c : Int) : Bool := T.plainB c && (!sylB c && decide (findL T.prototypes c = []))
def Tab.protoOk (T : Tab) (m : Mp) : Bool := T.plainB m.1 && m.2.all T.protoEl
def Tab.rule9 (T : Tab) : Bool := T.prototypes.all T.protoOk

def Tab.check (T : Tab) : Int :=
  if T.rule1 = false then 1 else if T.rule2 = false then 2 else if T.rule3 = false then 3 else if T.rule4 = false then 4 else if T.rule5 = false then 5
  else if T.rule6 = false then 6 else if T.rule7 = false then 7 else if T.rule8 = false then 8 else if T.rule9 = false then 9 else 0

theorem keysB_at {p : Bool} {l : List Int} : ∀ {last : Int}, keysB p last l = true → ∀ c ∈ l, last < c ∧ c ≤ 1114111 ∧ (resB c = false ∨ p = true ∧ nameB c = true) := by
  induction l with
  | nil => intro last _ c h; cases h
  | cons a r ih =>
    intro last h c hc
    rw [keysB, Bool.and_eq_true] at h
    obtain ⟨h1, h2⟩ := h
    unfold keyOk at h1
    simp only [Bool.and_eq_true, decide_eq_true_eq, Bool.or_eq_true, Bool.not_eq_true'] at h1
    rcases List.mem_cons.1 hc with rfl | hc
    · exact ⟨h1.1.1, h1.1.2, h1.2⟩
    · have := ih h2 c hc
      exact ⟨by omega, this.2⟩
theorem keysB_sort {p : Bool} {l : List Mp} : ∀ {last : Int}, keysB p last (keysOf l) = true → sortM l := by
  induction l with
  | nil => intro last _ i j a b _ h; simp at h
  | cons m r ih =>
    intro last h i j a b hij ha hb
    unfold keysOf at h
    rw [List.map_cons, keysB, Bool.and_eq_true] at h
    obtain ⟨h1, h2⟩ := h
    cases j with
    | zero => omega
    | succ j =>
      have hb' : r[j]? = some b := by simpa using hb
      cases i with
      | zero =>
        simp at ha; subst ha
        exact (keysB_at h2 b.1 (List.mem_map_of_mem (List.mem_of_getElem? hb'))).1
      | succ i => exact ih h2 i j a b (by omega) (by simpa using ha) hb'

/-- What the first rules say. -/
structure Shape (T : Tab) : Prop where
  len : ∀ c ∈ T.cols, c.1.length ≤ 256
  lenM : ∀ m ∈ T.mps, m.length ≤ 256
  lenX : T.excluded.length ≤ 256
  col : ∀ c ∈ T.cols, colOk c.1 = true
  kx : keysB false (-1) (keysOf T.extensions) = true
  km : keysB false (-1) (keysOf T.maps) = true
  kd : keysB false (-1) (keysOf T.decomps) = true
  kp : keysB true (-1) (keysOf T.prototypes) = true
  ke : keysB false (-1) T.excluded = true
theorem Shape.of {T : Tab} (h1 : T.rule1 = true) (h2 : T.rule2 = true) : Shape T := by
  unfold Tab.rule1 at h1
  unfold Tab.rule2 Tab.rule2m at h2
  simp only [Bool.and_eq_true, decide_eq_true_eq, List.all_eq_true] at h1 h2
  exact ⟨h1.2.1, h1.2.2, h1.1, h2.1, h2.2.1.1, h2.2.1.2.1, h2.2.1.2.2.1, h2.2.1.2.2.2, h2.2.2⟩
def GoodS (l : List Sp) : Prop := okS 0 1114111 (-1) l = true ∧ l.length ≤ 256 ∧ ∀ s ∈ l, outB s.1 s.2.1 = true
section
variable {T : Tab}
theorem Shape.ok (h : Shape T) {l : List Sp} {a b : Int} (hm : (l, a, b) ∈ T.cols) : GoodS l := by
  have h1 := h.col _ hm
  unfold colOk checkS at h1
  simp only [Bool.and_eq_true, decide_eq_true_eq, List.all_eq_true] at h1
  exact ⟨h1.1.1, h1.1.2, h1.2⟩
theorem Shape.c0 (h : Shape T) : GoodS T.category := h.ok (l := T.category) (a := 0) (b := 8) (by simp [Tab.cols])
theorem Shape.c1 (h : Shape T) : GoodS T.cls := h.ok (l := T.cls) (a := 1) (b := 254) (by simp [Tab.cols])
theorem Shape.c2 (h : Shape T) : GoodS T.joining := h.ok (l := T.joining) (a := 0) (b := 5) (by simp [Tab.cols])
theorem Shape.c3 (h : Shape T) : GoodS T.bidi := h.ok (l := T.bidi) (a := 0) (b := 11) (by simp [Tab.cols])
theorem Shape.c4 (h : Shape T) : GoodS T.script := h.ok (l := T.script) (a := 0) (b := 60) (by simp [Tab.cols])
theorem Shape.c5 (h : Shape T) : GoodS T.status := h.ok (l := T.status) (a := 0) (b := 4) (by simp [Tab.cols])
theorem Shape.c6 (h : Shape T) : GoodS T.ignorable := h.ok (l := T.ignorable) (a := 1) (b := 1) (by simp [Tab.cols])
theorem Shape.lx (h : Shape T) : T.extensions.length ≤ 256 := h.lenM _ (by simp [Tab.mps])
theorem Shape.lm (h : Shape T) : T.maps.length ≤ 256 := h.lenM _ (by simp [Tab.mps])
theorem Shape.ld (h : Shape T) : T.decomps.length ≤ 256 := h.lenM _ (by simp [Tab.mps])
theorem Shape.lp (h : Shape T) : T.prototypes.length ≤ 256 := h.lenM _ (by simp [Tab.mps])
end
theorem toB_iff {x : Bool} {m : Mp} : toB x m = true ↔ 1 ≤ m.2.length ∧ m.2.length ≤ 18 ∧ (if x then scrG 2 m.2 else m.2.all scalarB) = true := by
  unfold toB
  simp only [Bool.and_eq_true, decide_eq_true_eq, and_assoc]
theorem toB_ne {x : Bool} {l : List Mp} (h : l.all (toB x) = true) : ∀ m ∈ l, m.2 ≠ [] ∧ m.2.length ≤ 1000 := by
  intro m hm
  have := toB_iff.1 (List.all_eq_true.1 h m hm)
  exact ⟨fun e => by rw [e] at this; simp at this, by omega⟩
/-- What the fourth rule says. -/
structure Sized (T : Tab) : Prop where
  nx : ∀ m ∈ T.extensions, m.2 ≠ [] ∧ m.2.length ≤ 1000
  nm : ∀ m ∈ T.maps, m.2 ≠ [] ∧ m.2.length ≤ 1000
  nd : ∀ m ∈ T.decomps, m.2 ≠ [] ∧ m.2.length ≤ 1000
  np : ∀ m ∈ T.prototypes, m.2 ≠ [] ∧ m.2.length ≤ 1000
theorem Sized.of {T : Tab} (h : T.rule4 = true) : Sized T := by
  unfold Tab.rule4 at h
  simp only [Bool.and_eq_true] at h
  exact ⟨toB_ne h.1, toB_ne h.2.1, toB_ne h.2.2.1, toB_ne h.2.2.2⟩

/-- A value outside all spans. -/
theorem value_out {l : List Sp} {c : Int} (h : ∀ s ∈ l, ¬(s.1 ≤ c ∧ c ≤ s.2.1)) : valueL l c = 0 :=
  valueL_no fun _ _ hi => h _ (List.mem_of_getElem? hi)
theorem value_res {l : List Sp} {c : Int} (h : ∀ s ∈ l, outB s.1 s.2.1 = true) (hr : resB c = true) : valueL l c = 0 :=
  value_out fun s hs ⟨h1, h2⟩ => by rw [outB_res (h s hs) h1 h2] at hr; cases hr
theorem value_range {l : List Sp} {c : Int} (h : okS 0 1114111 (-1) l = true) (hc : c < 0 ∨ 1114111 < c) : valueL l c = 0 :=
  valueL_no fun _ _ hi => by have := okS_el h hi; omega
theorem lenC_zero {c : Int} : lenC c = 0 ↔ scalarB c = false := by
  unfold lenC
  cases h : scalarB c
  · simp
  · simp only [if_true]
    constructor
    · intro h
      split at h
      · cases h
      · split at h
        · cases h
        · split at h <;> cases h
    · intro h; cases h
/-- A property that is read as the reference reads it. -/
theorem propL_ref {l : List Sp} {own c : Int} (h1 : okS 0 1114111 (-1) l = true) (h2 : ∀ s ∈ l, outB s.1 s.2.1 = true) :
    propL l own c = if resB c = true ∧ surB c = false then own else valueL l c := by
  unfold propL
  by_cases hs : scalarB c = true
  · have h0 : lenC c ≠ 0 := fun e => by rw [lenC_zero, hs] at e; cases e
    have hu : surB c = false := by
      rw [scalarB_iff] at hs
      unfold surB
      rw [decide_eq_false_iff_not]; omega
    rw [if_neg h0]
    by_cases hr : resB c = true
    · rw [if_pos hr, if_pos ⟨hr, hu⟩]
    · rw [if_neg hr, if_neg (fun h => hr h.1)]
  · have hs' : scalarB c = false := by simpa using hs
    rw [if_pos (lenC_zero.2 hs')]
    rw [scalarB_not] at hs'
    rw [if_neg]
    · rcases hs' with h | h | h
      · exact (value_range h1 (.inl h)).symm
      · exact (value_range h1 (.inr h)).symm
      · exact (value_res h2 ((resB_iff c).2 (by omega))).symm
    · rintro ⟨h3, h4⟩
      rw [resB_iff] at h3
      unfold surB at h4
      rw [decide_eq_false_iff_not] at h4
      omega
end ND
