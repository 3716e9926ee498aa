/-
  Merged texts: lemmas and walks that the last text of this claim leans on.
-/
import Derived.Test.YtecpbicfiaifdaaGreatDoorMgB720
import Derived.Test.YtecpbicfiaifdaaGreatDoorMgB77
import Derived.Deep.LoopGhost
import Derived.Test.YtecpbicfiaifdaaGreatDoorMgB75
import Derived.Test.YtecpbicfiaifdaaGreatDoorMgB74
import Derived.Test.YtecpbicfiaifdaaGreatDoorMgB73
import Derived.Test.YtecpbicfiaifdaaGreatDoorMgB71
import Derived.Test.YtecpbicfiaifdaaGreatDoorMgB710
import Derived.Test.YtecpbicfiaifdaaGreatDoorMgB711
import Derived.Test.YtecpbicfiaifdaaGreatDoorMgB76
import Derived.Deep.Cut
import Derived.Deep.CutRange
import Derived.BigQuiet
/-
  The walks through order.check and the reference's acceptable: which error a sequence has.
-/
namespace Go.Proofs.YtecpbicfiaifdaaGreatDoor
open Go.RowKit ND

/-- The error of a sequence. -/
def accE (T : Tab) (l : List Int) : Int := if T.check ≠ 0 then 2 else if 4096 < l.length then 7 else if l.all scalarB = true then 0 else 3
theorem accE_check {T : Tab} {l : List Int} (h : T.check ≠ 0) : accE T l = 2 := by unfold accE; rw [if_pos h]
theorem accE_full {T : Tab} {l : List Int} (h : T.check = 0) (h2 : 4096 < l.length) : accE T l = 7 := by unfold accE; rw [if_neg (by omega), if_pos h2]
theorem accE_ok {T : Tab} {l : List Int} (h : T.check = 0) (h2 : l.length ≤ 4096) (h3 : l.all scalarB = true) : accE T l = 0 := by unfold accE; rw [if_neg (by omega), if_neg (by omega), if_pos h3]
theorem accE_bad {T : Tab} {l : List Int} (h : T.check = 0) (h2 : l.length ≤ 4096) (h3 : l.all scalarB = false) : accE T l = 3 := by unfold accE; rw [if_neg (by omega), if_neg (by omega), if_neg (by rw [h3]; simp)]
theorem accE_zero {T : Tab} {l : List Int} (h : accE T l = 0) : T.check = 0 ∧ l.length ≤ 4096 ∧ l.all scalarB = true := by
  unfold accE at h
  split at h
  · cases h
  · split at h
    · cases h
    · split at h
      · rename_i h1 h2 h3; exact ⟨by omega, by omega, h3⟩
      · cases h

theorem bad_any (c : Int) (w : World) : Calls Tryz.prog 115 #[.int .i64 c] w fun e w' => e = .returned (.bool (!scalarB c)) ∧ w = w' := by
  cases h : scalarB c
  · have hc := Lib.hid (fun w => length_any c w)
    rw [lenC_zero.2 h] at hc
    go_enter Tryz.func115, Tryz.ntmps115
    go_wp2_with (go_at_call 102; refine (hc.out _).mono ?_; rintro e w4 ⟨rfl, rfl⟩)
    go_ret
    exact ⟨rfl, rfl⟩
  · have hc := Lib.hid (fun w => length_any c w)
    have hp : lenC c ≠ 0 := fun e => by rw [lenC_zero.1 e] at h; cases h
    have hb : ((lenC c : Int) == 0) = false := by rw [beq_eq_false_iff_ne]; omega
    clear hp
    go_enter Tryz.func115, Tryz.ntmps115
    go_wp2_with (go_at_call 102; refine (hc.out _).mono ?_; rintro e w4 ⟨rfl, rfl⟩)
    go_ret
    exact ⟨rfl, rfl⟩

/-- The first code point that is no scalar value. -/
def RetIdx (w : World) (xs : List Int) (e : Ending) (w' : World) : Prop := ∃ r : Int, e = .returned (.int .i64 r) ∧ (0 ≤ r ∧ xs.all scalarB = false ∨ r < 0 ∧ xs.all scalarB = true) ∧ Below w.heap.size w w'
theorem all_step {xs : List Int} {k : Nat} {x : Int} (h : (xs.take k).all scalarB = true) (hx : xs[k]? = some x) (hs : scalarB x = true) : (xs.take (k + 1)).all scalarB = true := by
  obtain ⟨a, a'⟩ := List.getElem?_eq_some_iff.1 hx
  rw [List.take_succ_eq_append_getElem a, List.all_append, h, a']
  simp [hs]
theorem all_bad {xs : List Int} {k : Nat} {x : Int} (hx : xs[k]? = some x) (hs : scalarB x = false) : xs.all scalarB = false := by
  cases h : xs.all scalarB with
  | false => rfl
  | true => rw [List.all_eq_true] at h; rw [h x (List.mem_of_getElem? hx)] at hs; cases hs

set_option maxRecDepth 100000 in
set_option maxHeartbeats 1000000 in
theorem index_any (v : Value) (xs : List Int) (w : World) (hv : Ints w w.heap.size .i64 v xs) :
    Calls Tryz.prog 131 #[v, .func (.func 115) #[] #[]] w (RetIdx w xs) := by
  obtain ⟨A, c, rfl, hc1, hc2, _, hcell⟩ := hv
  have HC := Lib.hid hcell; clear hcell
  have hl : xs.length ≤ 9223372036854775807 := by unfold maxLen at hc2; omega
  clear hc2 hc1
  go_enter Tryz.func131, Tryz.ntmps131
  go_wp2_with fail
  go_loopw [8] (fun i wr => ∃ k : Nat, k ≤ xs.length ∧ i = .int .i64 k ∧ Hid ((xs.take k).all scalarB = true) ∧ Below w.heap.size w wr) (fun i _ => xs.length - (intOf i).toNat)
  case atStart => exact ⟨0, by omega, rfl, Lib.hid (by simp), Below.refl _ _⟩
  case round =>
    obtain ⟨k, hk, rfl, HS, hbel⟩ := hrel
    by_cases hlt : k < xs.length
    · obtain ⟨x, hxk, _⟩ := get_of hlt
      obtain ⟨ad, rfl, ha, hce⟩ := HC.out k x hxk
      have e1 := (hbel.cell (p := ad.add k) (by rw [block_of_add]; exact ha)).trans hce
      have HX := Lib.hid hxk
      have k0 : (0 : Int) ≤ (k : Int) := by omega
      have k1 : (k : Int) < (xs.length : Int) := by omega
      have hb := Lib.hid (fun w => bad_any x w)
      clear hce hxk ha
      cases hs : scalarB x
      · have HE := Lib.hid (all_bad HX.out hs)
        rw [hs] at hb
        clear hs
        go_wp2_with (go_at_call 115; refine (hb.out _).mono ?_; rintro e w4 ⟨rfl, rfl⟩)
        go_ret
        exact ⟨k, rfl, .inl ⟨k0, HE.out⟩, hbel⟩
      · have HE := Lib.hid (all_step HS.out HX.out hs)
        rw [hs] at hb
        clear hs
        go_wp2_with (go_at_call 115; refine (hb.out _).mono ?_; rintro e w4 ⟨rfl, rfl⟩)
        go_roundw
        case rel => exact ⟨k + 1, by omega, by go_num, HE, hbel⟩
        case measure => simp [intOf]; omega
    · have HE := Lib.hid (show xs.all scalarB = true by have := HS.out; rwa [List.take_of_length_le (by omega)] at this)
      go_wp2_with fail
      go_ret
      exact ⟨-1, rfl, .inr ⟨by omega, HE.out⟩, hbel⟩

set_option maxRecDepth 100000 in
theorem contains_any (v : Value) (xs : List Int) (w : World) (hv : Ints w w.heap.size .i64 v xs) :
    Calls Tryz.prog 114 #[v, .func (.func 115) #[] #[]] w fun e w' => e = .returned (.bool (!xs.all scalarB)) ∧ Below w.heap.size w w' := by
  obtain ⟨A, c, rfl, _⟩ := id hv
  have HI := Lib.hid (index_any _ xs w hv)
  clear hv
  obtain ⟨R, hR⟩ : ∃ R, R = xs.all scalarB := ⟨_, rfl⟩
  rw [← hR]
  have HR := Lib.hid hR
  clear hR
  go_enter Tryz.func114, Tryz.ntmps114
  go_wp2_with (go_at_call 131; refine HI.out.mono ?_; rintro e w1 ⟨r, rfl, hr, b1⟩)
  go_ret
  refine ⟨?_, b1⟩
  rcases hr with ⟨h1, h2⟩ | ⟨h1, h2⟩
  · rw [HR.out, h2, decide_eq_true h1]; rfl
  · rw [HR.out, h2, decide_eq_false (by omega)]; rfl

set_option maxRecDepth 100000 in
set_option maxHeartbeats 1000000 in
theorem ocheck_any (t : Tv) (T : Tab) (v : Value) (xs : List Int) (w : World) (ht : TabR w w.heap.size t T) (hg : Glob w) (hv : Ints w w.heap.size .i64 v xs) :
    Calls Tryz.prog 96 #[t.val, v] w fun e w' => e = .returned (.int .i64 (accE T xs)) ∧ Below w.heap.size w w' := by
  obtain ⟨A, c, rfl, _⟩ := id hv
  have HB0 : Hid (Below w.heap.size w (w.alloc (.cells t.cells 26))) := Lib.hid ((Below.refl _ _).alloc (Nat.le_refl _) _)
  have HT := Lib.hid (check_table t T _ (ht.later HB0.out) (hg.later HB0.out))
  have HV := Lib.hid (fun W (h : Below (w.alloc (.cells t.cells 26)).heap.size (w.alloc (.cells t.cells 26)) W) => contains_any _ xs W ((hv.later HB0.out).later h))
  clear hv ht hg
  obtain ⟨R, hR⟩ : ∃ R, R = accE T xs := ⟨_, rfl⟩
  rw [← hR]
  have HR := Lib.hid hR
  clear hR
  by_cases h1 : T.check = 0
  · have hc1 : (T.check != 0) = false := by rw [h1]; rfl
    by_cases h2 : xs.length ≤ 4096
    · cases h3 : xs.all scalarB
      · have HE := Lib.hid (accE_bad h1 h2 h3)
        rw [h3] at HV
        have h4 : ¬ (4096 : Int) < (xs.length : Int) := by omega
        clear h1 h3 h2
        go_enter Tryz.func96, Tryz.ntmps96
        go_wp2_with (first | (go_at_call 113; refine HT.out.mono ?_; rintro e w1 ⟨rfl, b1⟩) | (go_at_call 114; refine (HV.out _ b1).mono ?_; rintro e w2 ⟨rfl, b2⟩))
        go_ret
        rw [HR.out, HE.out]
        exact ⟨rfl, below_next (below_next HB0.out b1) b2⟩
      · have HE := Lib.hid (accE_ok h1 h2 h3)
        rw [h3] at HV
        have h4 : ¬ (4096 : Int) < (xs.length : Int) := by omega
        clear h1 h3 h2
        go_enter Tryz.func96, Tryz.ntmps96
        go_wp2_with (first | (go_at_call 113; refine HT.out.mono ?_; rintro e w1 ⟨rfl, b1⟩) | (go_at_call 114; refine (HV.out _ b1).mono ?_; rintro e w2 ⟨rfl, b2⟩))
        go_ret
        rw [HR.out, HE.out]
        exact ⟨rfl, below_next (below_next HB0.out b1) b2⟩
    · have HE := Lib.hid (accE_full (l := xs) h1 (by omega))
      have h4 : (4096 : Int) < (xs.length : Int) := by omega
      clear h1 h2
      go_enter Tryz.func96, Tryz.ntmps96
      go_wp2_with (first | (go_at_call 113; refine HT.out.mono ?_; rintro e w1 ⟨rfl, b1⟩))
      go_ret
      rw [HR.out, HE.out]
      exact ⟨rfl, below_next HB0.out b1⟩
  · have HE := Lib.hid (accE_check (l := xs) h1)
    have hc1 : (T.check != 0) = true := by simpa using h1
    clear h1
    go_enter Tryz.func96, Tryz.ntmps96
    go_wp2_with (first | (go_at_call 113; refine HT.out.mono ?_; rintro e w1 ⟨rfl, b1⟩))
    go_ret
    rw [HR.out, HE.out]
    exact ⟨rfl, below_next HB0.out b1⟩
end Go.Proofs.YtecpbicfiaifdaaGreatDoor
/-
  Canonical order of combining marks, in plain Lean: exchanging neighbours that are out of order changes no canonical order, and what is in order is its own.
-/
namespace ND

/-- x, put ahead of a sequence in order. -/
def putO (f : Int → Int) (x : Int) : List Int → List Int
  | [] => [x]
  | y :: r => if 0 < f y ∧ f y < f x then y :: putO f x r else x :: y :: r
/-- The canonical order. -/
def can (f : Int → Int) : List Int → List Int
  | [] => []
  | x :: r => putO f x (can f r)
/-- Two neighbours are in order. -/
def okP (f : Int → Int) (x y : Int) : Prop := ¬ (0 < f y ∧ f y < f x)
/-- In order up to n. -/
def SortN (f : Int → Int) (n : Nat) (l : List Int) : Prop := ∀ i x y, i + 1 < n → l[i]? = some x → l[i + 1]? = some y → okP f x y

theorem putO_swap {f : Int → Int} {x y : Int} (h0 : 0 < f y) (h1 : f y < f x) : ∀ R, putO f x (putO f y R) = putO f y (putO f x R) := by
  intro R
  induction R with
  | nil => simp only [putO]; rw [if_pos ⟨h0, h1⟩, if_neg (by omega)]
  | cons z R ih =>
    by_cases hz : 0 < f z ∧ f z < f y
    · have hx : 0 < f z ∧ f z < f x := ⟨hz.1, by omega⟩
      simp only [putO, if_pos hz, if_pos hx, ih]
    · simp only [putO, if_neg hz, if_pos (And.intro h0 h1)]
      by_cases hx : 0 < f z ∧ f z < f x
      · simp only [putO, if_pos hx, if_neg hz]
      · simp only [if_neg hx, putO]
        rw [if_neg (by omega)]
theorem can_swap {f : Int → Int} {x y : Int} (h0 : 0 < f y) (h1 : f y < f x) (a b : List Int) : can f (a ++ x :: y :: b) = can f (a ++ y :: x :: b) := by
  induction a with
  | nil => exact putO_swap h0 h1 _
  | cons z a ih => simp only [List.cons_append, can, ih]
theorem can_sorted {f : Int → Int} : ∀ l : List Int, SortN f l.length l → can f l = l := by
  intro l
  induction l with
  | nil => intro _; rfl
  | cons x r ih =>
    intro h
    have hr : SortN f r.length r := fun i a b hi ha hb => h (i + 1) a b (by simp; omega) (by simpa using ha) (by simpa using hb)
    rw [can, ih hr]
    cases r with
    | nil => rfl
    | cons y r =>
      have := h 0 x y (by simp) rfl rfl
      rw [putO, if_neg this]
theorem putO_length (f : Int → Int) (x : Int) : ∀ l, (putO f x l).length = l.length + 1 := by
  intro l
  induction l with
  | nil => rfl
  | cons y r ih => rw [putO]; split <;> simp [ih]
theorem can_length (f : Int → Int) : ∀ l, (can f l).length = l.length := by
  intro l
  induction l with
  | nil => rfl
  | cons x r ih => rw [can, putO_length, ih]; rfl
theorem putO_mem {f : Int → Int} {x z : Int} : ∀ {l}, z ∈ putO f x l ↔ z = x ∨ z ∈ l := by
  intro l
  induction l with
  | nil => simp [putO]
  | cons y r ih =>
    rw [putO]
    split
    · simp only [List.mem_cons, ih]
      constructor
      · rintro (h | h | h) <;> simp [h]
      · rintro (h | h | h) <;> simp [h]
    · simp
theorem can_mem {f : Int → Int} {z : Int} : ∀ {l}, z ∈ can f l ↔ z ∈ l := by
  intro l
  induction l with
  | nil => simp [can]
  | cons x r ih => rw [can, putO_mem, ih]; simp
theorem sortN_cons {f : Int → Int} {x y : Int} {r : List Int} (h : okP f x y) (hr : SortN f (r.length + 1) (y :: r)) : SortN f (r.length + 2) (x :: y :: r) := fun i a b hi ha hb => by
  cases i with
  | zero => simp at ha hb; subst ha; subst hb; exact h
  | succ i => exact hr i a b (by omega) (by simpa using ha) (by simpa using hb)
theorem putO_sorted {f : Int → Int} {x : Int} : ∀ l, SortN f l.length l → SortN f (putO f x l).length (putO f x l) := by
  intro l
  induction l with
  | nil => intro _ i a b hi; simp [putO] at hi
  | cons y r ih =>
    intro h
    have hr : SortN f r.length r := fun i a b hi ha hb => h (i + 1) a b (by simp; omega) (by simpa using ha) (by simpa using hb)
    by_cases hc : 0 < f y ∧ f y < f x
    · rw [putO, if_pos hc]
      have h2 := ih hr
      cases r with
      | nil => simp only [putO] at h2 ⊢; exact sortN_cons (fun e => by omega) (fun i a b hi => by simp at hi)
      | cons z r =>
        by_cases hz : 0 < f z ∧ f z < f x
        · simp only [putO, if_pos hz] at h2 ⊢
          exact sortN_cons (h 0 y z (by simp) rfl rfl) h2
        · simp only [putO, if_neg hz] at h2 ⊢
          exact sortN_cons (fun e => by omega) h2
    · rw [putO, if_neg hc]
      exact sortN_cons hc h
theorem can_is_sorted (f : Int → Int) : ∀ l, SortN f (can f l).length (can f l) := by
  intro l
  induction l with
  | nil => intro i a b hi; simp [can] at hi
  | cons x r ih => exact putO_sorted _ ih
theorem can_can (f : Int → Int) (l : List Int) : can f (can f l) = can f l := can_sorted _ (can_is_sorted f l)

/-- Neighbours exchanged. -/
def swapL (l : List Int) (p : Nat) (x y : Int) : List Int := (l.set (p + 1) x).set p y
theorem cut_two {l : List Int} {p : Nat} {x y : Int} (hx : l[p]? = some x) (hy : l[p + 1]? = some y) : ∃ a b, a.length = p ∧ l = a ++ x :: y :: b ∧ swapL l p x y = a ++ y :: x :: b := by
  obtain ⟨h1, e1⟩ := List.getElem?_eq_some_iff.1 hx
  obtain ⟨h2, e2⟩ := List.getElem?_eq_some_iff.1 hy
  have e : l = l.take p ++ x :: y :: l.drop (p + 2) := by
    conv => lhs; rw [← List.take_append_drop p l, List.drop_eq_getElem_cons h1, List.drop_eq_getElem_cons h2, e1, e2]
  refine ⟨l.take p, l.drop (p + 2), by simp; omega, e, ?_⟩
  have hl : (l.take p).length = p := by simp; omega
  rw [swapL]
  generalize l.take p = a at e hl
  generalize l.drop (p + 2) = b at e
  subst e; subst hl
  simp
theorem can_swapL {f : Int → Int} {l : List Int} {p : Nat} {x y : Int} (hx : l[p]? = some x) (hy : l[p + 1]? = some y) (h0 : 0 < f y) (h1 : f y < f x) : can f (swapL l p x y) = can f l := by
  obtain ⟨a, b, _, e, s⟩ := cut_two hx hy
  rw [s, e, can_swap h0 h1]
theorem swapL_length (l : List Int) (p : Nat) (x y : Int) : (swapL l p x y).length = l.length := by simp [swapL]
theorem swapL_at {l : List Int} {p : Nat} {x y : Int} (hx : l[p]? = some x) (hy : l[p + 1]? = some y) (i : Nat) : (swapL l p x y)[i]? = if i = p then some y else if i = p + 1 then some x else l[i]? := by
  have h1 := (List.getElem?_eq_some_iff.1 hx).1
  have h2 := (List.getElem?_eq_some_iff.1 hy).1
  rw [swapL, List.getElem?_set, List.getElem?_set]
  by_cases e : p = i
  · subst e; simp [h1]
  · rw [if_neg e, if_neg (Ne.symm e)]
    by_cases e2 : p + 1 = i
    · subst e2; simp [h2]
    · rw [if_neg e2, if_neg (Ne.symm e2)]

/-- What the exchanging goes up by. -/
def wsum (f : Int → Int) : Nat → List Int → Int
  | _, [] => 0
  | k, x :: r => (k : Int) * f x + wsum f (k + 1) r
theorem wsum_app (f : Int → Int) : ∀ (a b : List Int) (k : Nat), wsum f k (a ++ b) = wsum f k a + wsum f (k + a.length) b := by
  intro a
  induction a with
  | nil => intro b k; simp [wsum]
  | cons x a ih => intro b k; simp only [List.cons_append, wsum, ih, List.length_cons]; rw [show k + 1 + a.length = k + (a.length + 1) by omega]; omega
theorem wsum_swap {f : Int → Int} {x y : Int} (h1 : f y < f x) (a b : List Int) (k : Nat) : wsum f k (a ++ x :: y :: b) < wsum f k (a ++ y :: x :: b) := by
  rw [wsum_app, wsum_app]
  simp only [wsum]
  have e1 : ((k + a.length + 1 : Nat) : Int) * f y = ((k + a.length : Nat) : Int) * f y + f y := by push_cast; rw [Int.add_mul]; omega
  have e2 : ((k + a.length + 1 : Nat) : Int) * f x = ((k + a.length : Nat) : Int) * f x + f x := by push_cast; rw [Int.add_mul]; omega
  rw [e1, e2]
  omega
theorem wsum_swapL {f : Int → Int} {l : List Int} {p : Nat} {x y : Int} (hx : l[p]? = some x) (hy : l[p + 1]? = some y) (h1 : f y < f x) : wsum f 0 l < wsum f 0 (swapL l p x y) := by
  obtain ⟨a, b, _, e, s⟩ := cut_two hx hy
  rw [s, e]
  exact wsum_swap h1 a b 0
theorem wsum_le {f : Int → Int} (hf : ∀ x, 0 ≤ f x ∧ f x ≤ 255) : ∀ (l : List Int) (k n : Nat), k + l.length ≤ n → 0 ≤ wsum f k l ∧ wsum f k l ≤ (l.length : Int) * ((n : Int) * 255) := by
  intro l
  induction l with
  | nil => intro k n _; simp [wsum]
  | cons x l ih =>
    intro k n h
    rw [List.length_cons] at h
    obtain ⟨i0, i1⟩ := ih (k + 1) n (by omega)
    have h1 : (k : Int) * f x ≤ (n : Int) * 255 := Int.mul_le_mul (by omega) (hf x).2 (hf x).1 (by omega)
    have h2 : (0 : Int) ≤ (k : Int) * f x := Int.mul_nonneg (by omega) (hf x).1
    rw [wsum, List.length_cons]
    push_cast
    rw [Int.add_mul]
    omega
/-- What is left to be exchanged. -/
def leftO (f : Int → Int) (l : List Int) : Nat := ((l.length : Int) * ((l.length : Int) * 255) - wsum f 0 l).toNat
theorem leftO_swap {f : Int → Int} (hf : ∀ x, 0 ≤ f x ∧ f x ≤ 255) {l : List Int} {p : Nat} {x y : Int} (hx : l[p]? = some x) (hy : l[p + 1]? = some y) (h1 : f y < f x) : leftO f (swapL l p x y) < leftO f l := by
  have h := wsum_swapL hx hy h1
  have h2 := (wsum_le hf (swapL l p x y) 0 l.length (by rw [swapL_length]; omega)).2
  unfold leftO
  rw [swapL_length] at h2 ⊢
  omega
/-- Inserting: the first i are in order, but for the one that moves (at g). -/
structure Ins (f : Int → Int) (l o : List Int) (i g : Nat) (m : Int) : Prop where
  len : o.length = l.length
  can : can f o = can f l
  le : g ≤ i
  lt : i < l.length
  m : o[g]? = some m
  ok : ∀ p a b, p + 1 ≤ i → p + 1 ≠ g → o[p]? = some a → o[p + 1]? = some b → okP f a b
  skip : ∀ p a b, p + 1 = g → g + 1 ≤ i → o[p]? = some a → o[g + 1]? = some b → okP f a b
theorem Ins.start {f : Int → Int} {l o : List Int} {i : Nat} {m : Int} (hl : o.length = l.length) (hc : ND.can f o = ND.can f l) (hs : SortN f i o) (hi : i < l.length) (hm : o[i]? = some m) : Ins f l o i i m :=
  ⟨hl, hc, Nat.le_refl _, hi, hm, fun p a b h1 h2 ha hb => hs p a b (by omega) ha hb, fun p a b _ h => absurd h (by omega)⟩
theorem Ins.step {f : Int → Int} {l o : List Int} {i p : Nat} {m x : Int} (h : Ins f l o i (p + 1) m) (hx : o[p]? = some x) (h0 : 0 < f m) (h1 : f m < f x) : Ins f l (swapL o p x m) i p m where
  len := by rw [swapL_length, h.len]
  can := by rw [can_swapL hx h.m h0 h1, h.can]
  le := by have := h.le; omega
  lt := h.lt
  m := by rw [swapL_at hx h.m, if_pos rfl]
  ok q a b hq hne ha hb := by
    rw [swapL_at hx h.m] at ha hb
    by_cases e : q = p
    · subst e
      rw [if_pos rfl] at ha
      rw [if_neg (by omega), if_pos rfl] at hb
      cases ha; cases hb
      intro e; omega
    · rw [if_neg e] at ha
      by_cases e2 : q = p + 1
      · subst e2
        rw [if_pos rfl] at ha
        rw [if_neg (by omega), if_neg (by omega)] at hb
        cases ha
        exact h.skip p _ b rfl hq hx hb
      · rw [if_neg e2] at ha
        rw [if_neg (by omega), if_neg (by omega)] at hb
        exact h.ok q a b hq (by omega) ha hb
  skip q a b hq hi ha hb := by
    rw [swapL_at hx h.m] at ha hb
    rw [if_neg (by omega), if_neg (by omega)] at ha
    rw [if_neg (by omega), if_pos rfl] at hb
    cases hb
    subst hq
    exact h.ok q a _ (by omega) (by omega) ha hx
theorem Ins.stop {f : Int → Int} {l o : List Int} {i g : Nat} {m : Int} (h : Ins f l o i g m) (hs : ∀ p x, p + 1 = g → o[p]? = some x → ¬ (f m < f x)) : SortN f (i + 1) o := fun p a b hp ha hb => by
  by_cases e : p + 1 = g
  · have h2 := h.m
    rw [← e, hb] at h2
    cases h2
    exact fun h3 => hs p a e ha h3.2
  · exact h.ok p a b (by omega) e ha hb

theorem SortN.more {f : Int → Int} {l : List Int} {n : Nat} {x y : Int} (h : SortN f (n + 1) l) (hx : l[n]? = some x) (hy : l[n + 1]? = some y) (ho : okP f x y) : SortN f (n + 2) l := fun p a b hp ha hb => by
  by_cases e : p = n
  · subst e; rw [hx] at ha; rw [hy] at hb; cases ha; cases hb; exact ho
  · exact h p a b (by omega) ha hb
theorem SortN.zero {f : Int → Int} {l : List Int} {n : Nat} {y : Int} (h : SortN f n l) (hy : l[n]? = some y) (h0 : f y ≤ 0) : SortN f (n + 1) l := fun p a b hp ha hb => by
  by_cases e : p + 1 = n
  · subst e; rw [hy] at hb; cases hb; exact fun h3 => by omega
  · exact h p a b (by omega) ha hb
theorem sortN_one (f : Int → Int) (l : List Int) : SortN f 1 l := fun i x y h => by omega

/-- The reference's exchanging: one pass, begun at o0, has come to i. -/
structure Bub (f : Int → Int) (l o0 o : List Int) (i : Nat) (more : Bool) : Prop where
  len : o.length = l.length
  can : can f o = can f l
  yes : more = true → leftO f o < leftO f o0
  no : more = false → o = o0 ∧ SortN f i o
theorem Bub.start {f : Int → Int} {l o : List Int} (hl : o.length = l.length) (hc : ND.can f o = ND.can f l) : Bub f l o o 1 false :=
  ⟨hl, hc, fun h => (by cases h), fun _ => ⟨rfl, sortN_one _ _⟩⟩
theorem Bub.swap {f : Int → Int} {l o0 o : List Int} {p : Nat} {more : Bool} {x y : Int} (hf : ∀ x, 0 ≤ f x ∧ f x ≤ 255) (h : Bub f l o0 o (p + 1) more) (hx : o[p]? = some x) (hy : o[p + 1]? = some y) (h0 : 0 < f y) (h1 : f y < f x) : Bub f l o0 (swapL o p x y) (p + 2) true where
  len := by rw [swapL_length, h.len]
  can := by rw [can_swapL hx hy h0 h1, h.can]
  yes _ := by
    have h2 := leftO_swap hf hx hy h1
    cases more with
    | true => have := h.yes rfl; omega
    | false => rw [(h.no rfl).1] at h2 ⊢; exact h2
  no h := by cases h
theorem Bub.next {f : Int → Int} {l o0 o : List Int} {p : Nat} {more : Bool} {x y : Int} (h : Bub f l o0 o (p + 1) more) (hx : o[p]? = some x) (hy : o[p + 1]? = some y) (hn : okP f x y) : Bub f l o0 o (p + 2) more :=
  ⟨h.len, h.can, h.yes, fun e => ⟨(h.no e).1, (h.no e).2.more hx hy hn⟩⟩
theorem sorted_done {f : Int → Int} {l o : List Int} {n : Nat} (hl : o.length = l.length) (hc : can f o = can f l) (hn : l.length ≤ n) (hs : SortN f n o) : o = can f l := by
  rw [← hc]
  exact (can_sorted o fun p a b hp ha hb => hs p a b (by omega) ha hb).symm

/-- Where the runs begin and end. -/
def runsGo (f : Int → Int) : Nat → Bool → List Int → List Int
  | i, ins, [] => if ins then [(i : Int)] else []
  | i, ins, c :: r => if (f c != 0) == ins then runsGo f (i + 1) ins r else (i : Int) :: runsGo f (i + 1) (!ins) r
def runsL (f : Int → Int) (l : List Int) : List Int := runsGo f 0 false l
theorem runsGo_step {f : Int → Int} {l : List Int} {i : Nat} {c : Int} (ins : Bool) (h : l[i]? = some c) : runsGo f i ins (l.drop i) = if (f c != 0) == ins then runsGo f (i + 1) ins (l.drop (i + 1)) else (i : Int) :: runsGo f (i + 1) (!ins) (l.drop (i + 1)) := by
  obtain ⟨h1, e⟩ := List.getElem?_eq_some_iff.1 h
  rw [List.drop_eq_getElem_cons h1, e, runsGo]
theorem runsGo_end {f : Int → Int} {l : List Int} {i : Nat} (ins : Bool) (h : l.length ≤ i) : runsGo f i ins (l.drop i) = if ins then [(i : Int)] else [] := by
  rw [List.drop_of_length_le h, runsGo]
theorem runsGo_len (f : Int → Int) : ∀ (l : List Int) (i : Nat) (ins : Bool), (runsGo f i ins l).length ≤ l.length + 1 := by
  intro l
  induction l with
  | nil => intro i ins; rw [runsGo]; split <;> simp
  | cons c r ih =>
    intro i ins
    rw [runsGo]
    split
    · have := ih (i + 1) ins; simp; omega
    · have := ih (i + 1) (!ins); simp; omega
/-- From inside a run: where it ends, and what follows. -/
theorem runsGo_inside (f : Int → Int) : ∀ (r : List Int) (i : Nat), ∃ k, i ≤ k ∧ runsGo f i true r = (k : Int) :: (runsGo f i true r).tail := by
  intro r
  induction r with
  | nil => intro i; exact ⟨i, Nat.le_refl _, rfl⟩
  | cons c r ih =>
    intro i
    rw [runsGo]
    split
    · obtain ⟨k, h1, h2⟩ := ih (i + 1)
      exact ⟨k, by omega, h2⟩
    · exact ⟨i, Nat.le_refl _, rfl⟩

theorem putO_filter {f : Int → Int} {x v : Int} : ∀ R, (putO f x R).filter (fun c => f c == v) = (x :: R).filter (fun c => f c == v) := by
  intro R
  induction R with
  | nil => rfl
  | cons y r ih =>
    rw [putO]
    split
    · rename_i h
      rw [List.filter_cons, ih]
      simp only [List.filter_cons]
      by_cases hx : f x = v
      · rw [if_neg (by simp; omega)]; simp [hx]; intro e; omega
      · simp [hx]
    · rfl
theorem can_filter (f : Int → Int) (v : Int) : ∀ l, (can f l).filter (fun c => f c == v) = l.filter (fun c => f c == v) := by
  intro l
  induction l with
  | nil => rfl
  | cons x r ih => rw [can, putO_filter, List.filter_cons, ih, List.filter_cons]
theorem can_same {f : Int → Int} {x y v : Int} {a b : List Int} (hx : f x = v) (hy : f y = v) (h : can f (a ++ x :: y :: b) = can f (a ++ y :: x :: b)) : x = y := by
  have h1 := can_filter f v (a ++ x :: y :: b)
  rw [h, can_filter] at h1
  simp only [List.filter_append, List.filter_cons, hx, hy, beq_self_eq_true, if_true] at h1
  have := List.append_cancel_left h1
  injection this with e _
  exact e.symm
theorem putO_app {f : Int → Int} {x z : Int} (hz : f z ≤ 0) (S : List Int) : ∀ R, putO f x (R ++ z :: S) = putO f x R ++ z :: S := by
  intro R
  induction R with
  | nil => simp only [List.nil_append, putO]; rw [if_neg (by omega)]; rfl
  | cons y r ih =>
    simp only [List.cons_append, putO]
    split
    · rw [ih]; rfl
    · rfl
theorem can_app {f : Int → Int} {z : Int} (hf : ∀ x, 0 ≤ f x) (hz : f z = 0) (b : List Int) : ∀ a, can f (a ++ z :: b) = can f a ++ z :: can f b := by
  intro a
  induction a with
  | nil =>
    simp only [List.nil_append, can]
    cases can f b with
    | nil => rfl
    | cons y r => rw [putO, if_neg (by have := hf y; omega)]
  | cons x a ih => simp only [List.cons_append, can, ih, putO_app (by omega : f z ≤ 0)]
theorem putO_at {f : Int → Int} {x z : Int} (hz : f z = 0) : ∀ (R : List Int) (i : Nat), R[i]? = some z → (putO f x R)[i + 1]? = some z := by
  intro R
  induction R with
  | nil => intro i h; simp at h
  | cons y r ih =>
    intro i h
    rw [putO]
    split
    · rename_i hc
      cases i with
      | zero => simp at h; subst h; omega
      | succ i => rw [List.getElem?_cons_succ]; exact ih i (by simpa using h)
    · rw [List.getElem?_cons_succ]; exact h
theorem can_at {f : Int → Int} {z : Int} (hf : ∀ x, 0 ≤ f x) (hz : f z = 0) : ∀ (l : List Int) (i : Nat), l[i]? = some z → (can f l)[i]? = some z := by
  intro l
  induction l with
  | nil => intro i h; simp at h
  | cons x r ih =>
    intro i h
    rw [can]
    cases i with
    | zero =>
      simp at h; subst h
      cases can f r with
      | nil => rfl
      | cons y q => rw [putO, if_neg (by have := hf y; omega)]; rfl
    | succ i => exact putO_at hz _ _ (ih i (by simpa using h))
theorem putO_count {f : Int → Int} {x z : Int} : ∀ R, (putO f x R).count z = (x :: R).count z := by
  intro R
  induction R with
  | nil => rfl
  | cons y r ih =>
    rw [putO]
    split
    · rw [List.count_cons, ih]; simp only [List.count_cons]; omega
    · rfl
theorem can_count (f : Int → Int) (z : Int) : ∀ l, (can f l).count z = l.count z := by
  intro l
  induction l with
  | nil => rfl
  | cons x r ih => rw [can, putO_count, List.count_cons, ih, List.count_cons]
end ND
/-
  What tables without a violated rule give: the range of the classes.
-/
namespace Go.Proofs.YtecpbicfiaifdaaGreatDoor
open Go.RowKit ND

theorem rules_of {T : Tab} (h : T.check = 0) : T.rule1 = true ∧ T.rule2 = true ∧ T.rule3 = true ∧ T.rule4 = true ∧ T.rule5 = true ∧ T.rule6 = true ∧ T.rule7 = true ∧ T.rule8 = true ∧ T.rule9 = true := by
  unfold Tab.check at h
  cases h1 : T.rule1 <;> cases h2 : T.rule2 <;> cases h3 : T.rule3 <;> cases h4 : T.rule4 <;> cases h5 : T.rule5 <;> cases h6 : T.rule6 <;> cases h7 : T.rule7 <;> cases h8 : T.rule8 <;> cases h9 : T.rule9 <;> simp [h1, h2, h3, h4, h5, h6, h7, h8, h9] at h ⊢
theorem shape_of {T : Tab} (h : T.check = 0) : Shape T := Shape.of (rules_of h).1 (rules_of h).2.1
theorem sized_of {T : Tab} (h : T.check = 0) : Sized T := Sized.of (rules_of h).2.2.2.1
theorem valueL_mem (l : List Sp) (c : Int) : valueL l c = 0 ∨ ∃ s ∈ l, valueL l c = s.2.2 := by
  induction l with
  | nil => exact .inl rfl
  | cons s r ih =>
    by_cases h : s.1 ≤ c ∧ c ≤ s.2.1
    · exact .inr ⟨s, List.mem_cons_self, by rw [valueL, if_pos h]⟩
    · rcases ih with ih | ⟨q, hq, e⟩
      · exact .inl (by rw [valueL, if_neg h]; exact ih)
      · exact .inr ⟨q, List.mem_cons_of_mem _ hq, by rw [valueL, if_neg h]; exact e⟩
theorem vals_in {T : Tab} (h : T.check = 0) {l : List Sp} {a b : Int} (hm : (l, a, b) ∈ T.cols) : ∀ s ∈ l, a ≤ s.2.2 ∧ s.2.2 ≤ b := by
  have h3 := (rules_of h).2.2.1
  unfold Tab.rule3 at h3
  rw [List.all_eq_true] at h3
  have h4 := h3 _ hm
  unfold valsOk at h4
  rw [List.all_eq_true] at h4
  intro s hs
  simpa using h4 s hs
theorem cls_range {T : Tab} (h : T.check = 0) (c : Int) : 0 ≤ T.classOf c ∧ T.classOf c ≤ 255 := by
  rcases valueL_mem T.cls c with e | ⟨s, hs, e⟩
  · unfold Tab.classOf; rw [e]; omega
  · have := vals_in h (l := T.cls) (a := 1) (b := 254) (by simp [Tab.cols]) s hs
    unfold Tab.classOf; rw [e]; omega
end Go.Proofs.YtecpbicfiaifdaaGreatDoor
/-
  A variable that holds tables.
-/
namespace Go.Proofs.YtecpbicfiaifdaaGreatDoor
open Go.RowKit ND

/-- A variable that holds tables. -/
def Tbl (W : World) (b : Nat) (t : Tv) (T : Tab) : Prop := Blk W b 26 #[t.c0, t.c1, t.c2, t.c3, t.c4, t.c5, t.c6, t.c7, t.c8, t.c9, t.c10, t.c11] ∧ TabR W W.heap.size t T
theorem Tbl.later {W W' : World} {b : Nat} {t : Tv} {T : Tab} (h : Tbl W b t T) (hb : Below W.heap.size W W') : Tbl W' b t T := ⟨h.1.later hb, h.2.later hb⟩
/-- Tables are laid into a variable. -/
theorem Tbl.new {w1 : World} {T : Tab} {A0 A1 A2 A3 A4 A5 A6 A7 A8 A9 A10 A11 : Option Addr} {k0 k1 k2 k3 k4 k5 k6 k7 k8 k9 k10 k11 : Nat} (h : TabR w1 w1.heap.size ⟨.slice A0 T.category.length k0, .slice A1 T.cls.length k1, .slice A2 T.joining.length k2, .slice A3 T.bidi.length k3, .slice A4 T.script.length k4, .slice A5 T.status.length k5, .slice A6 T.ignorable.length k6, .slice A7 T.extensions.length k7, .slice A8 T.maps.length k8, .slice A9 T.decomps.length k9, .slice A10 T.excluded.length k10, .slice A11 T.prototypes.length k11⟩ T) :
    ∃ t : Tv, t = ⟨.slice A0 T.category.length k0, .slice A1 T.cls.length k1, .slice A2 T.joining.length k2, .slice A3 T.bidi.length k3, .slice A4 T.script.length k4, .slice A5 T.status.length k5, .slice A6 T.ignorable.length k6, .slice A7 T.extensions.length k7, .slice A8 T.maps.length k8, .slice A9 T.decomps.length k9, .slice A10 T.excluded.length k10, .slice A11 T.prototypes.length k11⟩ ∧ Tbl (w1.alloc (.cells #[.slice A0 T.category.length k0, .slice A1 T.cls.length k1, .slice A2 T.joining.length k2, .slice A3 T.bidi.length k3, .slice A4 T.script.length k4, .slice A5 T.status.length k5, .slice A6 T.ignorable.length k6, .slice A7 T.extensions.length k7, .slice A8 T.maps.length k8, .slice A9 T.decomps.length k9, .slice A10 T.excluded.length k10, .slice A11 T.prototypes.length k11] 26)) w1.heap.size t T :=
  ⟨_, rfl, Blk.new _ _ _, h.later ((Below.refl _ _).alloc (Nat.le_refl _) _)⟩
end Go.Proofs.YtecpbicfiaifdaaGreatDoor
/-
  The walk through order.Sort.
-/
namespace Go.Proofs.YtecpbicfiaifdaaGreatDoor
open Go.RowKit ND

theorem row_le {w : World} {base base' size n : Nat} {e : TypeId} {v : Value} {xs : List Value} (h : w.ownsRow base e size v n xs) (hb : base' ≤ base) : w.ownsRow base' e size v n xs :=
  ⟨h.1, h.2.imp id fun ⟨g, cap, cur, hv, h1, h2⟩ => ⟨g, cap, cur, hv, Nat.le_trans hb h1, h2⟩⟩
/-- A sequence comes back in a row of the call's own. -/
def RetRow (w : World) (ys : List Int) (e : Ending) (w' : World) : Prop := ∃ v, e = .returned v ∧ w'.ownsRow w.heap.size 3 1 v ys.length (ys.map (Value.int .i64)) ∧ Below w.heap.size w w'

set_option maxRecDepth 100000 in
set_option maxHeartbeats 4000000 in
theorem sort_big (t : Tv) (T : Tab) (v : Value) (xs : List Int) (w : World) (ht : TabR w w.heap.size t T) (hck : T.check = 0) (hlen : xs.length ≤ 100000) (hv : Ints w w.heap.size .i64 v xs) :
    Calls Tryz.prog 97 #[t.val, v] w (RetRow w (can T.classOf xs)) := by
  obtain ⟨A, c, rfl, _⟩ := id hv
  have hsh := shape_of hck
  have HF := Lib.hid (fun x => (cls_range hck x).1)
  obtain ⟨f, hf⟩ : ∃ f, T.classOf = f := ⟨_, rfl⟩
  have HC : Hid (∀ (b : Nat) (W : World) (x : Int), Tbl W b t T → Calls Tryz.prog 116 #[.agg #[t.c0, t.c1, t.c2, t.c3, t.c4, t.c5, t.c6, t.c7, t.c8, t.c9, t.c10, t.c11], .int .i64 x] W fun e W' => e = .returned (.int .i64 (f x)) ∧ Below W.heap.size W W') := Lib.hid fun b W x h => by
    have h2 := class_any t T x 0 1114111 W h.2 hsh.c1.1 hsh.c1.2.1
    rw [hf] at h2; exact h2
  rw [hf] at HF ⊢
  have HB0 : Hid (Below w.heap.size w (w.alloc (.cells t.cells 26))) := Lib.hid ((Below.refl _ _).alloc (Nat.le_refl _) _)
  have HT : Hid (Tbl (w.alloc (.cells t.cells 26)) w.heap.size t T) := Lib.hid ⟨Blk.new _ _ _, ht.later HB0.out⟩
  have HV := Lib.hid (hv.later HB0.out)
  clear hv ht hck hsh hf
  go_enter Tryz.func97, Tryz.ntmps97
  go_upto_region 1 with fail
  generalize w.alloc (.cells t.cells 26) = w1 at *
  obtain ⟨tb, htb⟩ : ∃ tb, w.heap.size = tb := ⟨_, rfl⟩
  rw [htb] at HT
  simp only [htb]
  obtain ⟨i0, hi, hz0, hz1, hz2⟩ := info_parts Tryz.infoInt'
  go_upto_region 2 with (at_builtin; refine wpList_append_ints (by rfl) (.const (.slice none 0 0)) (.tmp 9) rfl Tryz.underlying22 hi hz0 hz1 hz2 w1.heap.size w1.heap.size (.slice none 0 0) [] (.slice A xs.length c) xs rfl (World.ownsRow_nil _ _ _ _) rfl HV.out (by simp; omega) (Nat.le_refl _) ?_; intro v5 w2 ho hg _; simp only [List.nil_append] at ho; obtain ⟨A5, c5, rfl, _⟩ := id (Ints.of_own ho); have HO := Lib.hid ho; have HB2 := Lib.hid ((Below.refl _ _).grown hg (Nat.le_refl _) (fun k hk => by cases hk)); clear ho hg)
  go_wp2_with fail
  go_loopw [13] (fun s13 wr => ∃ (k : Nat) (o : List Int), k ≤ xs.length ∧ s13 = .int .i64 k ∧ Hid (o.length = xs.length ∧ can f o = can f xs ∧ SortN f k o) ∧ Hid (wr.ownsRow w1.heap.size 3 1 (.slice A5 xs.length c5) xs.length (o.map (Value.int .i64))) ∧ Hid (Below w1.heap.size w1 wr)) (fun i _ => xs.length - (intOf i).toNat)
  case atStart => exact ⟨0, xs, by omega, rfl, Lib.hid ⟨rfl, rfl, fun i x y h => by omega⟩, HO, HB2⟩
  case round =>
    obtain ⟨k, o, hk, rfl, HS, HOr, HBr⟩ := hrel
    by_cases hlt : k < xs.length
    · obtain ⟨x, hx⟩ : ∃ x, o[k]? = some x := ⟨_, List.getElem?_eq_getElem (by rw [HS.out.1]; exact hlt)⟩
      obtain ⟨gb, cap, e, hgb, _⟩ := HOr.out.form (by omega)
      cases e
      have hcell := (HOr.out.cellAt k (by omega)).trans (by rw [List.getElem?_map, hx]; rfl : (o.map (Value.int .i64))[k]? = some (.int .i64 x))
      have e1 := cell_regrown hcell
      have HX := Lib.hid hx
      have HTr := Lib.hid (HT.out.later HBr.out)
      have HCx : Hid (∀ V, Below wr.heap.size wr V → Calls Tryz.prog 116 #[.agg #[t.c0, t.c1, t.c2, t.c3, t.c4, t.c5, t.c6, t.c7, t.c8, t.c9, t.c10, t.c11], .int .i64 x] V fun e V' => e = .returned (.int .i64 (f x)) ∧ Below V.heap.size V V') := Lib.hid fun V hV => HC.out tb V x (HTr.out.later hV)
      have k0 : (0 : Int) ≤ (k : Int) := by omega
      have k1 : (k : Int) < (xs.length : Int) := by omega
      clear hx hcell
      go_upto_region 5 with fail
      obtain ⟨x0, x1, x2, x3, x4, x5, x6, x7, x8, x9, x10, x11⟩ := HTr.out.1.tabG
      refine wp_region_quiet_below (by kernel_rfl) (by kernel_rfl) ?_
      repeat (go_big_quiet_step ((go_at_call 116; with_reducible exact quiet_t HCx.out)))
      refine wpQuiet_nil ?_
      rintro _ ⟨⟨dq, osq⟩, rfl⟩
      have b5 := below_regrown wr dq osq
      clear x0 x1 x2 x3 x4 x5 x6 x7 x8 x9 x10 x11 e1 HCx HTr
      have HO5 := Lib.hid (own_later HOr.out b5)
      have HB5 := Lib.hid (below_then HBr.out (Nat.le_refl _) b5)
      generalize Go.Sort.grow (redrawn wr dq) osq = w5 at *
      clear HOr HBr b5
      by_cases h0 : f x = 0
      · have hb : (f x == 0) = true := by rw [h0]; rfl
        have HN := Lib.hid (SortN.zero HS.out.2.2 HX.out (by omega))
        clear h0
        go_wp2_with fail
        go_roundw
        case rel => exact ⟨k + 1, o, by omega, by go_num, Lib.hid ⟨HS.out.1, HS.out.2.1, HN.out⟩, HO5, HB5⟩
        case measure => simp [intOf]; omega
      · have hb : (f x == 0) = false := by simpa using h0
        have hpos : 0 < f x := by have := HF.out x; omega
        have HI := Lib.hid (Ins.start (f := f) HS.out.1 HS.out.2.1 HS.out.2.2 hlt HX.out)
        clear h0 HX HS
        go_wp2_with fail
        go_loopw [8] (fun s8 wr => ∃ (q : Nat) (o : List Int), s8 = .int .i64 q ∧ Hid (Ins f xs o k q x) ∧ Hid (wr.ownsRow w1.heap.size 3 1 (.slice (some ⟨gb, 0, none⟩) xs.length c5) xs.length (o.map (Value.int .i64))) ∧ Hid (Below w1.heap.size w1 wr)) (fun i _ => (intOf i).toNat)
        case atStart => exact ⟨k, o, rfl, HI, HO5, HB5⟩
        case round =>
          clear HI HO5 HB5
          obtain ⟨q, o, rfl, HI, HO6, HB6⟩ := hrel
          cases q with
          | zero =>
            have HN := Lib.hid (HI.out.stop (fun p y h => by omega))
            have HL := Lib.hid (And.intro HI.out.len HI.out.can)
            go_upto_region 8 with fail
            refine wp_region_quiet_below (by kernel_rfl) (by kernel_rfl) ?_
            repeat (go_big_quiet_step (fail))
            refine wpQuiet_nil ?_
            rintro _ ⟨⟨dq, osq⟩, rfl⟩
            have b5 := below_regrown wr dq osq
            have HO7 := Lib.hid (own_later HO6.out b5)
            have HB7 := Lib.hid (below_then HB6.out (Nat.le_refl _) b5)
            generalize Go.Sort.grow (redrawn wr dq) osq = w7 at *
            go_wp2_with fail
            go_roundw
            case rel => exact ⟨k + 1, o, by omega, by go_num, Lib.hid ⟨HL.out.1, HL.out.2, HN.out⟩, HO7, HB7⟩
            case measure => simp [intOf]; omega
          | succ p =>
            have hle := HI.out.le
            have hol := HI.out.len
            obtain ⟨y, hy⟩ : ∃ y, o[p]? = some y := ⟨_, List.getElem?_eq_getElem (by omega)⟩
            have hcp := (HO6.out.cellAt p (by omega)).trans (by rw [List.getElem?_map, hy]; rfl : (o.map (Value.int .i64))[p]? = some (.int .i64 y))
            have hcq := (HO6.out.cellAt (p + 1) (by omega)).trans (by rw [List.getElem?_map, HI.out.m]; rfl : (o.map (Value.int .i64))[p + 1]? = some (.int .i64 x))
            have ep := cell_regrown hcp
            have eq := cell_regrown hcq
            have HY := Lib.hid hy
            have HTr := Lib.hid (HT.out.later HB6.out)
            have HCy : Hid (∀ V, Below wr.heap.size wr V → Calls Tryz.prog 116 #[.agg #[t.c0, t.c1, t.c2, t.c3, t.c4, t.c5, t.c6, t.c7, t.c8, t.c9, t.c10, t.c11], .int .i64 y] V fun e V' => e = .returned (.int .i64 (f y)) ∧ Below V.heap.size V V') := Lib.hid fun V hV => HC.out tb V y (HTr.out.later hV)
            have w0 : IntKind.i64.wrap (((p + 1 : Nat) : Int) - 1) = (p : Int) := by rw [IntWalk.i64_in _ (by omega)]; omega
            have w2 : ((p + 1 : Nat) : Int) - 1 = (p : Int) := by omega
            have k2 : (0 : Int) < ((p + 1 : Nat) : Int) := by omega
            have k3 : (0 : Int) ≤ (p : Int) := by omega
            have k4 : (p : Int) < (xs.length : Int) := by omega
            clear hy hcp hcq hle hol
            by_cases h9 : f x < f y
            · have hgt : decide (f x < f y) = true := decide_eq_true h9
              go_upto_region 8 with fail
              obtain ⟨x0, x1, x2, x3, x4, x5, x6, x7, x8, x9, x10, x11⟩ := HTr.out.1.tabG
              refine wp_region_quiet_below (by kernel_rfl) (by kernel_rfl) ?_
              repeat (go_big_quiet_step ((go_at_call 116; with_reducible exact quiet_t HCy.out)))
              refine wpQuiet_nil ?_
              rintro _ ⟨⟨dq, osq⟩, rfl⟩
              have b7 := below_regrown wr dq osq
              clear x0 x1 x2 x3 x4 x5 x6 x7 x8 x9 x10 x11 ep eq HCy HTr
              have HO7 := Lib.hid (own_later HO6.out b7)
              have HB7 := Lib.hid (below_then HB6.out (Nat.le_refl _) b7)
              generalize Go.Sort.grow (redrawn wr dq) osq = w7 at *
              clear HO6 HB6 b7
              have hle := HI.out.le
              have hol := HI.out.len
              have hcp := (HO7.out.cellAt p (by omega)).trans (by rw [List.getElem?_map, HY.out]; rfl : (o.map (Value.int .i64))[p]? = some (.int .i64 y))
              have hcq := (HO7.out.cellAt (p + 1) (by omega)).trans (by rw [List.getElem?_map, HI.out.m]; rfl : (o.map (Value.int .i64))[p + 1]? = some (.int .i64 x))
              have fp := HO7.out.frozenAt p
              have fq := HO7.out.frozenAt (p + 1)
              have k5 : (0 : Int) ≤ ((p + 1 : Nat) : Int) := by omega
              have k6 : ((p + 1 : Nat) : Int) < (xs.length : Int) := by omega
              clear hle hol
              go_wp2_with fail
              go_region
              clear hcp hcq fp fq
              have HO8 : Hid (((w7.setCell ⟨gb, p + 1, none⟩ (.int .i64 y)).setCell ⟨gb, p, none⟩ (.int .i64 x)).drew.ownsRow w1.heap.size 3 1 (.slice (some ⟨gb, 0, none⟩) xs.length c5) xs.length ((swapL o p y x).map (Value.int .i64))) := by
                have h := ((HO7.out.stored (p + 1) (.int .i64 y)).1.stored p (.int .i64 x)).1
                rw [← List.map_set, ← List.map_set] at h
                exact Lib.hid h.drew
              have HB8 : Hid (Below w1.heap.size w1 ((w7.setCell ⟨gb, p + 1, none⟩ (.int .i64 y)).setCell ⟨gb, p, none⟩ (.int .i64 x)).drew) := Lib.hid (((HB7.out.setCell (p := ⟨gb, p + 1, none⟩) hgb _).setCell (p := ⟨gb, p, none⟩) hgb _).drew)
              have HN := Lib.hid (HI.out.step HY.out hpos h9)
              generalize ((w7.setCell ⟨gb, p + 1, none⟩ (.int .i64 y)).setCell ⟨gb, p, none⟩ (.int .i64 x)).drew = w8 at *
              go_wp2_with fail
              go_roundw
              case rel => exact ⟨p, swapL o p y x, rfl, HN, HO8, HB8⟩
              case measure => simp [intOf]
            · have hgt : decide (f x < f y) = false := decide_eq_false h9
              have HN := Lib.hid (HI.out.stop (fun p' y' h hy' hlt' => by
                obtain rfl : p' = p := by omega
                rw [HY.out] at hy'; cases hy'; exact h9 hlt'))
              have HL := Lib.hid (And.intro HI.out.len HI.out.can)
              clear h9
              go_upto_region 8 with fail
              obtain ⟨x0, x1, x2, x3, x4, x5, x6, x7, x8, x9, x10, x11⟩ := HTr.out.1.tabG
              refine wp_region_quiet_below (by kernel_rfl) (by kernel_rfl) ?_
              repeat (go_big_quiet_step ((go_at_call 116; with_reducible exact quiet_t HCy.out)))
              refine wpQuiet_nil ?_
              rintro _ ⟨⟨dq, osq⟩, rfl⟩
              have b7 := below_regrown wr dq osq
              clear x0 x1 x2 x3 x4 x5 x6 x7 x8 x9 x10 x11 ep eq HCy HTr
              have HO7 := Lib.hid (own_later HO6.out b7)
              have HB7 := Lib.hid (below_then HB6.out (Nat.le_refl _) b7)
              generalize Go.Sort.grow (redrawn wr dq) osq = w7 at *
              go_wp2_with fail
              go_roundw
              case rel => exact ⟨k + 1, o, by omega, by go_num, Lib.hid ⟨HL.out.1, HL.out.2, HN.out⟩, HO7, HB7⟩
              case measure => simp [intOf]; omega
    · have HD := Lib.hid (sorted_done HS.out.1 HS.out.2.1 (by omega) HS.out.2.2)
      go_wp2_with fail
      go_ret
      refine ⟨_, rfl, ?_, ?_⟩
      · rw [can_length, ← HD.out]
        exact row_le HOr.out HB0.out.size
      · exact HB0.out.trans (HBr.out.mono HB0.out.size)
theorem sort_any (t : Tv) (T : Tab) (v : Value) (xs : List Int) (w : World) (ht : TabR w w.heap.size t T) (hck : T.check = 0) (hlen : xs.length ≤ 4096) (hv : Ints w w.heap.size .i64 v xs) :
    Calls Tryz.prog 97 #[t.val, v] w (RetRow w (can T.classOf xs)) := sort_big t T v xs w ht hck (by omega) hv
end Go.Proofs.YtecpbicfiaifdaaGreatDoor
