/-
  Plain mathematics of chapter 4, third part: the nine rules. No program in sight.
-/
import Derived.Test.YtkdhldhbjomiaaaDoorRules
namespace ND
open Go

def blocksL : List Sp := [(0, 127, 0), (4352, 4370, 0), (4449, 4469, 0), (4520, 4546, 0), (44032, 55203, 0), (55296, 57343, 0)]
def refBlocks : List (Int × Int) := [(0, 127), (55296, 57343), (44032, 55203), (4352, 4370), (4449, 4469), (4520, 4546)]
/-- A span has no code point in common with a block. -/
def apartB (f t lo hi : Int) : Bool := !decide (f ≤ hi ∧ lo ≤ t)
def outB (f t : Int) : Bool := blocksL.all (fun b => apartB f t b.1 b.2.1)
theorem outB_ref (f t : Int) : refBlocks.all (fun b => apartB f t b.1 b.2) = outB f t := by
  unfold outB refBlocks blocksL
  simp only [List.all_cons, List.all_nil]
  generalize apartB f t 0 127 = a1
  generalize apartB f t 55296 57343 = a2
  generalize apartB f t 44032 55203 = a3
  generalize apartB f t 4352 4370 = a4
  generalize apartB f t 4449 4469 = a5
  generalize apartB f t 4520 4546 = a6
  cases a1 <;> cases a2 <;> cases a3 <;> cases a4 <;> cases a5 <;> cases a6 <;> rfl
theorem apart_ways (f t lo hi : Int) : (apartB f t lo hi = true ∧ decide (f ≤ hi) = false) ∨ (apartB f t lo hi = true ∧ decide (f ≤ hi) = true ∧ decide (lo ≤ t) = false) ∨ (apartB f t lo hi = false ∧ decide (f ≤ hi) = true ∧ decide (lo ≤ t) = true) := by
  unfold apartB
  simp only [Bool.not_eq_true', Bool.not_eq_false', decide_eq_true_eq, decide_eq_false_iff_not]
  omega
theorem outB_res {f t c : Int} (h : outB f t = true) (h1 : f ≤ c) (h2 : c ≤ t) : resB c = false := by
  unfold outB blocksL apartB at h
  simp only [List.all_cons, List.all_nil, Bool.and_eq_true, Bool.not_eq_true', decide_eq_false_iff_not] at h
  rw [resB_not]
  obtain ⟨a1, a2, a3, a4, a5, a6, _⟩ := h
  omega
theorem outB_one {c : Int} (h : resB c = false) : outB c c = true := by
  rw [resB_not] at h
  unfold outB blocksL apartB
  simp only [List.all_cons, List.all_nil, Bool.and_eq_true, Bool.not_eq_true', decide_eq_false_iff_not, Bool.and_true]
  refine ⟨?_, ?_, ?_, ?_, ?_, ?_⟩ <;> omega

/-- What a key may be behind another one; p: a letter, a digit or a hyphen may be one, too. -/
def keyOk (p : Bool) (last c : Int) : Bool := decide (last < c ∧ c ≤ 1114111) && (!resB c || (p && nameB c))
def keysB (p : Bool) : Int → List Int → Bool
  | _, [] => true
  | last, c :: r => keyOk p last c && keysB p c r
/-- Script numbers that ascend. -/
def scrG : Int → List Int → Bool
  | _, [] => true
  | last, s :: r => decide (3 ≤ s ∧ s ≤ 60 ∧ last < s) && scrG s r
def toB (x : Bool) (m : Mp) : Bool := decide (1 ≤ m.2.length ∧ m.2.length ≤ 18) && (if x then scrG 2 m.2 else m.2.all scalarB)
/-- How many code points have the status Mapped. -/
def mapCount : List Sp → Int
  | [] => 0
  | s :: r => (if s.2.2 = 3 then s.2.1 - s.1 + 1 else 0) + mapCount r
def okStat (s : Int) : Bool := decide (s = 1 ∨ s = 4)

def Tab.cols (T : Tab) : List (List Sp × Int × Int) := [(T.category, 0, 8), (T.cls, 1, 254), (T.joining, 0, 5), (T.bidi, 0, 11), (T.script, 0, 60), (T.status, 0, 4), (T.ignorable, 1, 1)]
def Tab.mps (T : Tab) : List (List Mp) := [T.extensions, T.maps, T.decomps, T.prototypes]
def keysOf (l : List Mp) : List Int := l.map (·.1)
def colOk (l : List Sp) : Bool := checkS l 0 1114111 && l.all (fun s => outB s.1 s.2.1)
def valsOk (c : List Sp × Int × Int) : Bool := c.1.all (fun s => decide (c.2.1 ≤ s.2.2 ∧ s.2.2 ≤ c.2.2))

def Tab.rule1 (T : Tab) : Bool := decide (T.excluded.length ≤ 256) && (T.cols.all (fun c => decide (c.1.length ≤ 256)) && T.mps.all (fun m => decide (m.length ≤ 256)))
def Tab.rule2m (T : Tab) : Bool := keysB false (-1) (keysOf T.extensions) && (keysB false (-1) (keysOf T.maps) && (keysB false (-1) (keysOf T.decomps) && keysB true (-1) (keysOf T.prototypes)))
def Tab.rule2 (T : Tab) : Bool := T.cols.all (fun c => colOk c.1) && (T.rule2m && keysB false (-1) T.excluded)
def Tab.rule3 (T : Tab) : Bool := T.cols.all valsOk
def Tab.rule4 (T : Tab) : Bool := T.extensions.all (toB true) && (T.maps.all (toB false) && (T.decomps.all (toB false) && T.prototypes.all (toB false)))
def Tab.mapOk (T : Tab) (m : Mp) : Bool := decide (T.statusOf m.1 = 3) && m.2.all (fun c => okStat (T.statusOf c))
def Tab.rule5 (T : Tab) : Bool := decide (mapCount T.status = (T.maps.length : Int)) && T.maps.all T.mapOk
def decEl (c : Int) : Bool := !(decide (c = 46) || sylB c || jamoB c)
def decOk (m : Mp) : Bool := decide (m.2.length ≤ 2) && m.2.all decEl
def Tab.szOk (T : Tab) (m : Mp) : Bool := decide (sizeF T.decomps (T.decomps.length + 1) m.1 ≤ 18)
def Tab.rule6 (T : Tab) : Bool := T.decomps.all decOk && T.decomps.all T.szOk
def Tab.exOk (T : Tab) (c : Int) : Bool := decide (findL T.decomps c ≠ [])
def Tab.rule7 (T : Tab) : Bool := T.excluded.all T.exOk

/-- The last code point of a full decomposition. -/
def lastF (D : List Mp) (f : Nat) (c : Int) : Int := (expF D f c).getLastD 0
/-- Whether a decomposition is composable: f rounds deep. -/
def Tab.compF (T : Tab) : Nat → Int → Bool
  | 0, _ => false
  | f + 1, c => match findL T.decomps c with
    | [a, b] => !T.excB c && (decide (T.classOf c = 0) && (decide (T.classOf a = 0) && (decide (findL T.decomps b = []) &&
        ((decide (findL T.decomps a = []) || T.compF f a) && (decide (T.classOf b = 0) || decide (T.classOf (lastF T.decomps f a) ≤ T.classOf b))))))
    | _ => false
def Tab.comp (T : Tab) (c : Int) : Bool := T.compF T.decomps.length c
/-- The sequences of the composable decompositions. -/
def Tab.pairs (T : Tab) : List (List Int) := (T.decomps.filter (fun m => T.comp m.1)).map (·.2)
def Tab.rule8 (T : Tab) : Bool := decide T.pairs.Nodup
def Tab.plainB (T : Tab) (c : Int) : Bool := decide (findL T.decomps c = []) && !T.ignB c
def Tab.protoEl (T : Tab) (c : Int) : Bool := T.plainB c && (!sylB c && decide (findL T.prototypes c = []))
def Tab.protoOk (T : Tab) (m : Mp) : Bool := T.plainB m.1 && m.2.all T.protoEl
def Tab.rule9 (T : Tab) : Bool := T.prototypes.all T.protoOk

def Tab.check (T : Tab) : Int :=
  if T.rule1 = false then 1 else if T.rule2 = false then 2 else if T.rule3 = false then 3 else if T.rule4 = false then 4 else if T.rule5 = false then 5
  else if T.rule6 = false then 6 else if T.rule7 = false then 7 else if T.rule8 = false then 8 else if T.rule9 = false then 9 else 0

theorem keysB_at {p : Bool} {l : List Int} : ∀ {last : Int}, keysB p last l = true → ∀ c ∈ l, last < c ∧ c ≤ 1114111 ∧ (resB c = false ∨ p = true ∧ nameB c = true) := by
  induction l with
  | nil => intro last _ c h; cases h
  | cons a r ih =>
    intro last h c hc
    rw [keysB, Bool.and_eq_true] at h
    obtain ⟨h1, h2⟩ := h
    unfold keyOk at h1
    simp only [Bool.and_eq_true, decide_eq_true_eq, Bool.or_eq_true, Bool.not_eq_true'] at h1
    rcases List.mem_cons.1 hc with rfl | hc
    · exact ⟨h1.1.1, h1.1.2, h1.2⟩
    · have := ih h2 c hc
      exact ⟨by omega, this.2⟩
theorem keysB_sort {p : Bool} {l : List Mp} : ∀ {last : Int}, keysB p last (keysOf l) = true → sortM l := by
  induction l with
  | nil => intro last _ i j a b _ h; simp at h
  | cons m r ih =>
    intro last h i j a b hij ha hb
    unfold keysOf at h
    rw [List.map_cons, keysB, Bool.and_eq_true] at h
    obtain ⟨h1, h2⟩ := h
    cases j with
    | zero => omega
    | succ j =>
      have hb' : r[j]? = some b := by simpa using hb
      cases i with
      | zero =>
        simp at ha; subst ha
        exact (keysB_at h2 b.1 (List.mem_map_of_mem (List.mem_of_getElem? hb'))).1
      | succ i => exact ih h2 i j a b (by omega) (by simpa using ha) hb'

/-- What the first rules say. -/
structure Shape (T : Tab) : Prop where
  len : ∀ c ∈ T.cols, c.1.length ≤ 256
  lenM : ∀ m ∈ T.mps, m.length ≤ 256
  lenX : T.excluded.length ≤ 256
  col : ∀ c ∈ T.cols, colOk c.1 = true
  kx : keysB false (-1) (keysOf T.extensions) = true
  km : keysB false (-1) (keysOf T.maps) = true
  kd : keysB false (-1) (keysOf T.decomps) = true
  kp : keysB true (-1) (keysOf T.prototypes) = true
  ke : keysB false (-1) T.excluded = true
theorem Shape.of {T : Tab} (h1 : T.rule1 = true) (h2 : T.rule2 = true) : Shape T := by
  unfold Tab.rule1 at h1
  unfold Tab.rule2 Tab.rule2m at h2
  simp only [Bool.and_eq_true, decide_eq_true_eq, List.all_eq_true] at h1 h2
  exact ⟨h1.2.1, h1.2.2, h1.1, h2.1, h2.2.1.1, h2.2.1.2.1, h2.2.1.2.2.1, h2.2.1.2.2.2, h2.2.2⟩
def GoodS (l : List Sp) : Prop := okS 0 1114111 (-1) l = true ∧ l.length ≤ 256 ∧ ∀ s ∈ l, outB s.1 s.2.1 = true
section
variable {T : Tab}
theorem Shape.ok (h : Shape T) {l : List Sp} {a b : Int} (hm : (l, a, b) ∈ T.cols) : GoodS l := by
  have h1 := h.col _ hm
  unfold colOk checkS at h1
  simp only [Bool.and_eq_true, decide_eq_true_eq, List.all_eq_true] at h1
  exact ⟨h1.1.1, h1.1.2, h1.2⟩
theorem Shape.c0 (h : Shape T) : GoodS T.category := h.ok (l := T.category) (a := 0) (b := 8) (by simp [Tab.cols])
theorem Shape.c1 (h : Shape T) : GoodS T.cls := h.ok (l := T.cls) (a := 1) (b := 254) (by simp [Tab.cols])
theorem Shape.c2 (h : Shape T) : GoodS T.joining := h.ok (l := T.joining) (a := 0) (b := 5) (by simp [Tab.cols])
theorem Shape.c3 (h : Shape T) : GoodS T.bidi := h.ok (l := T.bidi) (a := 0) (b := 11) (by simp [Tab.cols])
theorem Shape.c4 (h : Shape T) : GoodS T.script := h.ok (l := T.script) (a := 0) (b := 60) (by simp [Tab.cols])
theorem Shape.c5 (h : Shape T) : GoodS T.status := h.ok (l := T.status) (a := 0) (b := 4) (by simp [Tab.cols])
theorem Shape.c6 (h : Shape T) : GoodS T.ignorable := h.ok (l := T.ignorable) (a := 1) (b := 1) (by simp [Tab.cols])
theorem Shape.lx (h : Shape T) : T.extensions.length ≤ 256 := h.lenM _ (by simp [Tab.mps])
theorem Shape.lm (h : Shape T) : T.maps.length ≤ 256 := h.lenM _ (by simp [Tab.mps])
theorem Shape.ld (h : Shape T) : T.decomps.length ≤ 256 := h.lenM _ (by simp [Tab.mps])
theorem Shape.lp (h : Shape T) : T.prototypes.length ≤ 256 := h.lenM _ (by simp [Tab.mps])
end
theorem toB_iff {x : Bool} {m : Mp} : toB x m = true ↔ 1 ≤ m.2.length ∧ m.2.length ≤ 18 ∧ (if x then scrG 2 m.2 else m.2.all scalarB) = true := by
  unfold toB
  simp only [Bool.and_eq_true, decide_eq_true_eq, and_assoc]
theorem toB_ne {x : Bool} {l : List Mp} (h : l.all (toB x) = true) : ∀ m ∈ l, m.2 ≠ [] ∧ m.2.length ≤ 1000 := by
  intro m hm
  have := toB_iff.1 (List.all_eq_true.1 h m hm)
  exact ⟨fun e => by rw [e] at this; simp at this, by omega⟩
/-- What the fourth rule says. -/
structure Sized (T : Tab) : Prop where
  nx : ∀ m ∈ T.extensions, m.2 ≠ [] ∧ m.2.length ≤ 1000
  nm : ∀ m ∈ T.maps, m.2 ≠ [] ∧ m.2.length ≤ 1000
  nd : ∀ m ∈ T.decomps, m.2 ≠ [] ∧ m.2.length ≤ 1000
  np : ∀ m ∈ T.prototypes, m.2 ≠ [] ∧ m.2.length ≤ 1000
theorem Sized.of {T : Tab} (h : T.rule4 = true) : Sized T := by
  unfold Tab.rule4 at h
  simp only [Bool.and_eq_true] at h
  exact ⟨toB_ne h.1, toB_ne h.2.1, toB_ne h.2.2.1, toB_ne h.2.2.2⟩

/-- A value outside all spans. -/
theorem value_out {l : List Sp} {c : Int} (h : ∀ s ∈ l, ¬(s.1 ≤ c ∧ c ≤ s.2.1)) : valueL l c = 0 :=
  valueL_no fun _ _ hi => h _ (List.mem_of_getElem? hi)
theorem value_res {l : List Sp} {c : Int} (h : ∀ s ∈ l, outB s.1 s.2.1 = true) (hr : resB c = true) : valueL l c = 0 :=
  value_out fun s hs ⟨h1, h2⟩ => by rw [outB_res (h s hs) h1 h2] at hr; cases hr
theorem value_range {l : List Sp} {c : Int} (h : okS 0 1114111 (-1) l = true) (hc : c < 0 ∨ 1114111 < c) : valueL l c = 0 :=
  valueL_no fun _ _ hi => by have := okS_el h hi; omega
theorem lenC_zero {c : Int} : lenC c = 0 ↔ scalarB c = false := by
  unfold lenC
  cases h : scalarB c
  · simp
  · simp only [if_true]
    constructor
    · intro h
      split at h
      · cases h
      · split at h
        · cases h
        · split at h <;> cases h
    · intro h; cases h
/-- A property that is read as the reference reads it. -/
theorem propL_ref {l : List Sp} {own c : Int} (h1 : okS 0 1114111 (-1) l = true) (h2 : ∀ s ∈ l, outB s.1 s.2.1 = true) :
    propL l own c = if resB c = true ∧ surB c = false then own else valueL l c := by
  unfold propL
  by_cases hs : scalarB c = true
  · have h0 : lenC c ≠ 0 := fun e => by rw [lenC_zero, hs] at e; cases e
    have hu : surB c = false := by
      rw [scalarB_iff] at hs
      unfold surB
      rw [decide_eq_false_iff_not]; omega
    rw [if_neg h0]
    by_cases hr : resB c = true
    · rw [if_pos hr, if_pos ⟨hr, hu⟩]
    · rw [if_neg hr, if_neg (fun h => hr h.1)]
  · have hs' : scalarB c = false := by simpa using hs
    rw [if_pos (lenC_zero.2 hs')]
    rw [scalarB_not] at hs'
    rw [if_neg]
    · rcases hs' with h | h | h
      · exact (value_range h1 (.inl h)).symm
      · exact (value_range h1 (.inr h)).symm
      · exact (value_res h2 ((resB_iff c).2 (by omega))).symm
    · rintro ⟨h3, h4⟩
      rw [resB_iff] at h3
      unfold surB at h4
      rw [decide_eq_false_iff_not] at h4
      omega
end ND
