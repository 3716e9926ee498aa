/-
  Merged texts: lemmas and walks that the last text of this claim leans on.
-/
import Derived.Test.YtikcfoobfobmnaaGreatDoorMgB71
import Derived.BigQuiet
/-
  Plain mathematics of chapter 3 (lists of numbers and of spans) and of 2.1: no program in sight.
-/
namespace ND
open Go

def fitsB (v : Int) : Bool := decide (-1073741824 ≤ v ∧ v ≤ 1073741824)
theorem fitsB_iff (v : Int) : fitsB v = true ↔ -1073741824 ≤ v ∧ v ≤ 1073741824 := by unfold fitsB; simp
theorem fitsB_not (v : Int) : fitsB v = false ↔ v < -1073741824 ∨ 1073741824 < v := by unfold fitsB; rw [decide_eq_false_iff_not]; omega

def putAll (b : List UInt8) (ds : List Int) : List UInt8 := ds.foldl putInt b
def diffs : Int → List Int → List Int
  | _, [] => []
  | last, v :: r => (v - last) :: diffs v r
/-- PutList: the bytes, the error. -/
def putList (b : List UInt8) (l : List Int) : List UInt8 × Int :=
  if 4096 < l.length then ([], 7) else if l.all fitsB then (putAll (putInt b l.length) (diffs 0 l), 0) else ([], 3)

def okD (last d : Int) : Bool := decide (-2147483648 ≤ d ∧ d ≤ 2147483648) && fitsB (last + d)
/-- The elements of a list that is read: the error, the elements, the index behind them. -/
def getL (s : List UInt8) : Nat → Int → Int → Int × List Int × Int
  | 0, _, p => (0, [], p)
  | n + 1, last, p =>
    if (getInt s p).2.2 ≠ 0 then ((getInt s p).2.2, [], 0)
    else if okD last (getInt s p).1 = false then (4, [], 0)
    else if (getL s n (last + (getInt s p).1) (getInt s p).2.1).1 ≠ 0 then ((getL s n (last + (getInt s p).1) (getInt s p).2.1).1, [], 0)
    else (0, (last + (getInt s p).1) :: (getL s n (last + (getInt s p).1) (getInt s p).2.1).2.1, (getL s n (last + (getInt s p).1) (getInt s p).2.1).2.2)
/-- GetList: the elements, the index, the error. -/
def getList (s : List UInt8) (p : Int) : List Int × Int × Int :=
  if (getInt s p).2.2 ≠ 0 then ([], p, (getInt s p).2.2)
  else if (getInt s p).1 < 0 ∨ 4096 < (getInt s p).1 then ([], p, 4)
  else if (getL s (getInt s p).1.toNat 0 (getInt s p).2.1).1 ≠ 0 then ([], p, (getL s (getInt s p).1.toNat 0 (getInt s p).2.1).1)
  else ((getL s (getInt s p).1.toNat 0 (getInt s p).2.1).2.1, (getL s (getInt s p).1.toNat 0 (getInt s p).2.1).2.2, 0)

theorem putAll_cons (b : List UInt8) (d : Int) (ds : List Int) : putAll b (d :: ds) = putAll (putInt b d) ds := rfl
theorem putAll_pre (ds : List Int) : ∀ b : List UInt8, ∃ e, putAll b ds = b ++ e := by
  induction ds with
  | nil => intro b; exact ⟨[], by simp [putAll]⟩
  | cons d ds ih =>
    intro b
    obtain ⟨e, he⟩ := ih (putInt b d)
    exact ⟨encU 9 (zz d) ++ e, by rw [putAll_cons, he]; simp [putInt]⟩
def inI64 (v : Int) : Prop := -9223372036854775808 ≤ v ∧ v ≤ 9223372036854775807
/-- The next number of what putAll has written. -/
theorem getInt_putAll (b t : List UInt8) (d : Int) (ds : List Int) (h : inI64 d) : getInt (putAll b (d :: ds) ++ t) b.length = (d, (((putInt b d).length : Nat) : Int), 0) := by
  obtain ⟨e, he⟩ := putAll_pre ds (putInt b d)
  rw [putAll_cons, he, List.append_assoc]
  exact getInt_putInt b (e ++ t) d h.1 h.2

theorem getL_putAll (l : List Int) : ∀ (b t : List UInt8) (last : Int), fitsB last = true → (∀ v ∈ l, fitsB v = true) →
    getL (putAll b (diffs last l) ++ t) l.length last b.length = (0, l, (((putAll b (diffs last l)).length : Nat) : Int)) := by
  induction l with
  | nil => intro b t last _ _; simp [getL, putAll, diffs]
  | cons v r ih =>
    intro b t last hl h
    have hv := h v (by simp)
    have h1 := (fitsB_iff last).1 hl
    have h2 := (fitsB_iff v).1 hv
    have hg := getInt_putAll b t (v - last) (diffs v r) ⟨by omega, by omega⟩
    have hs : last + (v - last) = v := by omega
    have hok : okD last (v - last) = true := by
      unfold okD; rw [hs, hv, Bool.and_true]; simp; omega
    have hi := ih (putInt b (v - last)) t v hv (fun x hx => h x (by simp [hx]))
    simp only [diffs, List.length_cons, getL]
    rw [hg]
    simp only [hs, hok]
    rw [putAll_cons, hi]
    simp

theorem getList_putList (b t : List UInt8) (l : List Int) (hl : l.length ≤ 4096) (h : ∀ v ∈ l, fitsB v = true) :
    putList b l = (putAll (putInt b l.length) (diffs 0 l), 0) ∧ getList ((putList b l).1 ++ t) b.length = (l, ((((putList b l).1).length : Nat) : Int), 0) := by
  have hp : putList b l = (putAll (putInt b l.length) (diffs 0 l), 0) := by
    unfold putList; rw [if_neg (by omega), if_pos (List.all_eq_true.2 h)]
  refine ⟨hp, ?_⟩
  rw [hp]
  have hg := getInt_putAll b t (l.length : Int) (diffs 0 l) ⟨by omega, by omega⟩
  have hL := getL_putAll l (putInt b (l.length : Int)) t 0 (by decide) h
  simp only at hg ⊢
  rw [putAll_cons] at hg
  unfold getList
  rw [hg]
  simp only [Int.toNat_natCast]
  rw [hL]
  simp only [ne_eq, not_true_eq_false, if_false]
  rw [if_neg (by omega)]

/-! ### Spans -/

/-- From, To, Value. -/
abbrev Sp := Int × Int × Int
/-- 2.1 behind a span that ends at last. -/
def okS (lo hi : Int) : Int → List Sp → Bool
  | _, [] => true
  | last, s :: r => decide (last < s.1 ∧ s.1 ≤ s.2.1 ∧ s.2.1 ≤ 1114111 ∧ lo ≤ s.1 ∧ s.2.1 ≤ hi) && okS lo hi s.2.1 r
def checkS (l : List Sp) (lo hi : Int) : Bool := okS lo hi (-1) l && decide (l.length ≤ 256)
def nums : Int → List Sp → List Int
  | _, [] => []
  | last, s :: r => (s.1 - last) :: (s.2.1 - s.1) :: s.2.2 :: nums s.2.1 r
def putSpans (b : List UInt8) (l : List Sp) : List UInt8 × Int :=
  if checkS l 0 1114111 = false then ([], 1) else if l.all (fun s => fitsB s.2.2) then (putAll (putInt b l.length) (nums 0 l), 0) else ([], 3)
/-- The spans that are read: the error, the spans, the index behind them. gap: the least difference to the To of the span before. -/
def getS (s : List UInt8) : Nat → Int → Int → Int → Int × List Sp × Int
  | 0, _, _, p => (0, [], p)
  | n + 1, last, gap, p =>
    if (getInt s p).2.2 ≠ 0 then ((getInt s p).2.2, [], 0)
    else if (getInt s p).1 < gap ∨ 1114111 - last < (getInt s p).1 then (4, [], 0)
    else if (getInt s (getInt s p).2.1).2.2 ≠ 0 then ((getInt s (getInt s p).2.1).2.2, [], 0)
    else if (getInt s (getInt s p).2.1).1 < 0 ∨ 1114111 - (last + (getInt s p).1) < (getInt s (getInt s p).2.1).1 then (4, [], 0)
    else if (getInt s (getInt s (getInt s p).2.1).2.1).2.2 ≠ 0 then ((getInt s (getInt s (getInt s p).2.1).2.1).2.2, [], 0)
    else if fitsB (getInt s (getInt s (getInt s p).2.1).2.1).1 = false then (4, [], 0)
    else
      let q := getS s n (last + (getInt s p).1 + (getInt s (getInt s p).2.1).1) 1 (getInt s (getInt s (getInt s p).2.1).2.1).2.1
      if q.1 ≠ 0 then (q.1, [], 0)
      else (0, (last + (getInt s p).1, last + (getInt s p).1 + (getInt s (getInt s p).2.1).1, (getInt s (getInt s (getInt s p).2.1).2.1).1) :: q.2.1, q.2.2)
def getSpans (s : List UInt8) (p : Int) : List Sp × Int × Int :=
  if (getInt s p).2.2 ≠ 0 then ([], p, (getInt s p).2.2)
  else if (getInt s p).1 < 0 ∨ 256 < (getInt s p).1 then ([], p, 4)
  else
    let q := getS s (getInt s p).1.toNat 0 0 (getInt s p).2.1
    if q.1 ≠ 0 then ([], p, q.1) else (q.2.1, q.2.2, 0)

theorem okS_cons {lo hi last : Int} {s : Sp} {r : List Sp} : okS lo hi last (s :: r) = true ↔ (last < s.1 ∧ s.1 ≤ s.2.1 ∧ s.2.1 ≤ 1114111 ∧ lo ≤ s.1 ∧ s.2.1 ≤ hi) ∧ okS lo hi s.2.1 r = true := by
  simp [okS]

theorem getS_putAll (l : List Sp) : ∀ (b t : List UInt8) (last lst gap : Int), okS 0 1114111 last l = true → (last = -1 ∧ lst = 0 ∧ gap = 0 ∨ 0 ≤ last ∧ last ≤ 1114111 ∧ lst = last ∧ gap = 1) → (∀ v ∈ l, fitsB v.2.2 = true) →
    getS (putAll b (nums lst l) ++ t) l.length lst gap b.length = (0, l, (((putAll b (nums lst l)).length : Nat) : Int)) := by
  induction l with
  | nil => intro b t last lst gap _ _ _; simp [getS, putAll, nums]
  | cons s r ih =>
    intro b t last lst gap ho hl h
    obtain ⟨⟨a1, a2, a3, a4, a5⟩, a6⟩ := okS_cons.1 ho
    have hv := h s (by simp)
    have hv' := (fitsB_iff _).1 hv
    have g1 := getInt_putAll b t (s.1 - lst) ((s.2.1 - s.1) :: s.2.2 :: nums s.2.1 r) ⟨by omega, by omega⟩
    have g2 := getInt_putAll (putInt b (s.1 - lst)) t (s.2.1 - s.1) (s.2.2 :: nums s.2.1 r) ⟨by omega, by omega⟩
    have g3 := getInt_putAll (putInt (putInt b (s.1 - lst)) (s.2.1 - s.1)) t s.2.2 (nums s.2.1 r) ⟨by omega, by omega⟩
    rw [← putAll_cons] at g2
    rw [← putAll_cons, ← putAll_cons] at g3
    have hi := ih (putInt (putInt (putInt b (s.1 - lst)) (s.2.1 - s.1)) s.2.2) t s.2.1 s.2.1 1 a6 (.inr ⟨by omega, a3, rfl, rfl⟩) (fun x hx => h x (by simp [hx]))
    rw [← putAll_cons, ← putAll_cons, ← putAll_cons] at hi
    have e1 : lst + (s.1 - lst) = s.1 := by omega
    have e2 : s.1 + (s.2.1 - s.1) = s.2.1 := by omega
    simp only [nums, List.length_cons, getS]
    rw [g1]
    simp only
    rw [g2]
    simp only
    rw [g3]
    simp only [e1, e2, hv]
    rw [hi]
    simp only [ne_eq, not_true_eq_false, if_false, Bool.true_eq_false]
    rw [if_neg (by omega), if_neg (by omega)]

theorem getSpans_putSpans (b t : List UInt8) (l : List Sp) (hc : checkS l 0 1114111 = true) (h : ∀ v ∈ l, fitsB v.2.2 = true) :
    putSpans b l = (putAll (putInt b l.length) (nums 0 l), 0) ∧ getSpans ((putSpans b l).1 ++ t) b.length = (l, ((((putSpans b l).1).length : Nat) : Int), 0) := by
  have hp : putSpans b l = (putAll (putInt b l.length) (nums 0 l), 0) := by
    unfold putSpans; rw [if_neg (by rw [hc]; simp), if_pos (List.all_eq_true.2 h)]
  refine ⟨hp, ?_⟩
  rw [hp]
  unfold checkS at hc
  rw [Bool.and_eq_true, decide_eq_true_eq] at hc
  have hg := getInt_putAll b t (l.length : Int) (nums 0 l) ⟨by omega, by omega⟩
  have hL := getS_putAll l (putInt b (l.length : Int)) t (-1) 0 0 hc.1 (.inl ⟨rfl, rfl, rfl⟩) h
  simp only at hg ⊢
  rw [putAll_cons] at hg
  unfold getSpans
  rw [hg]
  simp only [Int.toNat_natCast]
  rw [hL]
  simp only [ne_eq, not_true_eq_false, if_false]
  rw [if_neg (by omega)]
end ND
/-
  The walks through keep.From and Source.Next.
-/
namespace Go.Proofs.YtikcfoobfobmnaaGreatDoor
open Go.RowKit ND

/-- The source that lies in block g: the list v, of which xs are the numbers, and how many have been used. -/
def Src (w : World) (g : Nat) (v : Value) (n : Nat) : Prop := ∃ i : Nat, i ≤ n ∧ Blk w g 87 #[v, .int .i64 i]

def RetNext (w : World) (g : Nat) (v : Value) (n : Nat) (m : Int) (e : Ending) (w' : World) : Prop :=
  ∃ r : Int, e = .returned (.int .i64 r) ∧ 0 ≤ r ∧ r < m ∧ Src w' g v n ∧ w.grownBy w' (some g)

set_option maxRecDepth 100000 in
set_option maxHeartbeats 400000 in
theorem from_any (A : Option Addr) (n c : Nat) (w : World) : Calls Tryz.prog 20 #[.slice A n c] w fun e w' => e = .returned (.pointer (some ⟨w.heap.size, 0, none⟩)) ∧ w' = w.alloc (.cells #[.slice A n c, .int .i64 0] 87) := by
  go_enter Tryz.func20, Tryz.ntmps20
  go_wp2_with fail
  go_ret
  exact ⟨rfl, rfl⟩

set_option maxRecDepth 100000 in
set_option maxHeartbeats 400000 in
theorem next_src (w : World) (g : Nat) (v : Value) (xs : List Int) (m : Int) (hv : Ints w g .i64 v xs) (hs : Src w g v xs.length) (h0 : 0 < m) (h1 : m ≤ 1000000) :
    Calls Tryz.prog 21 #[.pointer (some ⟨g, 0, none⟩), .int .i64 m] w (RetNext w g v xs.length m) := by
  obtain ⟨i, hi, hb⟩ := hs
  obtain ⟨A, c, rfl, hc1, hc2, _, hcell⟩ := hv
  have HC := Lib.hid hcell; clear hcell
  have hx : xs.length ≤ 9223372036854775807 := by unfold maxLen at hc2; omega
  have c0 : w.cell? ⟨g, 0, none⟩ = some (.slice A xs.length c) := by rw [hb.cell]; rfl
  have c1 : w.cell? ⟨g, 1, none⟩ = some (.int .i64 i) := by rw [hb.cell]; rfl
  have f1 := hb.free 1
  have HB := Lib.hid hb; clear hb
  by_cases hlt : i < xs.length
  · go_enter Tryz.func21, Tryz.ntmps21
    go_wp2_with fail
    go_quiet (fail)
    go_wp2_with fail
    have hb1 : Blk ((w.drewN nq).setCell ⟨g, 1, none⟩ (.int .i64 (i + 1))) g 87 #[.slice A xs.length c, .int .i64 (i + 1)] :=
      (show Blk (w.drewN nq) g 87 #[.slice A xs.length c, .int .i64 i] from HB.out).put 1 (.int .i64 (i + 1))
    have hbel1 : Below g w ((w.drewN nq).setCell ⟨g, 1, none⟩ (.int .i64 (i + 1))) := (below_drewN (Below.refl g w) nq).setCell (p := ⟨g, 1, none⟩) (Nat.le_refl _) _
    have hgr1 : w.grownBy ((w.drewN nq).setCell ⟨g, 1, none⟩ (.int .i64 (i + 1))) (some g) := grown_setCell (grown_drewN (grown_refl w _) nq) _ _
    generalize (w.drewN nq).setCell ⟨g, 1, none⟩ (.int .i64 ((i : Int) + 1)) = w1 at *
    obtain ⟨x, hxk, _⟩ := get_of hlt
    obtain ⟨ad, rfl, ha, hce⟩ := HC.out i x hxk
    have e1 := (hbel1.cell (p := ad.add i) (by rw [block_of_add]; exact ha)).trans hce
    have d0 : w1.cell? ⟨g, 0, none⟩ = some (.slice (some ad) xs.length c) := by rw [hb1.cell]; rfl
    have d1 : w1.cell? ⟨g, 1, none⟩ = some (.int .i64 (i + 1)) := by rw [hb1.cell]; rfl
    have hw : IntKind.i64.wrap ((i : Int) + 1 - 1) = i := by rw [IntWalk.i64_in _ (by omega)]; omega
    have k0 : (0 : Int) ≤ (i : Int) := by omega
    have k1 : (i : Int) < (xs.length : Int) := by omega
    have HB1 := Lib.hid hb1; clear hb1 HB hce hxk
    have hpk := pick_in x h0
    go_quiet ((go_at_call 7; exact quiet_left (pick_any _ _ _ h0 (by omega))))
    rename_i nq2
    go_wp2_with fail
    go_ret
    exact ⟨_, rfl, hpk.1, hpk.2, ⟨i + 1, by omega, HB1.out⟩, grown_drewN hgr1 _⟩
  · go_enter Tryz.func21, Tryz.ntmps21
    go_wp2_with fail
    go_quiet (fail)
    go_wp2_with fail
    go_ret
    exact ⟨0, rfl, by omega, h0, ⟨i, hi, HB.out⟩, grown_drewN (grown_refl w _) nq⟩
end Go.Proofs.YtikcfoobfobmnaaGreatDoor
/-
  Plain mathematics of chapter 1 (UTF-8): no program in sight.
-/
namespace ND
open Go

def scalarB (c : Int) : Bool := decide (0 ≤ c ∧ c ≤ 1114111 ∧ (c < 55296 ∨ 57343 < c))
def lenC (c : Int) : Nat := if scalarB c then (if c ≤ 127 then 1 else if c ≤ 2047 then 2 else if c ≤ 65535 then 3 else 4) else 0
theorem scalarB_iff (c : Int) : scalarB c = true ↔ 0 ≤ c ∧ c ≤ 1114111 ∧ (c < 55296 ∨ 57343 < c) := by unfold scalarB; simp
theorem scalarB_not (c : Int) : scalarB c = false ↔ c < 0 ∨ 1114111 < c ∨ (55296 ≤ c ∧ c ≤ 57343) := by
  unfold scalarB; rw [decide_eq_false_iff_not]; omega

/-- The bytes of a scalar value. -/
def encN (n : Nat) : List UInt8 :=
  if n < 128 then [UInt8.ofNat n]
  else if n < 2048 then [UInt8.ofNat (192 + n / 64), UInt8.ofNat (128 + n % 64)]
  else if n < 65536 then [UInt8.ofNat (224 + n / 4096), UInt8.ofNat (128 + n / 64 % 64), UInt8.ofNat (128 + n % 64)]
  else [UInt8.ofNat (240 + n / 262144), UInt8.ofNat (128 + n / 4096 % 64), UInt8.ofNat (128 + n / 64 % 64), UInt8.ofNat (128 + n % 64)]
def encC (c : Int) : List UInt8 := encN c.toNat

def headN (b : Nat) : Nat × Nat :=
  if b ≤ 127 then (1, b) else if 192 ≤ b ∧ b ≤ 223 then (2, b % 32) else if 224 ≤ b ∧ b ≤ 239 then (3, b % 16) else if 240 ≤ b ∧ b ≤ 247 then (4, b % 8) else (0, 0)
def contN : Nat → List UInt8 → Option Nat
  | c, [] => some c
  | c, b :: r => if b.toNat < 128 ∨ 191 < b.toNat then none else contN (c * 64 + b.toNat % 64) r
/-- The scalar value that a string begins with and the number of its bytes, or 0, 0. -/
def firstP : List UInt8 → Nat × Nat
  | [] => (0, 0)
  | b :: r =>
    if (headN b.toNat).1 = 0 ∨ r.length + 1 < (headN b.toNat).1 then (0, 0)
    else match contN (headN b.toNat).2 (r.take ((headN b.toNat).1 - 1)) with
      | none => (0, 0)
      | some c => if lenC c = (headN b.toNat).1 then (c, (headN b.toNat).1) else (0, 0)

theorem lenC_encC {c : Int} (h : scalarB c = true) : (encC c).length = lenC c ∧ 1 ≤ lenC c ∧ lenC c ≤ 4 := by
  have hs := (scalarB_iff c).1 h
  unfold encC encN lenC
  rw [if_pos h]
  by_cases h1 : c ≤ 127
  · rw [if_pos (by omega), if_pos h1]; simp
  · rw [if_neg (by omega), if_neg h1]
    by_cases h2 : c ≤ 2047
    · rw [if_pos (by omega), if_pos h2]; simp
    · rw [if_neg (by omega), if_neg h2]
      by_cases h3 : c ≤ 65535
      · rw [if_pos (by omega), if_pos h3]; simp
      · rw [if_neg (by omega), if_neg h3]; simp

theorem lenC_pos {c : Int} (h : lenC c ≠ 0) : scalarB c = true := by
  unfold lenC at h
  by_cases hs : scalarB c = true
  · exact hs
  · rw [if_neg hs] at h; exact absurd rfl h

theorem firstP_enc {n : Nat} (t : List UInt8) (h : scalarB n = true) : firstP (encN n ++ t) = (n, lenC n) := by
  have hs := (scalarB_iff n).1 h
  have hl : lenC n = if (n : Int) ≤ 127 then 1 else if (n : Int) ≤ 2047 then 2 else if (n : Int) ≤ 65535 then 3 else 4 := by unfold lenC; rw [if_pos h]
  unfold encN
  by_cases h1 : n < 128
  · have e : (UInt8.ofNat n).toNat = n := u8_ofNat_toNat (by omega)
    have hh : headN n = (1, n) := by unfold headN; rw [if_pos (by omega)]
    have hl' : lenC n = 1 := by rw [hl, if_pos (by omega)]
    rw [if_pos h1]
    simp [firstP, e, hh, contN, hl']
  · rw [if_neg h1]
    by_cases h2 : n < 2048
    · have e0 : (UInt8.ofNat (192 + n / 64)).toNat = 192 + n / 64 := u8_ofNat_toNat (by omega)
      have e1 : (UInt8.ofNat (128 + n % 64)).toNat = 128 + n % 64 := u8_ofNat_toNat (by omega)
      have hh : headN (192 + n / 64) = (2, n / 64) := by unfold headN; rw [if_neg (by omega), if_pos (by omega)]; congr 1; omega
      have hl' : lenC n = 2 := by rw [hl, if_neg (by omega), if_pos (by omega)]
      have hc : n / 64 * 64 + (128 + n % 64) % 64 = n := by omega
      rw [if_pos h2]
      simp only [List.cons_append, List.nil_append, firstP, e0, hh, List.length_cons]
      rw [if_neg (by omega)]
      simp only [Nat.reduceSub, List.take_succ_cons, List.take_zero, contN, e1]
      rw [if_neg (by omega), hc]
      simp [hl']
    · rw [if_neg h2]
      by_cases h3 : n < 65536
      · have e0 : (UInt8.ofNat (224 + n / 4096)).toNat = 224 + n / 4096 := u8_ofNat_toNat (by omega)
        have e1 : (UInt8.ofNat (128 + n / 64 % 64)).toNat = 128 + n / 64 % 64 := u8_ofNat_toNat (by omega)
        have e2 : (UInt8.ofNat (128 + n % 64)).toNat = 128 + n % 64 := u8_ofNat_toNat (by omega)
        have hh : headN (224 + n / 4096) = (3, n / 4096) := by unfold headN; rw [if_neg (by omega), if_neg (by omega), if_pos (by omega)]; congr 1; omega
        have hl' : lenC n = 3 := by rw [hl, if_neg (by omega), if_neg (by omega), if_pos (by omega)]
        have hc : (n / 4096 * 64 + (128 + n / 64 % 64) % 64) * 64 + (128 + n % 64) % 64 = n := by omega
        rw [if_pos h3]
        simp only [List.cons_append, List.nil_append, firstP, e0, hh, List.length_cons]
        rw [if_neg (by omega)]
        simp only [Nat.reduceSub, List.take_succ_cons, List.take_zero, contN, e1, e2]
        rw [if_neg (by omega), if_neg (by omega), hc]
        simp [hl']
      · have e0 : (UInt8.ofNat (240 + n / 262144)).toNat = 240 + n / 262144 := u8_ofNat_toNat (by omega)
        have e1 : (UInt8.ofNat (128 + n / 4096 % 64)).toNat = 128 + n / 4096 % 64 := u8_ofNat_toNat (by omega)
        have e2 : (UInt8.ofNat (128 + n / 64 % 64)).toNat = 128 + n / 64 % 64 := u8_ofNat_toNat (by omega)
        have e3 : (UInt8.ofNat (128 + n % 64)).toNat = 128 + n % 64 := u8_ofNat_toNat (by omega)
        have hh : headN (240 + n / 262144) = (4, n / 262144) := by unfold headN; rw [if_neg (by omega), if_neg (by omega), if_neg (by omega), if_pos (by omega)]; congr 1; omega
        have hl' : lenC n = 4 := by rw [hl, if_neg (by omega), if_neg (by omega), if_neg (by omega)]
        have hc : ((n / 262144 * 64 + (128 + n / 4096 % 64) % 64) * 64 + (128 + n / 64 % 64) % 64) * 64 + (128 + n % 64) % 64 = n := by omega
        rw [if_neg h3]
        simp only [List.cons_append, List.nil_append, firstP, e0, hh, List.length_cons]
        rw [if_neg (by omega)]
        simp only [Nat.reduceSub, List.take_succ_cons, List.take_zero, contN, e1, e2, e3]
        rw [if_neg (by omega), if_neg (by omega), if_neg (by omega), hc]
        simp [hl']

theorem u8_eq {b : UInt8} {n : Nat} (h : b.toNat = n) : UInt8.ofNat n = b := by subst h; simp

theorem firstP_some (l : List UInt8) (h : (firstP l).2 ≠ 0) : scalarB (firstP l).1 = true ∧ (firstP l).2 = lenC (firstP l).1 ∧ (firstP l).2 ≤ l.length ∧ l.take (firstP l).2 = encN (firstP l).1 := by
  cases l with
  | nil => simp [firstP] at h
  | cons b r =>
    have hb := b.toNat_lt
    simp only [firstP] at h ⊢
    by_cases h0 : (headN b.toNat).1 = 0 ∨ r.length + 1 < (headN b.toNat).1
    · rw [if_pos h0] at h; simp at h
    · rw [if_neg h0] at h ⊢
      cases hc : contN (headN b.toNat).2 (r.take ((headN b.toNat).1 - 1)) with
      | none => rw [hc] at h; simp at h
      | some c =>
        rw [hc] at h
        simp only at h ⊢
        by_cases hl : lenC c = (headN b.toNat).1
        · rw [if_pos hl]
          have hsc : scalarB c = true := lenC_pos (by rw [hl]; omega)
          have hs := (scalarB_iff c).1 hsc
          refine ⟨hsc, hl.symm, by simp; omega, ?_⟩
          have hlc : lenC c = if (c : Int) ≤ 127 then 1 else if (c : Int) ≤ 2047 then 2 else if (c : Int) ≤ 65535 then 3 else 4 := by unfold lenC; rw [if_pos hsc]
          rw [hlc] at hl
          unfold headN at hl hc h0 ⊢
          by_cases b1 : b.toNat ≤ 127
          · simp only [if_pos b1] at hl hc ⊢
            simp [contN] at hc
            subst hc
            unfold encN
            rw [if_pos (by omega)]
            simp
          · simp only [if_neg b1] at hl hc h0 ⊢
            by_cases b2 : 192 ≤ b.toNat ∧ b.toNat ≤ 223
            · simp only [if_pos b2] at hl hc h0 ⊢
              match r, h0 with
              | x1 :: r', _ =>
                have hx1 := x1.toNat_lt
                simp only [Nat.reduceSub, List.take_succ_cons, List.take_zero, contN] at hc ⊢
                split at hc
                · cases hc
                · rename_i c1
                  simp only [Option.some.injEq] at hc
                  have hr : 128 ≤ c ∧ c < 2048 := by
                    by_cases k1 : (c : Int) ≤ 127
                    · rw [if_pos k1] at hl; omega
                    · rw [if_neg k1] at hl
                      by_cases k2 : (c : Int) ≤ 2047
                      · omega
                      · rw [if_neg k2] at hl; split at hl <;> omega
                  unfold encN
                  rw [if_neg (by omega), if_pos (by omega), u8_eq (b := b) (by omega), u8_eq (b := x1) (by omega)]
              | [], h0 => simp at h0
            · simp only [if_neg b2] at hl hc h0 ⊢
              by_cases b3 : 224 ≤ b.toNat ∧ b.toNat ≤ 239
              · simp only [if_pos b3] at hl hc h0 ⊢
                match r, h0 with
                | x1 :: x2 :: r', _ =>
                  have hx1 := x1.toNat_lt
                  have hx2 := x2.toNat_lt
                  simp only [Nat.reduceSub, List.take_succ_cons, List.take_zero, contN] at hc ⊢
                  split at hc
                  · cases hc
                  · rename_i c1
                    split at hc
                    · cases hc
                    · rename_i c2
                      simp only [Option.some.injEq] at hc
                      have hr : 2048 ≤ c ∧ c < 65536 := by
                        by_cases k1 : (c : Int) ≤ 127
                        · rw [if_pos k1] at hl; omega
                        · rw [if_neg k1] at hl
                          by_cases k2 : (c : Int) ≤ 2047
                          · rw [if_pos k2] at hl; omega
                          · rw [if_neg k2] at hl; split at hl <;> omega
                      unfold encN
                      rw [if_neg (by omega), if_neg (by omega), if_pos (by omega), u8_eq (b := b) (by omega), u8_eq (b := x1) (by omega), u8_eq (b := x2) (by omega)]
                | [], h0 => simp at h0
                | [_], h0 => simp at h0
              · simp only [if_neg b3] at hl hc h0 ⊢
                by_cases b4 : 240 ≤ b.toNat ∧ b.toNat ≤ 247
                · simp only [if_pos b4] at hl hc h0 ⊢
                  match r, h0 with
                  | x1 :: x2 :: x3 :: r', _ =>
                    have hx1 := x1.toNat_lt
                    have hx2 := x2.toNat_lt
                    have hx3 := x3.toNat_lt
                    simp only [Nat.reduceSub, List.take_succ_cons, List.take_zero, contN] at hc ⊢
                    split at hc
                    · cases hc
                    · rename_i c1
                      split at hc
                      · cases hc
                      · rename_i c2
                        split at hc
                        · cases hc
                        · rename_i c3
                          simp only [Option.some.injEq] at hc
                          have hr : 65536 ≤ c := by
                            by_cases k1 : (c : Int) ≤ 127
                            · rw [if_pos k1] at hl; omega
                            · rw [if_neg k1] at hl
                              by_cases k2 : (c : Int) ≤ 2047
                              · rw [if_pos k2] at hl; omega
                              · rw [if_neg k2] at hl; split at hl <;> omega
                          unfold encN
                          rw [if_neg (by omega), if_neg (by omega), if_neg (by omega), u8_eq (b := b) (by omega), u8_eq (b := x1) (by omega), u8_eq (b := x2) (by omega), u8_eq (b := x3) (by omega)]
                  | [], h0 => simp at h0
                  | [_], h0 => simp at h0
                  | [_, _], h0 => simp at h0
                · simp only [if_neg b4] at h0
                  simp at h0
        · rw [if_neg hl] at h; simp at h

/-! ### The reference's way to the first scalar value -/

def byteAt (l : List UInt8) (i : Nat) : Int := ((l.getD i 0).toNat : Int)
def valN (n : Nat) (l : List UInt8) : Int :=
  if n = 1 then byteAt l 0
  else if n = 2 then (byteAt l 0 - 192) * 64 + byteAt l 1 - 128
  else if n = 3 then (byteAt l 0 - 224) * 4096 + (byteAt l 1 - 128) * 64 + byteAt l 2 - 128
  else (byteAt l 0 - 240) * 262144 + (byteAt l 1 - 128) * 4096 + (byteAt l 2 - 128) * 64 + byteAt l 3 - 128

theorem firstP_zero (l : List UInt8) (h : (firstP l).2 = 0) : (firstP l).1 = 0 := by
  cases l with
  | nil => rfl
  | cons b r =>
    simp only [firstP] at h ⊢
    split
    · rfl
    · rename_i h0
      rw [if_neg h0] at h
      split
      · rfl
      · rename_i c hc
        rw [hc] at h
        simp only at h ⊢
        split
        · rename_i hl
          rw [if_pos hl] at h
          simp only at h
          exact absurd (.inl h) h0
        · rfl

theorem valN_enc {c : Nat} (t : List UInt8) (h : scalarB c = true) : valN (lenC c) (encN c ++ t) = c := by
  have hs := (scalarB_iff c).1 h
  have hl : lenC c = if (c : Int) ≤ 127 then 1 else if (c : Int) ≤ 2047 then 2 else if (c : Int) ≤ 65535 then 3 else 4 := by unfold lenC; rw [if_pos h]
  unfold encN
  by_cases h1 : c < 128
  · rw [hl, if_pos (by omega), if_pos h1]
    simp [valN, byteAt, u8_ofNat_toNat (show c < 256 by omega)]
  · rw [if_neg h1]
    by_cases h2 : c < 2048
    · rw [hl, if_neg (by omega), if_pos (by omega), if_pos h2]
      simp only [valN, byteAt, List.cons_append, List.nil_append, List.getD_cons_zero, List.getD_cons_succ, u8_ofNat_toNat (show 192 + c / 64 < 256 by omega), u8_ofNat_toNat (show 128 + c % 64 < 256 by omega)]
      simp only [Nat.reduceEqDiff, if_true, if_false]
      omega
    · rw [if_neg h2]
      by_cases h3 : c < 65536
      · rw [hl, if_neg (by omega), if_neg (by omega), if_pos (by omega), if_pos h3]
        simp only [valN, byteAt, List.cons_append, List.nil_append, List.getD_cons_zero, List.getD_cons_succ, u8_ofNat_toNat (show 224 + c / 4096 < 256 by omega), u8_ofNat_toNat (show 128 + c / 64 % 64 < 256 by omega), u8_ofNat_toNat (show 128 + c % 64 < 256 by omega)]
        simp only [Nat.reduceEqDiff, if_true, if_false]
        omega
      · rw [hl, if_neg (by omega), if_neg (by omega), if_neg (by omega), if_neg h3]
        simp only [valN, byteAt, List.cons_append, List.nil_append, List.getD_cons_zero, List.getD_cons_succ, u8_ofNat_toNat (show 240 + c / 262144 < 256 by omega), u8_ofNat_toNat (show 128 + c / 4096 % 64 < 256 by omega), u8_ofNat_toNat (show 128 + c / 64 % 64 < 256 by omega), u8_ofNat_toNat (show 128 + c % 64 < 256 by omega)]
        simp only [Nat.reduceEqDiff, if_false]
        omega

/-- The reference's test for n bytes, and what it means. -/
theorem ref_test {l : List UInt8} {n : Nat} (h1 : 1 ≤ n) :
    (lenC (valN n l) = n ∧ encC (valN n l) = l.take n) ↔ (firstP l).2 = n := by
  constructor
  · intro ⟨a, b⟩
    have hsc : scalarB (valN n l) = true := lenC_pos (by omega)
    have hs := (scalarB_iff _).1 hsc
    obtain ⟨c, hc⟩ := Int.eq_ofNat_of_zero_le hs.1
    rw [hc] at a b hsc
    have hf := firstP_enc (l.drop n) hsc
    have hb : encN c = l.take n := by simpa [encC] using b
    rw [hb, List.take_append_drop] at hf
    rw [hf]; exact a
  · intro h
    obtain ⟨a, b, c, d⟩ := firstP_some l (by omega)
    have hv := valN_enc (l.drop n) a
    rw [← d, h, List.take_append_drop, ← b, h] at hv
    rw [hv]
    exact ⟨by rw [← b, h], by rw [encC, Int.toNat_natCast, ← d, h]⟩
theorem ref_val {l : List UInt8} {n : Nat} (h1 : 1 ≤ n) (h : (firstP l).2 = n) : valN n l = (firstP l).1 := by
  obtain ⟨a, b, c, d⟩ := firstP_some l (by omega)
  have hv := valN_enc (l.drop n) a
  rw [← d, h, List.take_append_drop, ← b, h] at hv
  exact hv

/-! ### All scalar values of a string -/

def scanF : Nat → List UInt8 → List Int × Nat
  | 0, _ => ([], 0)
  | f + 1, l => if (firstP l).2 = 0 then ([], 0) else (((firstP l).1 : Int) :: (scanF f (l.drop (firstP l).2)).1, (firstP l).2 + (scanF f (l.drop (firstP l).2)).2)
def scanL (l : List UInt8) : List Int × Nat := scanF l.length l
def encAll (cs : List Int) : List UInt8 := cs.flatMap encC

theorem scanF_succ (f : Nat) (l : List UInt8) : scanF (f + 1) l = if (firstP l).2 = 0 then ([], 0) else (((firstP l).1 : Int) :: (scanF f (l.drop (firstP l).2)).1, (firstP l).2 + (scanF f (l.drop (firstP l).2)).2) := rfl
theorem scanF_more (f : Nat) : ∀ l : List UInt8, l.length ≤ f → scanF (f + 1) l = scanF f l := by
  induction f with
  | zero =>
    intro l h
    have : l = [] := List.eq_nil_of_length_eq_zero (by omega)
    subst this
    simp [scanF, firstP]
  | succ f ih =>
    intro l h
    rw [scanF_succ (f + 1) l, scanF_succ f l]
    by_cases h0 : (firstP l).2 = 0
    · rw [if_pos h0, if_pos h0]
    · rw [if_neg h0, if_neg h0, ih _ (by rw [List.length_drop]; omega)]
theorem scanF_eq (f : Nat) (l : List UInt8) (h : l.length ≤ f) : scanF f l = scanL l := by
  obtain ⟨d, rfl⟩ : ∃ d, f = l.length + d := ⟨f - l.length, by omega⟩
  clear h
  induction d with
  | zero => rfl
  | succ d ih => rw [← Nat.add_assoc, scanF_more _ _ (by omega)]; exact ih
theorem scanL_eq (l : List UInt8) : scanL l = if (firstP l).2 = 0 then ([], 0) else (((firstP l).1 : Int) :: (scanL (l.drop (firstP l).2)).1, (firstP l).2 + (scanL (l.drop (firstP l).2)).2) := by
  rw [← scanF_eq (l.length + 1) l (by omega), scanF_succ, scanF_eq l.length _ (by rw [List.length_drop]; omega)]

theorem scanL_le (f : Nat) : ∀ l : List UInt8, l.length ≤ f → (scanL l).2 ≤ l.length ∧ encAll (scanL l).1 = l.take (scanL l).2 ∧ ∀ c ∈ (scanL l).1, scalarB c = true := by
  induction f with
  | zero =>
    intro l h
    have : l = [] := List.eq_nil_of_length_eq_zero (by omega)
    subst this
    simp [scanL, scanF, encAll]
  | succ f ih =>
    intro l h
    rw [scanL_eq]
    by_cases h0 : (firstP l).2 = 0
    · rw [if_pos h0]; simp [encAll]
    · rw [if_neg h0]
      obtain ⟨a, b, c, d⟩ := firstP_some l h0
      obtain ⟨i1, i2, i3⟩ := ih (l.drop (firstP l).2) (by rw [List.length_drop]; omega)
      rw [List.length_drop] at i1
      refine ⟨by simp only; omega, ?_, ?_⟩
      · show encC _ ++ encAll _ = _
        rw [i2, encC, Int.toNat_natCast, ← d, List.take_add]
      · intro x hx
        rcases List.mem_cons.1 hx with rfl | hx
        · exact a
        · exact i3 x hx

theorem scanL_enc (cs : List Int) (t : List UInt8) (h : ∀ c ∈ cs, scalarB c = true) : scanL (encAll cs ++ t) = (cs ++ (scanL t).1, (encAll cs).length + (scanL t).2) := by
  induction cs with
  | nil => simp [encAll]
  | cons c cs ih =>
    have hc := h c (by simp)
    have hs := (scalarB_iff c).1 hc
    obtain ⟨n, rfl⟩ := Int.eq_ofNat_of_zero_le hs.1
    have hl := lenC_encC hc
    have hf := firstP_enc (encAll cs ++ t) hc
    have e : encAll ((n : Int) :: cs) ++ t = encN n ++ (encAll cs ++ t) := by simp [encAll, encC]
    have hn : (encN n).length = lenC n := by simpa [encC] using hl.1
    rw [e, scanL_eq, hf]
    simp only
    rw [if_neg (by omega), ← hn, List.drop_left, ih (fun x hx => h x (by simp [hx]))]
    simp only [List.cons_append, Prod.mk.injEq, true_and]
    simp [encAll, encC]; omega

theorem scanL_nil : scanL [] = ([], 0) := rfl
theorem scanL_all (cs : List Int) (h : ∀ c ∈ cs, scalarB c = true) : scanL (encAll cs) = (cs, (encAll cs).length) := by
  have := scanL_enc cs [] h
  simpa [scanL_nil] using this

/-- Decode: the scalar values, the position of the error, the error. -/
def decodeL (l : List UInt8) : List Int × Nat × Nat :=
  if 4096 < l.length then ([], 0, 7) else if (scanL l).2 < l.length then ([], (scanL l).2, 9) else ((scanL l).1, 0, 0)
/-- Encode: the bytes, the error. -/
def encodeL (cs : List Int) : List UInt8 × Nat :=
  if 4096 < cs.length then ([], 7) else if cs.all scalarB then (encAll cs, 0) else ([], 3)
end ND
/-
  Plain mathematics of chapter 4, first part: tables, values of spans, sequences of mappings, fixed properties. No program in sight.
-/
namespace ND
open Go

/-- From, To. -/
abbrev Mp := Int × List Int
structure Tab where
  category : List Sp
  cls : List Sp
  joining : List Sp
  bidi : List Sp
  script : List Sp
  status : List Sp
  ignorable : List Sp
  extensions : List Mp
  maps : List Mp
  decomps : List Mp
  excluded : List Int
  prototypes : List Mp

def sylB (c : Int) : Bool := decide (44032 ≤ c ∧ c ≤ 55203)
def jamoB (c : Int) : Bool := decide (4352 ≤ c ∧ c ≤ 4370 ∨ 4449 ≤ c ∧ c ≤ 4469 ∨ 4520 ≤ c ∧ c ≤ 4546)
def surB (c : Int) : Bool := decide (55296 ≤ c ∧ c ≤ 57343)
def resB (c : Int) : Bool := decide (0 ≤ c ∧ c ≤ 127 ∨ 55296 ≤ c ∧ c ≤ 57343 ∨ 44032 ≤ c ∧ c ≤ 55203 ∨ 4352 ≤ c ∧ c ≤ 4370 ∨ 4449 ≤ c ∧ c ≤ 4469 ∨ 4520 ≤ c ∧ c ≤ 4546)
def nameB (c : Int) : Bool := decide (97 ≤ c ∧ c ≤ 122 ∨ 48 ≤ c ∧ c ≤ 57 ∨ c = 45)
theorem sylB_iff (c : Int) : sylB c = true ↔ 44032 ≤ c ∧ c ≤ 55203 := by unfold sylB; simp
theorem jamoB_iff (c : Int) : jamoB c = true ↔ (4352 ≤ c ∧ c ≤ 4370 ∨ 4449 ≤ c ∧ c ≤ 4469 ∨ 4520 ≤ c ∧ c ≤ 4546) := by unfold jamoB; simp
theorem surB_iff (c : Int) : surB c = true ↔ 55296 ≤ c ∧ c ≤ 57343 := by unfold surB; simp
theorem resB_iff (c : Int) : resB c = true ↔ (0 ≤ c ∧ c ≤ 127 ∨ 55296 ≤ c ∧ c ≤ 57343 ∨ 44032 ≤ c ∧ c ≤ 55203 ∨ 4352 ≤ c ∧ c ≤ 4370 ∨ 4449 ≤ c ∧ c ≤ 4469 ∨ 4520 ≤ c ∧ c ≤ 4546) := by unfold resB; simp
theorem resB_not (c : Int) : resB c = false ↔ ¬(0 ≤ c ∧ c ≤ 127 ∨ 55296 ≤ c ∧ c ≤ 57343 ∨ 44032 ≤ c ∧ c ≤ 55203 ∨ 4352 ≤ c ∧ c ≤ 4370 ∨ 4449 ≤ c ∧ c ≤ 4469 ∨ 4520 ≤ c ∧ c ≤ 4546) := by unfold resB; rw [decide_eq_false_iff_not]
theorem nameB_iff (c : Int) : nameB c = true ↔ (97 ≤ c ∧ c ≤ 122 ∨ 48 ≤ c ∧ c ≤ 57 ∨ c = 45) := by unfold nameB; simp

/-- The value of a code point in a list of spans, or 0. -/
def valueL : List Sp → Int → Int
  | [], _ => 0
  | s :: r, c => if s.1 ≤ c ∧ c ≤ s.2.1 then s.2.2 else valueL r c
/-- The sequence of a code point, or the empty one. -/
def findL : List Mp → Int → List Int
  | [], _ => []
  | m :: r, c => if m.1 = c then m.2 else findL r c

/-- The first spans end ahead of the next ones' beginnings. -/
def sortS (l : List Sp) : Prop := ∃ lo hi, okS lo hi (-1) l = true
theorem sortS_of_check {l : List Sp} {lo hi : Int} (h : checkS l lo hi = true) : sortS l := by
  unfold checkS at h
  rw [Bool.and_eq_true] at h
  exact ⟨lo, hi, h.1⟩
theorem okS_at {lo hi : Int} {l : List Sp} : ∀ {last : Int}, okS lo hi last l = true → ∀ {i j : Nat} {a b : Sp}, i < j → l[i]? = some a → l[j]? = some b → a.1 ≤ a.2.1 ∧ a.2.1 < b.1 := by
  induction l with
  | nil => intro last _ i j a b _ h; simp at h
  | cons s r ih =>
    intro last h i j a b hij ha hb
    obtain ⟨h1, h2⟩ := okS_cons.1 h
    cases j with
    | zero => omega
    | succ j =>
      cases i with
      | zero =>
        simp at ha hb
        subst ha
        have : ∀ {last : Int} {r : List Sp}, okS lo hi last r = true → ∀ {j : Nat} {b : Sp}, r[j]? = some b → last < b.1 := by
          intro last r
          induction r generalizing last with
          | nil => intro _ j b h; simp at h
          | cons t r ih' =>
            intro h j b hb
            obtain ⟨g1, g2⟩ := okS_cons.1 h
            cases j with
            | zero => simp at hb; subst hb; exact g1.1
            | succ j => have := ih' g2 (j := j) (by simpa using hb); omega
        exact ⟨h1.2.1, this h2 hb⟩
      | succ i => exact ih h2 (i := i) (j := j) (by omega) (by simpa using ha) (by simpa using hb)
theorem okS_el {lo hi : Int} {l : List Sp} : ∀ {last : Int}, okS lo hi last l = true → ∀ {i : Nat} {a : Sp}, l[i]? = some a → last < a.1 ∧ a.1 ≤ a.2.1 ∧ a.2.1 ≤ 1114111 ∧ lo ≤ a.1 ∧ a.2.1 ≤ hi := by
  induction l with
  | nil => intro last _ i a h; simp at h
  | cons s r ih =>
    intro last h i a ha
    obtain ⟨h1, h2⟩ := okS_cons.1 h
    cases i with
    | zero => simp at ha; subst ha; exact h1
    | succ i =>
      have := ih h2 (i := i) (by simpa using ha)
      omega

/-- What the search for a code point comes to: k is the first place whose span ends at c or behind it. -/
theorem valueL_at {l : List Sp} {c : Int} {k : Nat} (h0 : ∀ i a, i < k → l[i]? = some a → a.2.1 < c) {a : Sp} (ha : l[k]? = some a) (hc : a.1 ≤ c) (hc' : c ≤ a.2.1) : valueL l c = a.2.2 := by
  induction l generalizing k with
  | nil => simp at ha
  | cons s r ih =>
    cases k with
    | zero => simp at ha; subst ha; rw [valueL, if_pos ⟨hc, hc'⟩]
    | succ k =>
      have h1 := h0 0 s (by omega) rfl
      rw [valueL, if_neg (by omega)]
      exact ih (k := k) (fun i a hi h => h0 (i + 1) a (by omega) (by simpa using h)) (by simpa using ha)
theorem valueL_no {l : List Sp} {c : Int} (h : ∀ (i : Nat) (a : Sp), l[i]? = some a → ¬(a.1 ≤ c ∧ c ≤ a.2.1)) : valueL l c = 0 := by
  induction l with
  | nil => rfl
  | cons s r ih => rw [valueL, if_neg (h 0 s rfl)]; exact ih (fun i a hi => h (i + 1) a (by simpa using hi))
theorem valueL_miss {l : List Sp} {c : Int} {k : Nat} {lo hi : Int} (hs : okS lo hi (-1) l = true) (h0 : ∀ i a, i < k → l[i]? = some a → a.2.1 < c) (h1 : ∀ a, l[k]? = some a → c < a.1) : valueL l c = 0 := by
  refine valueL_no fun i a hi => ?_
  rcases Nat.lt_trichotomy i k with h | h | h
  · have := h0 i a h hi; omega
  · subst h; have := h1 a hi; omega
  · have hk : k < l.length := by have := (List.getElem?_eq_some_iff.1 hi).1; omega
    have hk' : l[k]? = some l[k] := List.getElem?_eq_getElem hk
    have := okS_at hs h hk' hi
    have := h1 _ hk'
    omega

/-- Keys of mappings ascend. -/
def sortM (l : List Mp) : Prop := ∀ (i j : Nat) (a b : Mp), i < j → l[i]? = some a → l[j]? = some b → a.1 < b.1
theorem findL_at {l : List Mp} {c : Int} {k : Nat} (h0 : ∀ i a, i < k → l[i]? = some a → a.1 < c) {a : Mp} (ha : l[k]? = some a) (hc : a.1 = c) : findL l c = a.2 := by
  induction l generalizing k with
  | nil => simp at ha
  | cons s r ih =>
    cases k with
    | zero => simp at ha; subst ha; rw [findL, if_pos hc]
    | succ k =>
      have h1 := h0 0 s (by omega) rfl
      rw [findL, if_neg (by omega)]
      exact ih (k := k) (fun i a hi h => h0 (i + 1) a (by omega) (by simpa using h)) (by simpa using ha)
theorem findL_no {l : List Mp} {c : Int} (h : ∀ (i : Nat) (a : Mp), l[i]? = some a → a.1 ≠ c) : findL l c = [] := by
  induction l with
  | nil => rfl
  | cons s r ih => rw [findL, if_neg (h 0 s rfl)]; exact ih (fun i a hi => h (i + 1) a (by simpa using hi))
theorem findL_miss {l : List Mp} {c : Int} {k : Nat} (hs : sortM l) (h0 : ∀ i a, i < k → l[i]? = some a → a.1 < c) (h1 : ∀ a, l[k]? = some a → c ≠ a.1 ∧ c ≤ a.1) : findL l c = [] := by
  refine findL_no fun i a hi => ?_
  rcases Nat.lt_trichotomy i k with h | h | h
  · have := h0 i a h hi; omega
  · subst h; have := h1 a hi; omega
  · have hk : k < l.length := by have := (List.getElem?_eq_some_iff.1 hi).1; omega
    have hk' : l[k]? = some l[k] := List.getElem?_eq_getElem hk
    have := hs k i _ _ h hk' hi
    have := h1 _ hk'
    omega
theorem findL_mem {l : List Mp} {c : Int} (h : findL l c ≠ []) : (c, findL l c) ∈ l := by
  induction l with
  | nil => exact absurd rfl h
  | cons s r ih =>
    rw [findL] at h ⊢
    split at h
    · rename_i hc; rw [if_pos hc]; obtain ⟨a, b⟩ := s; simp only at hc; subst hc; exact List.mem_cons_self
    · rename_i hc; rw [if_neg hc]; exact List.mem_cons_of_mem _ (ih h)

/-- The fixed properties: category, Bidi class, script, status. -/
def fixC (c : Int) : Int × Int × Int × Int :=
  if 97 ≤ c ∧ c ≤ 122 then (1, 0, 3, 1)
  else if 65 ≤ c ∧ c ≤ 90 then (1, 0, 3, 3)
  else if 48 ≤ c ∧ c ≤ 57 then (3, 4, 1, 1)
  else if c = 45 then (5, 5, 1, 1)
  else if c = 46 then (5, 6, 1, 1)
  else if c = 32 then (7, 11, 1, 0)
  else if c < 32 ∨ c = 127 then (8, 11, 1, 0)
  else if c < 127 then (5, 8, 1, 0)
  else if 44032 ≤ c ∧ c ≤ 55203 then (1, 0, 9, 1)
  else if 4352 ≤ c ∧ c ≤ 4370 ∨ 4449 ≤ c ∧ c ≤ 4469 ∨ 4520 ≤ c ∧ c ≤ 4546 then (1, 0, 9, 0)
  else (0, 0, 0, 0)
/-- A property: own for a reserved code point, else the list's. -/
def propL (l : List Sp) (own c : Int) : Int := if lenC c = 0 then 0 else if resB c = true then own else valueL l c
def Tab.categoryOf (T : Tab) (c : Int) : Int := propL T.category (fixC c).1 c
def Tab.bidiOf (T : Tab) (c : Int) : Int := propL T.bidi (fixC c).2.1 c
def Tab.scriptOf (T : Tab) (c : Int) : Int := propL T.script (fixC c).2.2.1 c
def Tab.statusOf (T : Tab) (c : Int) : Int := propL T.status (fixC c).2.2.2 c
def Tab.classOf (T : Tab) (c : Int) : Int := valueL T.cls c
def Tab.joiningOf (T : Tab) (c : Int) : Int := valueL T.joining c
def Tab.ignB (T : Tab) (c : Int) : Bool := valueL T.ignorable c == 1
def Tab.excB (T : Tab) (c : Int) : Bool := decide (c ∈ T.excluded)
/-- What a code point is mapped to. -/
def Tab.mapsOf (T : Tab) (c : Int) : List Int := if 65 ≤ c ∧ c ≤ 90 then [c + 32] else findL T.maps c
end ND
