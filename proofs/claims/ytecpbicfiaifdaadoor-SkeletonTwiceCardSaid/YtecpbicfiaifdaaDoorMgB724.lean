/-
  Merged texts: lemmas and walks that the last text of this claim leans on.
-/
import Derived.Test.YtecpbicfiaifdaaDoorMgB723
import Derived.Test.YtecpbicfiaifdaaDoorMgB715
import Derived.Deep.DeepHandedRow
import Derived.Test.YtecpbicfiaifdaaDoorRows
import Derived.WalkKit
import Derived.ProofKit
import Derived.OpenShut
import Derived.ShutString
import Derived.SizedLaws
import Derived.Test.YtecpbicfiaifdaaDoorMgB72
import Derived.Test.YtecpbicfiaifdaaDoorMgB71
import Derived.Test.YtecpbicfiaifdaaDoorMgB716
import Derived.Test.YtecpbicfiaifdaaDoorProg
import Derived.WalkSpells
import Derived.WalkLawsBesides
import Derived.Lib.Hide
/-
  Plain mathematics of chapter 21: classes of sequences with the same skeleton. No program in sight.
-/
namespace Go.Proofs.YtecpbicfiaifdaaDoor
open Go.RowKit ND

/-- The skeleton of each sequence. -/
def skels (T : Tab) (ls : List (List Int)) : List (List Int) := ls.map fun l => (skelR T l).1
/-- The first error. -/
def firstE (T : Tab) : List (List Int) → Int
  | [] => 0
  | l :: r => if (skelR T l).2 ≠ 0 then (skelR T l).2 else firstE T r
/-- The index of the first that equals s. -/
def firstI (s : List Int) : Nat → List (List Int) → Nat
  | i, [] => i
  | i, x :: r => if x = s then i else firstI s (i + 1) r
def classOfI (ss : List (List Int)) (s : List Int) : Int := (firstI s 0 ss : Nat)
def classesL (T : Tab) (ls : List (List Int)) : List Int := (skels T ls).map (classOfI (skels T ls))
/-- What Classes hands back. -/
def classesR (T : Tab) (ls : List (List Int)) : List Int × Int := if 256 < ls.length then ([], 7) else if firstE T ls ≠ 0 then ([], firstE T ls) else (classesL T ls, 0)
/-- What Twins finds in the classes. -/
def twinsGo : Nat → List Int → Int × Int × Bool
  | _, [] => (0, 0, false)
  | j, i :: r => if i < (j : Int) then (i, (j : Int), true) else twinsGo (j + 1) r
def twinsR (T : Tab) (ls : List (List Int)) : Int × Int × Bool := twinsGo 0 (classesR T ls).1
/-- The first index at which two lists differ, or -1. -/
def diffGo : Nat → List Int → List Int → Int
  | _, [], [] => -1
  | i, [], _ :: _ => i
  | i, _ :: _, [] => i
  | i, x :: a, y :: b => if x = y then diffGo (i + 1) a b else i
def differL (x y : List Int) : Int := diffGo 0 x y
/-- The first of two errors. -/
def bothE (T : Tab) (a b : List Int) : Int := if (skelR T a).2 ≠ 0 then (skelR T a).2 else (skelR T b).2
def differR (T : Tab) (a b : List Int) : Int × Int := if bothE T a b ≠ 0 then (0, bothE T a b) else (differL (skelR T a).1 (skelR T b).1, 0)
def sameR (T : Tab) (a b : List Int) : Bool × Int := (bothE T a b == 0 && decide ((skelR T a).1 = (skelR T b).1), bothE T a b)

theorem firstE_zero {T : Tab} : ∀ {ls : List (List Int)}, firstE T ls = 0 ↔ ∀ l ∈ ls, (skelR T l).2 = 0 := by
  intro ls
  induction ls with
  | nil => simp [firstE]
  | cons l r ih =>
    rw [firstE]
    by_cases h : (skelR T l).2 = 0
    · rw [if_neg (by omega), ih]; simp [h]
    · rw [if_pos h]; simp [h]
theorem firstE_step {T : Tab} {ls : List (List Int)} {i : Nat} {l : List Int} (hl : ls[i]? = some l) : firstE T (ls.drop i) = if (skelR T l).2 ≠ 0 then (skelR T l).2 else firstE T (ls.drop (i + 1)) := by
  obtain ⟨h1, e⟩ := List.getElem?_eq_some_iff.1 hl
  rw [List.drop_eq_getElem_cons h1, e, firstE]
theorem firstI_shift (s : List Int) : ∀ (ss : List (List Int)) (i : Nat), firstI s i ss = firstI s 0 ss + i := by
  intro ss
  induction ss with
  | nil => intro i; simp [firstI]
  | cons x r ih =>
    intro i
    rw [firstI, firstI]
    split
    · omega
    · rw [ih (i + 1), ih (0 + 1)]; omega
theorem firstI_le (s : List Int) : ∀ ss : List (List Int), firstI s 0 ss ≤ ss.length := by
  intro ss
  induction ss with
  | nil => simp [firstI]
  | cons x r ih =>
    rw [firstI]
    split
    · omega
    · rw [firstI_shift, List.length_cons]; omega
/-- The first that equals s, found. -/
theorem firstI_at {s : List Int} : ∀ {ss : List (List Int)} {k : Nat}, ss[k]? = some s → (∀ j x, j < k → ss[j]? = some x → x ≠ s) → firstI s 0 ss = k := by
  intro ss
  induction ss with
  | nil => intro k h; simp at h
  | cons x r ih =>
    intro k h hn
    rw [firstI]
    cases k with
    | zero => simp at h; rw [if_pos h]
    | succ k =>
      rw [if_neg (hn 0 x (by omega) (by simp)), firstI_shift, ih (by simpa using h) fun j y hj hy => hn (j + 1) y (by omega) (by simpa using hy)]
theorem firstI_spec {s : List Int} {ss : List (List Int)} {i : Nat} (h : ss[i]? = some s) : firstI s 0 ss ≤ i ∧ ss[firstI s 0 ss]? = some s ∧ ∀ j x, j < firstI s 0 ss → ss[j]? = some x → x ≠ s := by
  have key : ∀ (n : Nat), (∃ k, k ≤ n ∧ ss[k]? = some s) → ∃ k, k ≤ n ∧ ss[k]? = some s ∧ ∀ j x, j < k → ss[j]? = some x → x ≠ s := by
    intro n
    induction n with
    | zero => rintro ⟨k, hk, e⟩; exact ⟨k, hk, e, fun j x hj => by omega⟩
    | succ n ih =>
      rintro ⟨k, hk, e⟩
      by_cases h1 : ∃ k, k ≤ n ∧ ss[k]? = some s
      · obtain ⟨k', h2, h3, h4⟩ := ih h1
        exact ⟨k', by omega, h3, h4⟩
      · refine ⟨k, hk, e, fun j x hj hx hxs => h1 ⟨j, by omega, ?_⟩⟩
        rw [hx, hxs]
  obtain ⟨k, h1, h2, h3⟩ := key i ⟨i, Nat.le_refl _, h⟩
  rw [firstI_at h2 h3]
  exact ⟨h1, h2, h3⟩
/-- Two have the same class exactly if they are the same. -/
theorem classOfI_eq {ss : List (List Int)} {s u : List Int} {i j : Nat} (hs : ss[i]? = some s) (hu : ss[j]? = some u) : classOfI ss s = classOfI ss u ↔ s = u := by
  constructor
  · intro h
    unfold classOfI at h
    have h1 := (firstI_spec hs).2.1
    have h2 := (firstI_spec hu).2.1
    rw [show firstI s 0 ss = firstI u 0 ss by omega] at h1
    rw [h1] at h2; cases h2; rfl
  · rintro rfl; rfl
theorem skels_at {T : Tab} {ls : List (List Int)} {i : Nat} {l : List Int} (h : ls[i]? = some l) : (skels T ls)[i]? = some (skelR T l).1 := by unfold skels; rw [List.getElem?_map, h]; rfl
theorem classesL_at {T : Tab} {ls : List (List Int)} {i : Nat} {l : List Int} (h : ls[i]? = some l) : (classesL T ls)[i]? = some (classOfI (skels T ls) (skelR T l).1) := by unfold classesL; rw [List.getElem?_map, skels_at h]; rfl
theorem classesL_length (T : Tab) (ls : List (List Int)) : (classesL T ls).length = ls.length := by unfold classesL skels; simp
theorem skels_length (T : Tab) (ls : List (List Int)) : (skels T ls).length = ls.length := by unfold skels; simp
/-- The class of the i-th, out of those ahead of it. -/
theorem class_hit {T : Tab} {ls : List (List Int)} {k : Nat} {l x : List Int} (hx : ls[k]? = some x) (he : (skelR T x).1 = (skelR T l).1) (hn : ∀ j y, j < k → ls[j]? = some y → (skelR T y).1 ≠ (skelR T l).1) : classOfI (skels T ls) (skelR T l).1 = (k : Int) := by
  unfold classOfI
  rw [firstI_at (k := k) (by rw [skels_at hx, he]) fun j y hj hy => ?_]
  unfold skels at hy
  rw [List.getElem?_map] at hy
  cases hz : ls[j]? with
  | none => rw [hz] at hy; cases hy
  | some z => rw [hz] at hy; cases hy; exact hn j z hj hz
theorem class_new {T : Tab} {ls : List (List Int)} {i : Nat} {l : List Int} (hl : ls[i]? = some l) (hn : ∀ j y, j < i → ls[j]? = some y → (skelR T y).1 ≠ (skelR T l).1) : classOfI (skels T ls) (skelR T l).1 = (i : Int) := by
  unfold classOfI
  rw [firstI_at (k := i) (skels_at hl) fun j y hj hy => ?_]
  unfold skels at hy
  rw [List.getElem?_map] at hy
  cases hz : ls[j]? with
  | none => rw [hz] at hy; cases hy
  | some z => rw [hz] at hy; cases hy; exact hn j z hj hz
theorem twins_step {cl : List Int} {j : Nat} {i : Int} (h : cl[j]? = some i) : twinsGo j (cl.drop j) = if i < (j : Int) then (i, (j : Int), true) else twinsGo (j + 1) (cl.drop (j + 1)) := by
  obtain ⟨h1, e⟩ := List.getElem?_eq_some_iff.1 h
  rw [List.drop_eq_getElem_cons h1, e, twinsGo]
theorem twins_end {cl : List Int} {j : Nat} (h : cl.length ≤ j) : twinsGo j (cl.drop j) = (0, 0, false) := by rw [List.drop_of_length_le h]; rfl
/-- The first that has twins. -/
theorem twins_hit {cl : List Int} : ∀ (n j : Nat) {i : Int}, cl[n]? = some i → j ≤ n → i < (n : Int) → (∀ k x, j ≤ k → k < n → cl[k]? = some x → ¬ x < (k : Int)) → twinsGo j (cl.drop j) = (i, (n : Int), true) := by
  intro n j
  induction h : n - j generalizing j with
  | zero =>
    intro i h1 h2 h3 h4
    obtain rfl : j = n := by omega
    rw [twins_step h1, if_pos h3]
  | succ m ih =>
    intro i h1 h2 h3 h4
    obtain ⟨x, hx⟩ : ∃ x, cl[j]? = some x := ⟨_, List.getElem?_eq_getElem (by have := (List.getElem?_eq_some_iff.1 h1).1; omega)⟩
    rw [twins_step hx, if_neg (h4 j x (Nat.le_refl _) (by omega) hx)]
    exact ih (j + 1) (by omega) h1 (by omega) h3 fun k y hk => h4 k y (by omega)
theorem twins_none {cl : List Int} : ∀ (n j : Nat), n = cl.length - j → (∀ k x, j ≤ k → cl[k]? = some x → ¬ x < (k : Int)) → twinsGo j (cl.drop j) = (0, 0, false) := by
  intro n
  induction n with
  | zero => intro j h _; exact twins_end (by omega)
  | succ m ih =>
    intro j h h4
    obtain ⟨x, hx⟩ : ∃ x, cl[j]? = some x := ⟨_, List.getElem?_eq_getElem (by omega)⟩
    rw [twins_step hx, if_neg (h4 j x (Nat.le_refl _) hx)]
    exact ih (j + 1) (by omega) fun k y hk => h4 k y (by omega)
theorem diffGo_neg : ∀ (x y : List Int) (i : Nat), diffGo i x y = -1 ↔ x = y := by
  intro x
  induction x with
  | nil =>
    intro y i
    cases y with
    | nil => simp [diffGo]
    | cons b r => simp only [diffGo]; constructor
                  · intro h; omega
                  · intro h; cases h
  | cons a r ih =>
    intro y i
    cases y with
    | nil => simp only [diffGo]; constructor
             · intro h; omega
             · intro h; cases h
    | cons b s =>
      rw [diffGo]
      by_cases h : a = b
      · rw [if_pos h, ih]; simp [h]
      · rw [if_neg h]; constructor
        · intro h2; omega
        · intro h2; cases h2; exact absurd rfl h
theorem diffGo_ge : ∀ (x y : List Int) (i : Nat), -1 ≤ diffGo i x y := by
  intro x
  induction x with
  | nil => intro y i; cases y <;> simp only [diffGo] <;> omega
  | cons a r ih =>
    intro y i
    cases y with
    | nil => simp only [diffGo]; omega
    | cons b s => rw [diffGo]; split
                  · exact ih s (i + 1)
                  · omega
theorem differL_neg (x y : List Int) : differL x y = -1 ↔ x = y := diffGo_neg x y 0
theorem diff_on {x y : List Int} {i : Nat} {a b : Int} (hx : x[i]? = some a) (hy : y[i]? = some b) : diffGo i (x.drop i) (y.drop i) = if a = b then diffGo (i + 1) (x.drop (i + 1)) (y.drop (i + 1)) else (i : Int) := by
  obtain ⟨h1, e1⟩ := List.getElem?_eq_some_iff.1 hx
  obtain ⟨h2, e2⟩ := List.getElem?_eq_some_iff.1 hy
  rw [List.drop_eq_getElem_cons h1, List.drop_eq_getElem_cons h2, e1, e2, diffGo]
theorem diff_end {x y : List Int} {i : Nat} (h : x.length ≤ i ∨ y.length ≤ i) (hx : i ≤ x.length) (hy : i ≤ y.length) : diffGo i (x.drop i) (y.drop i) = if x.length = y.length then -1 else (i : Int) := by
  rcases h with h | h
  · rw [List.drop_of_length_le h]
    cases hd : y.drop i with
    | nil => have := congrArg List.length hd; simp at this; rw [if_pos (by omega)]; rfl
    | cons b r => have := congrArg List.length hd; simp at this; rw [if_neg (by omega)]; rfl
  · rw [List.drop_of_length_le h]
    cases hd : x.drop i with
    | nil => have := congrArg List.length hd; simp at this; rw [if_pos (by omega)]; rfl
    | cons b r => have := congrArg List.length hd; simp at this; rw [if_neg (by omega)]; rfl
end Go.Proofs.YtecpbicfiaifdaaDoor
/-
  A witness for a row that lists the variable table.blocks: the heap that the door's own run leaves.
-/
namespace Go.Proofs.YtecpbicfiaifdaaDoor
open Go.ChangeShapes Go.WideShapes Go.ChangeAt Go.RowKit

theorem witness_door {H : Type} {enc : TypeId × Value → H} {C : Checked} {os : Os} {f : FuncId} {fn : Func} {s : OpenSpec} {conds : List PathCond} {apart : Bool} {laid : List (String × DataW Unit)} (w0 : World) (args : Array Value) (hos : w0.os = os)
    (hsh : (w0.forCall (fun _ _ => 0) ⟨#[], args, []⟩).Shaped C.prog)
    (hok : Input.okWideB C.prog (w0.forCall (fun _ _ => 0) ⟨#[], args, []⟩) f ⟨#[], args, []⟩ = true)
    (hrow : s.preRow enc C.prog fn conds apart laid (w0.forCall (fun _ _ => 0) ⟨#[], args, []⟩).memory args) :
    ∃ (w : World) (tape : Tape) (i : Input), w.os = os ∧ (w.forCall tape i).Shaped C.prog ∧ i.vars = [] ∧ Input.okWide C.prog (w.forCall tape i) .any w.heap.size f i ∧
      s.preRow enc C.prog fn conds apart laid (w.forCall tape i).memory i.args ∧ ({ modest := false } : Assume).holds C.prog (lone (Frame.enter C.prog f i.args .normal) [] (w.forCall tape i)) :=
  ⟨w0, fun _ _ => 0, ⟨#[], args, []⟩, hos, hsh, (Input.okWide_of_okWideB (base := 0) hok).1, (Input.okWide_of_okWideB hok).2, hrow, by
    simp only [Assume.holds]
    exact ⟨by simp, by simp, fun _ => Modest.zero, by simp, by simp⟩⟩
end Go.Proofs.YtecpbicfiaifdaaDoor
/-
  What every law's row asks of the call, once the walk is there: the call returns true, and below the old heap nothing has turned; so each argument reads as it read.
-/
namespace Go.Proofs.YtecpbicfiaifdaaDoor
open Go.ChangeShapes Go.WideShapes Go.ChangeAt Go.RowKit

theorem Tryd.own_ : ownKnob Tryd.prog.godebug = none := by kernel_rfl
theorem Tryd.laidOut_ : laidOutB Tryd.prog = true := by kernel_rfl

section
variable {H : Type} {enc : TypeId × Value → H} {P : Program} {W W' : World}

theorem trodAll_below (hl : laidOutB P = true) (hb : Below W.heap.size W W') : ∀ (ts : List TypeId) (vs : List Value) (ds : List (DataW H)) (ps : List MemPlace),
    (∀ t ∈ ts, P.readableRec t = true ∧ t < P.types.size) → (∀ x ∈ ps, x.block < W.heap.size) →
    DataW.TrodAll enc P W 0 (fun _ => true) true ts vs ds ps → DataW.TrodAll enc P W' 0 (fun b => decide (b < W.heap.size)) true ts vs ds ps
  | [], [], [], _, _, _, h => h
  | t :: ts, v :: vs, d :: ds, ps, hk, hlt, h => by
    obtain ⟨p, q, hp, hq, rfl⟩ := h
    have ht := hk t (by simp)
    exact ⟨p, q, Below.trod hl ht.1 ht.2 hp hb (fun x hx => hlt x (by simp [hx])),
      trodAll_below hl hb ts vs ds q (fun t h => hk t (by simp [h])) (fun x hx => hlt x (by simp [hx])) hq, rfl⟩
  | [], _ :: _, _, _, _, _, h => by simp [DataW.TrodAll] at h
  | [], [], _ :: _, _, _, _, h => by simp [DataW.TrodAll] at h
  | _ :: _, [], _, _, _, _, h => by simp [DataW.TrodAll] at h
  | _ :: _, _ :: _, [], _, _, _, h => by simp [DataW.TrodAll] at h

theorem law_post {f : Func} {s : ChangeSpec} {tb : TypeId} {args : Array Value} {ds : List (DataW H)} {before : List MemPlace} (hl : laidOutB P = true)
    (hk : ∀ t ∈ f.params.toList, P.readableRec t = true ∧ t < P.types.size) (hres : f.resultTypes = #[tb]) (hbool : P.underlying tb = some .bool) (hvars : s.vars = [])
    (hW : DataW.Whole enc P f.params.toList s.vars false W args.toList ds [] before) (hfn : s.fn H (ds ++ []) = { results := [.lit (.bool true)], args := ds })
    (hb : Below W.heap.size W W') : s.post enc P f false true false false W args (.bool true) W' := by
  have hlt : ∀ x ∈ before, x.block < W.heap.size := fun x hx => hW.lt x hx
  have hW' := hW
  obtain ⟨p, q, hA, hV, rfl, _, _⟩ := hW'
  rw [hvars] at hV
  obtain ⟨_, rfl⟩ := trodVars_none hV
  refine ⟨ds, [], p ++ [], [], p, [], hW, ?_, ?_, ?_, hb.frame _, fun h => by cases h⟩
  · rw [hfn, hres]
    exact trodAll_cons_mk (shut_bool hbool true) trodAll_mk0
  · rw [hfn]
    exact trodAll_below hl hb _ _ _ _ hk (fun x hx => hlt x (by simp [hx])) hA
  · rw [hfn, hvars]; rfl
end
end Go.Proofs.YtecpbicfiaifdaaDoor
/-
  Encode and Decode, in plain Lean.
-/
namespace Go.Proofs.YtecpbicfiaifdaaDoor
open Go.RowKit ND

/-- What Decode hands back. -/
def RetDcd (w : World) (r : List Int × Nat × Nat) (e : Ending) (w' : World) : Prop :=
  ∃ v, e = .returned (.tuple #[v, .int .i64 r.2.1, .int .i64 r.2.2]) ∧ Ints w' w'.heap.size .i64 v r.1 ∧ Below w.heap.size w w'
/-- What Encode hands back. -/
def RetEnc (w : World) (r : List UInt8 × Nat) (e : Ending) (w' : World) : Prop :=
  e = .returned (.tuple #[.string ⟨r.1.toArray⟩, .int .i64 r.2]) ∧ Below w.heap.size w w'

theorem decodeL_full {l : List UInt8} (h : 4096 < l.length) : decodeL l = ([], 0, 7) := by unfold decodeL; rw [if_pos h]
theorem decodeL_bad {l : List UInt8} (h : l.length ≤ 4096) (h2 : (scanL l).2 < l.length) : decodeL l = ([], (scanL l).2, 9) := by unfold decodeL; rw [if_neg (by omega), if_pos h2]
theorem decodeL_ok {l : List UInt8} (h : l.length ≤ 4096) (h2 : l.length ≤ (scanL l).2) : decodeL l = ((scanL l).1, 0, 0) := by unfold decodeL; rw [if_neg (by omega), if_neg (by omega)]
theorem size_list (s : ByteArray) : s.data.toList.length = s.size := by rw [Array.length_toList]; rfl

theorem encAll_snoc (cs : List Int) (c : Int) : encAll (cs ++ [c]) = encAll cs ++ encC c := by simp [encAll]
theorem encAll_len (cs : List Int) : (encAll cs).length ≤ 4 * cs.length := by
  induction cs with
  | nil => simp [encAll]
  | cons c cs ih =>
    have h : (encC c).length ≤ 4 := by unfold encC encN; repeat (first | split | simp)
    simp only [encAll, List.flatMap_cons, List.length_append, List.length_cons] at ih ⊢
    omega
theorem take_snoc_of {xs : List Int} {k : Nat} {x : Int} (h : xs[k]? = some x) : xs.take (k + 1) = xs.take k ++ [x] := by
  obtain ⟨h1, h2⟩ := List.getElem?_eq_some_iff.1 h
  rw [List.take_succ_eq_append_getElem h1, h2]
theorem encodeL_full {cs : List Int} (h : 4096 < cs.length) : encodeL cs = ([], 7) := by unfold encodeL; rw [if_pos h]
theorem encodeL_ok {cs : List Int} (h : cs.length ≤ 4096) (h2 : ∀ c ∈ cs, scalarB c = true) : encodeL cs = (encAll cs, 0) := by
  unfold encodeL; rw [if_neg (by omega), if_pos (List.all_eq_true.2 h2)]
theorem encodeL_bad {cs : List Int} {k : Nat} {x : Int} (h : cs.length ≤ 4096) (h1 : cs[k]? = some x) (h2 : scalarB x = false) : encodeL cs = ([], 3) := by
  unfold encodeL
  rw [if_neg (by omega), if_neg]
  intro h3
  have := List.all_eq_true.1 h3 x (List.mem_of_getElem? h1)
  rw [h2] at this
  cases this
end Go.Proofs.YtecpbicfiaifdaaDoor
/-
  Below, whatever name the size of the first heap bears.
-/
namespace Go.Proofs.YtecpbicfiaifdaaDoor
open Go.RowKit
theorem below_w {a b c : World} {B : Nat} (h : Below a.heap.size a b) (k : Below b.heap.size b c) (hB : B = a.heap.size := by first | rfl | omega) : Below B a c := hB ▸ below_next h k
end Go.Proofs.YtecpbicfiaifdaaDoor
/-
  What skeleton.Key hands back.
-/
namespace Go.Proofs.YtecpbicfiaifdaaDoor
open Go.RowKit ND

def keyR (T : Tab) (l : List Int) : List UInt8 × Int := if (skelR T l).2 ≠ 0 then ([], (skelR T l).2) else ((encodeL (skelR T l).1).1, (((encodeL (skelR T l).1).2 : Nat) : Int))
theorem keyR_ok {T : Tab} {l d : List Int} (h : skelR T l = (d, 0)) : keyR T l = ((encodeL d).1, (((encodeL d).2 : Nat) : Int)) := by unfold keyR; rw [h]; simp
theorem keyR_err {T : Tab} {l d : List Int} {e : Int} (h : skelR T l = (d, e)) (h1 : e ≠ 0) : keyR T l = ([], e) := by unfold keyR; rw [h]; simp only; rw [if_pos h1]
end Go.Proofs.YtecpbicfiaifdaaDoor
/-
  A string and an error come back.
-/
namespace Go.Proofs.YtecpbicfiaifdaaDoor
open Go.RowKit ND

/-- A string and an error come back. -/
def RetKey (w : World) (r : List UInt8 × Int) (e : Ending) (w' : World) : Prop :=
  e = .returned (.tuple #[.string ⟨r.1.toArray⟩, .int .i64 r.2]) ∧ Below w.heap.size w w'
end Go.Proofs.YtecpbicfiaifdaaDoor
/-
  The walk through the reference's Length.
-/
namespace Go.Proofs.YtecpbicfiaifdaaDoor
open Go.RowKit ND

end Go.Proofs.YtecpbicfiaifdaaDoor
/-
  A row of the call's own whose mark lies behind its last cell (what a conversion of a string to bytes leaves): it can be appended to like any other.
-/
namespace Go.Proofs.YtecpbicfiaifdaaDoor
open Go.RowKit

/-- No cell of a row of k cells is frozen. -/
def clear_ (fz : Nat × Nat) (k : Nat) : Prop := fz = (0, 0) ∨ k ≤ fz.1

def ownsT (w : World) (base : Nat) (e : TypeId) (size : Nat) (v : Value) (n : Nat) (xs : List Value) : Prop :=
  xs.length = n * size ∧
  ((v = .slice none 0 0 ∧ n = 0) ∨
   ∃ g cap cur fz, v = .slice (some ⟨g, 0, none⟩) n cap ∧ base ≤ g ∧ w.heap[g]? = some (.cells cur e fz) ∧ clear_ fz cur.size ∧ n ≤ cap ∧ cap ≤ maxLen ∧ cur.size = cap * size ∧ cur.toList.take (n * size) = xs)

section
variable {w : World} {base : Nat} {e : TypeId} {size : Nat} {v : Value} {n : Nat} {xs : List Value}
theorem ownsT_of (h : w.ownsRow base e size v n xs) : ownsT w base e size v n xs := by
  refine ⟨h.1, ?_⟩
  rcases h.2 with hn | ⟨g, cap, cur, hv, hb, hg, rest⟩
  · exact .inl hn
  · exact .inr ⟨g, cap, cur, (0, 0), hv, hb, hg, .inl rfl, rest⟩
theorem ownsT_lt (h : ownsT w base e size v n xs) : ∀ k, v.ownBlock = some k → base ≤ k ∧ k < w.heap.size := by
  intro k hk
  rcases h.2 with ⟨rfl, _⟩ | ⟨g, cap, cur, fz, rfl, hb, hg, _⟩
  · simp [Value.ownBlock] at hk
  · simp [Value.ownBlock] at hk
    subst hk
    exact ⟨hb, (Array.getElem?_eq_some_iff.1 hg).1⟩
theorem ownsT_kept {w' : World} {row : Option Nat} (h : ownsT w base e size v n xs) (hg : w.grownBy w' row) (hne : v.ownBlock = none ∨ v.ownBlock ≠ row) : ownsT w' base e size v n xs := by
  refine ⟨h.1, ?_⟩
  rcases h.2 with hn | ⟨g, cap, cur, fz, rfl, hb, hgg, rest⟩
  · exact .inl hn
  · refine .inr ⟨g, cap, cur, fz, rfl, hb, ?_, rest⟩
    rw [hg.block g (Array.getElem?_eq_some_iff.1 hgg).1 (by simpa [Value.ownBlock] using hne)]
    exact hgg
theorem ownsT_alloc (h : ownsT w base e size v n xs) (o : Obj) : ownsT (w.alloc o) base e size v n xs :=
  ownsT_kept h (World.grownBy_alloc w o none) (by cases hv : v.ownBlock <;> simp)
theorem ownsT_drew (h : ownsT w base e size v n xs) : ownsT w.drew base e size v n xs := h
theorem ownsT_cells (h : ownsT w base e size v n xs) {g : Nat} (hg : v.ownBlock = some g) : ∀ j u, xs[j]? = some u → w.cell? ((⟨g, 0, none⟩ : Addr).add j) = some u := by
  intro j u hu
  rcases h.2 with ⟨rfl, _⟩ | ⟨g', cap, cur, fz, rfl, _, hgg, _, _, _, _, htake⟩
  · simp [Value.ownBlock] at hg
  · simp [Value.ownBlock] at hg
    subst hg
    have hadd : (⟨g', 0, none⟩ : Addr).add j = ⟨g', j, none⟩ := by unfold Addr.add; split <;> simp_all
    rw [hadd, cell_of_row w g' j cur e fz hgg]
    rw [← htake, List.getElem?_take] at hu
    split at hu
    · simpa using hu
    · cases hu
end

theorem run_storeCells_atT (P : Program) (g o : Nat) (t : TypeId) (fz : Nat × Nat) : ∀ (vs : List Value) (i : Nat) (cur : Array Value) (w : World), w.heap[g]? = some (.cells cur t fz) → clear_ fz cur.size → o + i + vs.length ≤ cur.size → (∀ v ∈ vs, v.oneCell' = true) →
    (storeCells ⟨g, o, none⟩ vs i).run P w = .ok () (w.setRow g (cur.toList.take (o + i) ++ vs ++ cur.toList.drop (o + i + vs.length)).toArray)
  | [], i, cur, w, hg, _, _, _ => by
    simp only [storeCells, List.append_nil, List.length_nil, Nat.add_zero, List.take_append_drop, Array.toArray_toList]
    rw [setRow_self w g cur t fz hg]
    rfl
  | v :: rest, i, cur, w, hg, hfz, hl, h1 => by
    have hi : o + i < cur.size := by simp at hl; omega
    have hadd : (⟨g, o, none⟩ : Addr).add i = ⟨g, o + i, none⟩ := by unfold Addr.add; split <;> simp_all
    have hcell : w.cell? ⟨g, o + i, none⟩ = some cur[o + i] := by simp [World.cell?, hg, hi]
    have hfro : w.frozen? ⟨g, o + i, none⟩ = false := by
      obtain ⟨lo, hi'⟩ := fz
      simp only [World.frozen?, hg, Bool.and_eq_false_iff, decide_eq_false_iff_not]
      rcases hfz with h | h
      · simp only [Prod.mk.injEq] at h; right; omega
      · left; simp only at h; omega
    have hst : (store ((⟨g, o, none⟩ : Addr).add i) v).run P w = .ok () (w.setRow g (cur.setIfInBounds (o + i) v)) := by
      rw [hadd, run_store P w _ v _ (h1 v (by simp)), hcell]
      simp [hfro, setCell_eq_setRow w g (o + i) cur t fz v hg]
    have ih := run_storeCells_atT P g o t fz rest (i + 1) (cur.setIfInBounds (o + i) v) (w.setRow g (cur.setIfInBounds (o + i) v)) (setRow_heap w g cur _ t _ hg) (by simpa using hfz) (by simp at hl ⊢; omega) (fun x hx => h1 x (by simp [hx]))
    simp only [storeCells, Sem.run_bind, hst, Result.andThen_ok, ih, setRow_setRow]
    congr 3
    have e := list_seg_step cur.toList (o + i) v rest (by simp at hl ⊢; omega)
    simpa [Array.toList_setIfInBounds, Nat.add_assoc] using e

section
variable {P : Program} (w : World)
theorem run_append_ownT (base : Nat) (t ty e : TypeId) (i : TypeInfo) (z : Value) (size bytes : Nat) (ht : P.underlying t = some (.slice e)) (hi : P.info? e = some i) (hz : i.zero = some z)
    (hsize : i.size = size) (hby : i.bytes = bytes) (hzs : z.cells.size = size) (hsz : 0 < size)
    (v : Value) (n : Nat) (xs : List Value) (hown : ownsT w base e size v n xs)
    (a : Addr) (m c : Nat) (news : List Value) (hl : news.length = m * size) (hnews : ∀ j u, news[j]? = some u → w.cell? (a.add j) = some u) (h1 : ∀ u ∈ news, u.oneCell' = true)
    (h63 : n + m ≤ maxLen) (hbytes : (n + m) * bytes ≤ 140737488355328) (hbase : base ≤ w.heap.size) :
    ∃ v' w', (Builtin.append_ #[t, t] ty #[v, .slice (some a) m c]).run P w = .ok v' w' ∧ ownsT w' base e size v' (n + m) (xs ++ news) ∧ w.grownBy w' v.ownBlock := by
  rcases hown.2 with ⟨rfl, rfl⟩ | ⟨g, cap, cur, fz, rfl, hbg, hg, hcl, hnc, hcm, hcs, htake⟩
  · obtain ⟨v', w', h1, h2, h3, _⟩ := run_append_own (P := P) w base t ty e i z size bytes ht hi hz hsize hby hzs hsz (.slice none 0 0) 0 xs ⟨hown.1, .inl ⟨rfl, rfl⟩⟩ a m c news hl hnews h1 h63 hbytes hbase
    exact ⟨v', w', h1, ownsT_of h2, h3⟩
  · subst hsize
    subst hby
    have hsmall : n + m ≤ 9223372036854775807 := by simp only [maxLen] at h63; omega
    have hlen : (xs ++ news).length = (n + m) * i.size := by rw [List.length_append, hown.1, hl, Nat.add_mul]
    by_cases hroom : n + m ≤ cap
    · have hfit : n * i.size + news.length ≤ cur.size := by rw [hl, hcs, ← Nat.add_mul]; exact Nat.mul_le_mul_right _ hroom
      have hf := run_firstCells_some (P := P) w i.size m a m c news hl hnews
      have hst := run_storeCells_atT P g (n * i.size) e fz news 0 cur w hg hcl (by simpa using hfit) h1
      simp only [Nat.add_zero] at hst
      have hr : (Builtin.append_ #[t, t] ty #[.slice (some ⟨g, 0, none⟩) n cap, .slice (some a) m c]).run P w =
          .ok (.slice (some ⟨g, 0, none⟩) (n + m) cap) (w.setRow g (cur.toList.take (n * i.size) ++ news ++ cur.toList.drop (n * i.size + news.length)).toArray) := by
        simp [Builtin.append_, run_underlying ht, sizeOf, typeInfo, hi, Builtin.lenOf, hroom, hf, Addr.add_lit, hst]
      have hsz' : (cur.toList.take (n * i.size) ++ news ++ cur.toList.drop (n * i.size + news.length)).toArray.size = cur.size := by
        simp only [List.size_toArray, List.length_append, List.length_take, List.length_drop, Array.length_toList]
        omega
      refine ⟨_, _, hr, ⟨hlen, .inr ⟨g, cap, _, fz, rfl, hbg, setRow_heap w g cur _ e _ hg, by rw [hsz']; exact hcl, hroom, hcm, by rw [hsz', hcs], ?_⟩⟩, ⟨rfl, rfl, rfl, by simp, fun k _ hk => setRow_other w g k _ (fun e => hk (by simp [Value.ownBlock, e]))⟩⟩
      rw [htake, ← hlen]
      exact List.take_left
    · have holds : ∀ j u, xs[j]? = some u → w.cell? ((⟨g, 0, none⟩ : Addr).add j) = some u := ownsT_cells hown (g := g) rfl
      have hr := run_append_grow (P := P) w t ty e i z ht hi hz ⟨g, 0, none⟩ n cap xs hown.1 holds a m c news hl hnews (by omega) (by omega) (growslice_fits (by omega) hbytes)
      have hge := grownCap_ge w (n + m) cap e
      have hcm2 : grownCap w (n + m) cap e ≤ maxLen := grownCap_le_maxLen w (n + m) cap e h63
      refine ⟨_, _, hr, ⟨hlen, .inr ⟨w.heap.size, _, _, (0, 0), rfl, hbase, heap_alloc_new w.drew _, .inl rfl, hge, hcm2, ?_, ?_⟩⟩, ⟨rfl, rfl, rfl, by simp, fun k hk _ => Below.heap_alloc w.drew _ k hk⟩⟩
      · simp only [Array.size_append, List.size_toArray, size_zeroCells, hzs, hown.1, hl, ← Nat.add_mul]
        congr 1
        omega
      · simp only [Array.toList_append, List.append_assoc]
        rw [← List.append_assoc, ← hlen]
        exact List.take_left

theorem wpList_append_ownT {ops : Array Oper} {rest : List Oper} {o : Oper} {a : Act} {Q : Exit → Act → World → Prop} (hgd : o.guard = none) (s x : Operand) (t : TypeId)
    (ho : o.op = .call { callee := .builtin .append, args := #[s, x], argTypes := #[t, t] })
    (base : Nat) (e : TypeId) (i : TypeInfo) (z : Value) (size bytes : Nat) (ht : P.underlying t = some (.slice e)) (hi : P.info? e = some i) (hz : i.zero = some z)
    (hsize : i.size = size) (hby : i.bytes = bytes) (hzs : z.cells.size = size) (hsz : 0 < size)
    (v : Value) (n : Nat) (xs : List Value) (hs : a.eval s = v) (hown : ownsT w base e size v n xs)
    (ad : Addr) (m c : Nat) (news : List Value) (hx : a.eval x = .slice (some ad) m c) (hl : news.length = m * size) (hnews : ∀ j u, news[j]? = some u → w.cell? (ad.add j) = some u) (h1 : ∀ u ∈ news, u.oneCell' = true)
    (h63 : n + m ≤ maxLen) (hbytes : (n + m) * bytes ≤ 140737488355328) (hbase : base ≤ w.heap.size)
    (h : ∀ v' w', ownsT w' base e size v' (n + m) (xs ++ news) → w.grownBy w' v.ownBlock → wpList P ops Q rest (a.put o.dst v') w') : wpList P ops Q (o :: rest) a w :=
  wpList_plain hgd fun _ hK => by
    obtain ⟨v', w', hr, h2, h3⟩ := run_append_ownT (P := P) w base t o.type e i z size bytes ht hi hz hsize hby hzs hsz v n xs hown ad m c news hl hnews h1 h63 hbytes hbase
    unfold Oper.wp execOp
    simp only [ho, resolve, invoke, builtin, Sem.run_bind, Sem.run_pure, Result.andThen_ok, List.map_toArray, List.map_cons, List.map_nil, hs, hx, hr]
    exact hK _ _ (h v' w' h2 h3)
end
end Go.Proofs.YtecpbicfiaifdaaDoor
/-
  Bytes as values, and strings of bytes.
-/
namespace Go.Proofs.YtecpbicfiaifdaaDoor
open Go.RowKit ND

theorem Tryd.infoU8 : (Tryd.prog.info? 5).map (fun i => (i.zero, i.size, i.bytes)) = some (some (.int .u8 0), 1, 1) := by kernel_rfl

/-- A byte as a value of the model. -/
def bv (c : UInt8) : Value := .int .u8 (c.toNat : Int)

theorem zz_bits {v : Int} (h0 : -9223372036854775808 ≤ v) (h1 : v ≤ 9223372036854775807) :
    bits .xor .u64 (IntKind.u64.wrap (IntKind.u64.wrap v * 2)) (IntKind.u64.wrap (v / 9223372036854775808)) = (zz v : Int) := by
  rw [IntKind.wrap_u64, IntKind.wrap_u64, IntKind.wrap_u64]
  by_cases h : 0 ≤ v
  · have e1 : v / 9223372036854775808 = 0 := by omega
    have e2 : v % 18446744073709551616 * 2 % 18446744073709551616 = ((zz v : Nat) : Int) := by unfold zz; rw [if_pos h]; omega
    have e3 : (0 : Int) % 18446744073709551616 = ((0 : Nat) : Int) := by omega
    rw [e1, e2, e3, u64_xor_nat _ _ (zz_lt h0 h1) (by omega), Nat.xor_zero]
  · have e1 : v / 9223372036854775808 = -1 := by omega
    have e2 : v % 18446744073709551616 * 2 % 18446744073709551616 = ((18446744073709551615 - zz v : Nat) : Int) := by unfold zz; rw [if_neg h]; omega
    have e3 : (-1 : Int) % 18446744073709551616 = ((18446744073709551615 : Nat) : Int) := by omega
    have hz := zz_lt h0 h1
    rw [e1, e2, e3, u64_xor_nat _ _ (by omega) (by omega)]
    have hx : ∀ (a : Nat), a < 18446744073709551616 → a ^^^ 18446744073709551615 = 18446744073709551615 - a := by
      intro a ha
      have hb : (BitVec.ofNat 64 a ^^^ BitVec.allOnes 64).toNat = a ^^^ 18446744073709551615 := by
        rw [BitVec.toNat_xor, BitVec.toNat_ofNat, Nat.mod_eq_of_lt (by omega)]
        have : (BitVec.allOnes 64).toNat = 18446744073709551615 := by decide +kernel
        rw [this]
      rw [← hb, BitVec.xor_allOnes, BitVec.toNat_not, BitVec.toNat_ofNat, Nat.mod_eq_of_lt (by omega)]
    rw [hx _ (by omega)]
    omega

theorem u8_low {n : Nat} (h : n < 128) : Value.int .u8 (n : Int) = bv (UInt8.ofNat n) := by
  unfold bv; rw [u8_ofNat_toNat (by omega)]
theorem u8_high (n : Nat) : bits .or .u8 (IntKind.u8.wrap (n : Int)) 128 = (((UInt8.ofNat (n % 128 + 128)).toNat : Nat) : Int) := by
  rw [IntKind.wrap_u8, u8_ofNat_toNat (by omega)]
  have e : (n : Int) % 256 = ((n % 256 : Nat) : Int) := by omega
  rw [e]
  have h := u8_or_nat (n % 256) 128 (by omega) (by omega)
  have h' : n % 256 ||| 128 = n % 128 + 128 := by
    have hall : ∀ m : Fin 256, m.val ||| 128 = m.val % 128 + 128 := by decide +kernel
    have := hall ⟨n % 256, by omega⟩
    simp only at this
    omega
  rw [h'] at h
  exact h

theorem ownsT_bytes (w : World) (B : Nat) (e : TypeId) (s : ByteArray) (cap : Nat) (hB : B ≤ w.heap.size) (h1 : s.size ≤ cap) (h2 : cap ≤ maxLen) :
    ownsT (w.alloc (.cells (bytesRow s cap) e ((bytesRow s cap).size, (bytesRow s cap).size + 1))) B e 1 (.slice (some ⟨w.heap.size, 0, none⟩) s.size cap) s.data.toList.length (s.data.toList.map bv) := by
  have hl : s.data.toList.length = s.size := by simp
  have hsz : (bytesRow s cap).size = cap := by unfold bytesRow; simp; omega
  refine ⟨by simp, .inr ⟨w.heap.size, cap, bytesRow s cap, _, by rw [hl], hB, heap_alloc_new w _, .inr (Nat.le_refl _), by omega, h2, by omega, ?_⟩⟩
  rw [hl, Nat.mul_one]
  unfold bytesRow
  rw [Array.toList_append, List.take_append_of_le_length (by simp)]
  rw [List.take_of_length_le (by simp)]
  simp only [Array.toList_map]
  rfl

/-- The bytes of an owned row, as a string. -/
theorem bytes_of_ownsT {w : World} {P : Program} {B : Nat} {e : TypeId} {v : Value} {l : List UInt8} (src dst : TypeId) (h : ownsT w B e 1 v l.length (l.map bv)) (hs : P.underlying src = some (.slice e)) (he : P.underlying e = some (.int .u8)) (hd : P.underlying dst = some .string) :
    (convert src dst v).run P w = .ok (.string ⟨l.toArray⟩) w := by
  rcases h.2 with ⟨rfl, hn⟩ | ⟨g, cap, cur, fz, rfl, hb, hgg, _⟩
  · have : l = [] := List.eq_nil_of_length_eq_zero hn
    subst this
    rw [run_convert_bytes_string w src dst e none 0 0 hs he hd]; rfl
  · refine run_convert_bytes_back w src dst e _ cap l hs he hd (fun j hj => ?_)
    exact ownsT_cells h (g := g) rfl j _ (by simp [hj, bv])

/-- A string of the bytes that a new block holds. -/
theorem conv_new {P : Program} (w : World) (src dst e : TypeId) (l : List UInt8) (cells : List Value) (n : Nat) (hs : P.underlying src = some (.slice e)) (he : P.underlying e = some (.int .u8)) (hd : P.underlying dst = some .string) (hc : cells = l.map bv) (hn : l.length = n) :
    (convert src dst (.slice (some ⟨w.heap.size, 0, none⟩) n n)).run P (w.alloc (.cells cells.toArray e)) = .ok (.string ⟨l.toArray⟩) (w.alloc (.cells cells.toArray e)) := by
  subst hn; subst hc
  refine run_convert_bytes_back _ src dst e _ _ l hs he hd (fun j hj => ?_)
  have hadd : (⟨w.heap.size, 0, none⟩ : Addr).add j = ⟨w.heap.size, j, none⟩ := by unfold Addr.add; split <;> simp_all
  rw [hadd, cell_of_row (w.alloc (.cells (l.map bv).toArray e)) w.heap.size j _ _ _ (heap_alloc_new w _)]
  simp [hj, bv]
end Go.Proofs.YtecpbicfiaifdaaDoor
