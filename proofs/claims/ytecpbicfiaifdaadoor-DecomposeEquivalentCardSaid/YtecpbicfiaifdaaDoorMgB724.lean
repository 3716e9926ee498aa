/-
  Merged texts: lemmas and walks that the last text of this claim leans on.
-/
import Derived.Test.YtecpbicfiaifdaaDoorMgB723
import Derived.Test.YtecpbicfiaifdaaDoorMgB715
import Derived.Deep.DeepHandedRow
import Derived.Test.YtecpbicfiaifdaaDoorRows
import Derived.WalkKit
import Derived.ProofKit
import Derived.OpenShut
import Derived.ShutString
import Derived.SizedLaws
import Derived.Test.YtecpbicfiaifdaaDoorMgB72
import Derived.Test.YtecpbicfiaifdaaDoorMgB71
import Derived.Test.YtecpbicfiaifdaaDoorMgB720
import Derived.Test.YtecpbicfiaifdaaDoorMgB714
import Derived.Test.YtecpbicfiaifdaaDoorMgB722
/-
  Plain mathematics of chapter 21: classes of sequences with the same skeleton. No program in sight.
-/
namespace Go.Proofs.YtecpbicfiaifdaaDoor
open Go.RowKit ND

/-- The skeleton of each sequence. -/
def skels (T : Tab) (ls : List (List Int)) : List (List Int) := ls.map fun l => (skelR T l).1
/-- The first error. -/
def firstE (T : Tab) : List (List Int) → Int
  | [] => 0
  | l :: r => if (skelR T l).2 ≠ 0 then (skelR T l).2 else firstE T r
/-- The index of the first that equals s. -/
def firstI (s : List Int) : Nat → List (List Int) → Nat
  | i, [] => i
  | i, x :: r => if x = s then i else firstI s (i + 1) r
def classOfI (ss : List (List Int)) (s : List Int) : Int := (firstI s 0 ss : Nat)
def classesL (T : Tab) (ls : List (List Int)) : List Int := (skels T ls).map (classOfI (skels T ls))
/-- What Classes hands back. -/
def classesR (T : Tab) (ls : List (List Int)) : List Int × Int := if 256 < ls.length then ([], 7) else if firstE T ls ≠ 0 then ([], firstE T ls) else (classesL T ls, 0)
/-- What Twins finds in the classes. -/
def twinsGo : Nat → List Int → Int × Int × Bool
  | _, [] => (0, 0, false)
  | j, i :: r => if i < (j : Int) then (i, (j : Int), true) else twinsGo (j + 1) r
def twinsR (T : Tab) (ls : List (List Int)) : Int × Int × Bool := twinsGo 0 (classesR T ls).1
/-- The first index at which two lists differ, or -1. -/
def diffGo : Nat → List Int → List Int → Int
  | _, [], [] => -1
  | i, [], _ :: _ => i
  | i, _ :: _, [] => i
  | i, x :: a, y :: b => if x = y then diffGo (i + 1) a b else i
def differL (x y : List Int) : Int := diffGo 0 x y
/-- The first of two errors. -/
def bothE (T : Tab) (a b : List Int) : Int := if (skelR T a).2 ≠ 0 then (skelR T a).2 else (skelR T b).2
def differR (T : Tab) (a b : List Int) : Int × Int := if bothE T a b ≠ 0 then (0, bothE T a b) else (differL (skelR T a).1 (skelR T b).1, 0)
def sameR (T : Tab) (a b : List Int) : Bool × Int := (bothE T a b == 0 && decide ((skelR T a).1 = (skelR T b).1), bothE T a b)

theorem firstE_zero {T : Tab} : ∀ {ls : List (List Int)}, firstE T ls = 0 ↔ ∀ l ∈ ls, (skelR T l).2 = 0 := by
  intro ls
  induction ls with
  | nil => simp [firstE]
  | cons l r ih =>
    rw [firstE]
    by_cases h : (skelR T l).2 = 0
    · rw [if_neg (by omega), ih]; simp [h]
    · rw [if_pos h]; simp [h]
theorem firstE_step {T : Tab} {ls : List (List Int)} {i : Nat} {l : List Int} (hl : ls[i]? = some l) : firstE T (ls.drop i) = if (skelR T l).2 ≠ 0 then (skelR T l).2 else firstE T (ls.drop (i + 1)) := by
  obtain ⟨h1, e⟩ := List.getElem?_eq_some_iff.1 hl
  rw [List.drop_eq_getElem_cons h1, e, firstE]
theorem firstI_shift (s : List Int) : ∀ (ss : List (List Int)) (i : Nat), firstI s i ss = firstI s 0 ss + i := by
  intro ss
  induction ss with
  | nil => intro i; simp [firstI]
  | cons x r ih =>
    intro i
    rw [firstI, firstI]
    split
    · omega
    · rw [ih (i + 1), ih (0 + 1)]; omega
theorem firstI_le (s : List Int) : ∀ ss : List (List Int), firstI s 0 ss ≤ ss.length := by
  intro ss
  induction ss with
  | nil => simp [firstI]
  | cons x r ih =>
    rw [firstI]
    split
    · omega
    · rw [firstI_shift, List.length_cons]; omega
/-- The first that equals s, found. -/
theorem firstI_at {s : List Int} : ∀ {ss : List (List Int)} {k : Nat}, ss[k]? = some s → (∀ j x, j < k → ss[j]? = some x → x ≠ s) → firstI s 0 ss = k := by
  intro ss
  induction ss with
  | nil => intro k h; simp at h
  | cons x r ih =>
    intro k h hn
    rw [firstI]
    cases k with
    | zero => simp at h; rw [if_pos h]
    | succ k =>
      rw [if_neg (hn 0 x (by omega) (by simp)), firstI_shift, ih (by simpa using h) fun j y hj hy => hn (j + 1) y (by omega) (by simpa using hy)]
theorem firstI_spec {s : List Int} {ss : List (List Int)} {i : Nat} (h : ss[i]? = some s) : firstI s 0 ss ≤ i ∧ ss[firstI s 0 ss]? = some s ∧ ∀ j x, j < firstI s 0 ss → ss[j]? = some x → x ≠ s := by
  have key : ∀ (n : Nat), (∃ k, k ≤ n ∧ ss[k]? = some s) → ∃ k, k ≤ n ∧ ss[k]? = some s ∧ ∀ j x, j < k → ss[j]? = some x → x ≠ s := by
    intro n
    induction n with
    | zero => rintro ⟨k, hk, e⟩; exact ⟨k, hk, e, fun j x hj => by omega⟩
    | succ n ih =>
      rintro ⟨k, hk, e⟩
      by_cases h1 : ∃ k, k ≤ n ∧ ss[k]? = some s
      · obtain ⟨k', h2, h3, h4⟩ := ih h1
        exact ⟨k', by omega, h3, h4⟩
      · refine ⟨k, hk, e, fun j x hj hx hxs => h1 ⟨j, by omega, ?_⟩⟩
        rw [hx, hxs]
  obtain ⟨k, h1, h2, h3⟩ := key i ⟨i, Nat.le_refl _, h⟩
  rw [firstI_at h2 h3]
  exact ⟨h1, h2, h3⟩
/-- Two have the same class exactly if they are the same. -/
theorem classOfI_eq {ss : List (List Int)} {s u : List Int} {i j : Nat} (hs : ss[i]? = some s) (hu : ss[j]? = some u) : classOfI ss s = classOfI ss u ↔ s = u := by
  constructor
  · intro h
    unfold classOfI at h
    have h1 := (firstI_spec hs).2.1
    have h2 := (firstI_spec hu).2.1
    rw [show firstI s 0 ss = firstI u 0 ss by omega] at h1
    rw [h1] at h2; cases h2; rfl
  · rintro rfl; rfl
theorem skels_at {T : Tab} {ls : List (List Int)} {i : Nat} {l : List Int} (h : ls[i]? = some l) : (skels T ls)[i]? = some (skelR T l).1 := by unfold skels; rw [List.getElem?_map, h]; rfl
theorem classesL_at {T : Tab} {ls : List (List Int)} {i : Nat} {l : List Int} (h : ls[i]? = some l) : (classesL T ls)[i]? = some (classOfI (skels T ls) (skelR T l).1) := by unfold classesL; rw [List.getElem?_map, skels_at h]; rfl
theorem classesL_length (T : Tab) (ls : List (List Int)) : (classesL T ls).length = ls.length := by unfold classesL skels; simp
theorem skels_length (T : Tab) (ls : List (List Int)) : (skels T ls).length = ls.length := by unfold skels; simp
/-- The class of the i-th, out of those ahead of it. -/
theorem class_hit {T : Tab} {ls : List (List Int)} {k : Nat} {l x : List Int} (hx : ls[k]? = some x) (he : (skelR T x).1 = (skelR T l).1) (hn : ∀ j y, j < k → ls[j]? = some y → (skelR T y).1 ≠ (skelR T l).1) : classOfI (skels T ls) (skelR T l).1 = (k : Int) := by
  unfold classOfI
  rw [firstI_at (k := k) (by rw [skels_at hx, he]) fun j y hj hy => ?_]
  unfold skels at hy
  rw [List.getElem?_map] at hy
  cases hz : ls[j]? with
  | none => rw [hz] at hy; cases hy
  | some z => rw [hz] at hy; cases hy; exact hn j z hj hz
theorem class_new {T : Tab} {ls : List (List Int)} {i : Nat} {l : List Int} (hl : ls[i]? = some l) (hn : ∀ j y, j < i → ls[j]? = some y → (skelR T y).1 ≠ (skelR T l).1) : classOfI (skels T ls) (skelR T l).1 = (i : Int) := by
  unfold classOfI
  rw [firstI_at (k := i) (skels_at hl) fun j y hj hy => ?_]
  unfold skels at hy
  rw [List.getElem?_map] at hy
  cases hz : ls[j]? with
  | none => rw [hz] at hy; cases hy
  | some z => rw [hz] at hy; cases hy; exact hn j z hj hz
theorem twins_step {cl : List Int} {j : Nat} {i : Int} (h : cl[j]? = some i) : twinsGo j (cl.drop j) = if i < (j : Int) then (i, (j : Int), true) else twinsGo (j + 1) (cl.drop (j + 1)) := by
  obtain ⟨h1, e⟩ := List.getElem?_eq_some_iff.1 h
  rw [List.drop_eq_getElem_cons h1, e, twinsGo]
theorem twins_end {cl : List Int} {j : Nat} (h : cl.length ≤ j) : twinsGo j (cl.drop j) = (0, 0, false) := by rw [List.drop_of_length_le h]; rfl
/-- The first that has twins. -/
theorem twins_hit {cl : List Int} : ∀ (n j : Nat) {i : Int}, cl[n]? = some i → j ≤ n → i < (n : Int) → (∀ k x, j ≤ k → k < n → cl[k]? = some x → ¬ x < (k : Int)) → twinsGo j (cl.drop j) = (i, (n : Int), true) := by
  intro n j
  induction h : n - j generalizing j with
  | zero =>
    intro i h1 h2 h3 h4
    obtain rfl : j = n := by omega
    rw [twins_step h1, if_pos h3]
  | succ m ih =>
    intro i h1 h2 h3 h4
    obtain ⟨x, hx⟩ : ∃ x, cl[j]? = some x := ⟨_, List.getElem?_eq_getElem (by have := (List.getElem?_eq_some_iff.1 h1).1; omega)⟩
    rw [twins_step hx, if_neg (h4 j x (Nat.le_refl _) (by omega) hx)]
    exact ih (j + 1) (by omega) h1 (by omega) h3 fun k y hk => h4 k y (by omega)
theorem twins_none {cl : List Int} : ∀ (n j : Nat), n = cl.length - j → (∀ k x, j ≤ k → cl[k]? = some x → ¬ x < (k : Int)) → twinsGo j (cl.drop j) = (0, 0, false) := by
  intro n
  induction n with
  | zero => intro j h _; exact twins_end (by omega)
  | succ m ih =>
    intro j h h4
    obtain ⟨x, hx⟩ : ∃ x, cl[j]? = some x := ⟨_, List.getElem?_eq_getElem (by omega)⟩
    rw [twins_step hx, if_neg (h4 j x (Nat.le_refl _) hx)]
    exact ih (j + 1) (by omega) fun k y hk => h4 k y (by omega)
theorem diffGo_neg : ∀ (x y : List Int) (i : Nat), diffGo i x y = -1 ↔ x = y := by
  intro x
  induction x with
  | nil =>
    intro y i
    cases y with
    | nil => simp [diffGo]
    | cons b r => simp only [diffGo]; constructor
                  · intro h; omega
                  · intro h; cases h
  | cons a r ih =>
    intro y i
    cases y with
    | nil => simp only [diffGo]; constructor
             · intro h; omega
             · intro h; cases h
    | cons b s =>
      rw [diffGo]
      by_cases h : a = b
      · rw [if_pos h, ih]; simp [h]
      · rw [if_neg h]; constructor
        · intro h2; omega
        · intro h2; cases h2; exact absurd rfl h
theorem diffGo_ge : ∀ (x y : List Int) (i : Nat), -1 ≤ diffGo i x y := by
  intro x
  induction x with
  | nil => intro y i; cases y <;> simp only [diffGo] <;> omega
  | cons a r ih =>
    intro y i
    cases y with
    | nil => simp only [diffGo]; omega
    | cons b s => rw [diffGo]; split
                  · exact ih s (i + 1)
                  · omega
theorem differL_neg (x y : List Int) : differL x y = -1 ↔ x = y := diffGo_neg x y 0
theorem diff_on {x y : List Int} {i : Nat} {a b : Int} (hx : x[i]? = some a) (hy : y[i]? = some b) : diffGo i (x.drop i) (y.drop i) = if a = b then diffGo (i + 1) (x.drop (i + 1)) (y.drop (i + 1)) else (i : Int) := by
  obtain ⟨h1, e1⟩ := List.getElem?_eq_some_iff.1 hx
  obtain ⟨h2, e2⟩ := List.getElem?_eq_some_iff.1 hy
  rw [List.drop_eq_getElem_cons h1, List.drop_eq_getElem_cons h2, e1, e2, diffGo]
theorem diff_end {x y : List Int} {i : Nat} (h : x.length ≤ i ∨ y.length ≤ i) (hx : i ≤ x.length) (hy : i ≤ y.length) : diffGo i (x.drop i) (y.drop i) = if x.length = y.length then -1 else (i : Int) := by
  rcases h with h | h
  · rw [List.drop_of_length_le h]
    cases hd : y.drop i with
    | nil => have := congrArg List.length hd; simp at this; rw [if_pos (by omega)]; rfl
    | cons b r => have := congrArg List.length hd; simp at this; rw [if_neg (by omega)]; rfl
  · rw [List.drop_of_length_le h]
    cases hd : x.drop i with
    | nil => have := congrArg List.length hd; simp at this; rw [if_pos (by omega)]; rfl
    | cons b r => have := congrArg List.length hd; simp at this; rw [if_neg (by omega)]; rfl
end Go.Proofs.YtecpbicfiaifdaaDoor
/-
  A witness for a row that lists the variable table.blocks: the heap that the door's own run leaves.
-/
namespace Go.Proofs.YtecpbicfiaifdaaDoor
open Go.ChangeShapes Go.WideShapes Go.ChangeAt Go.RowKit

theorem witness_door {H : Type} {enc : TypeId × Value → H} {C : Checked} {os : Os} {f : FuncId} {fn : Func} {s : OpenSpec} {conds : List PathCond} {apart : Bool} {laid : List (String × DataW Unit)} (w0 : World) (args : Array Value) (hos : w0.os = os)
    (hsh : (w0.forCall (fun _ _ => 0) ⟨#[], args, []⟩).Shaped C.prog)
    (hok : Input.okWideB C.prog (w0.forCall (fun _ _ => 0) ⟨#[], args, []⟩) f ⟨#[], args, []⟩ = true)
    (hrow : s.preRow enc C.prog fn conds apart laid (w0.forCall (fun _ _ => 0) ⟨#[], args, []⟩).memory args) :
    ∃ (w : World) (tape : Tape) (i : Input), w.os = os ∧ (w.forCall tape i).Shaped C.prog ∧ i.vars = [] ∧ Input.okWide C.prog (w.forCall tape i) .any w.heap.size f i ∧
      s.preRow enc C.prog fn conds apart laid (w.forCall tape i).memory i.args ∧ ({ modest := false } : Assume).holds C.prog (lone (Frame.enter C.prog f i.args .normal) [] (w.forCall tape i)) :=
  ⟨w0, fun _ _ => 0, ⟨#[], args, []⟩, hos, hsh, (Input.okWide_of_okWideB (base := 0) hok).1, (Input.okWide_of_okWideB hok).2, hrow, by
    simp only [Assume.holds]
    exact ⟨by simp, by simp, fun _ => Modest.zero, by simp, by simp⟩⟩
end Go.Proofs.YtecpbicfiaifdaaDoor
/-
  What every law's row asks of the call, once the walk is there: the call returns true, and below the old heap nothing has turned; so each argument reads as it read.
-/
namespace Go.Proofs.YtecpbicfiaifdaaDoor
open Go.ChangeShapes Go.WideShapes Go.ChangeAt Go.RowKit

theorem Tryd.own_ : ownKnob Tryd.prog.godebug = none := by kernel_rfl
theorem Tryd.laidOut_ : laidOutB Tryd.prog = true := by kernel_rfl

section
variable {H : Type} {enc : TypeId × Value → H} {P : Program} {W W' : World}

theorem trodAll_below (hl : laidOutB P = true) (hb : Below W.heap.size W W') : ∀ (ts : List TypeId) (vs : List Value) (ds : List (DataW H)) (ps : List MemPlace),
    (∀ t ∈ ts, P.readableRec t = true ∧ t < P.types.size) → (∀ x ∈ ps, x.block < W.heap.size) →
    DataW.TrodAll enc P W 0 (fun _ => true) true ts vs ds ps → DataW.TrodAll enc P W' 0 (fun b => decide (b < W.heap.size)) true ts vs ds ps
  | [], [], [], _, _, _, h => h
  | t :: ts, v :: vs, d :: ds, ps, hk, hlt, h => by
    obtain ⟨p, q, hp, hq, rfl⟩ := h
    have ht := hk t (by simp)
    exact ⟨p, q, Below.trod hl ht.1 ht.2 hp hb (fun x hx => hlt x (by simp [hx])),
      trodAll_below hl hb ts vs ds q (fun t h => hk t (by simp [h])) (fun x hx => hlt x (by simp [hx])) hq, rfl⟩
  | [], _ :: _, _, _, _, _, h => by simp [DataW.TrodAll] at h
  | [], [], _ :: _, _, _, _, h => by simp [DataW.TrodAll] at h
  | _ :: _, [], _, _, _, _, h => by simp [DataW.TrodAll] at h
  | _ :: _, _ :: _, [], _, _, _, h => by simp [DataW.TrodAll] at h

theorem law_post {f : Func} {s : ChangeSpec} {tb : TypeId} {args : Array Value} {ds : List (DataW H)} {before : List MemPlace} (hl : laidOutB P = true)
    (hk : ∀ t ∈ f.params.toList, P.readableRec t = true ∧ t < P.types.size) (hres : f.resultTypes = #[tb]) (hbool : P.underlying tb = some .bool) (hvars : s.vars = [])
    (hW : DataW.Whole enc P f.params.toList s.vars false W args.toList ds [] before) (hfn : s.fn H (ds ++ []) = { results := [.lit (.bool true)], args := ds })
    (hb : Below W.heap.size W W') : s.post enc P f false true false false W args (.bool true) W' := by
  have hlt : ∀ x ∈ before, x.block < W.heap.size := fun x hx => hW.lt x hx
  have hW' := hW
  obtain ⟨p, q, hA, hV, rfl, _, _⟩ := hW'
  rw [hvars] at hV
  obtain ⟨_, rfl⟩ := trodVars_none hV
  refine ⟨ds, [], p ++ [], [], p, [], hW, ?_, ?_, ?_, hb.frame _, fun h => by cases h⟩
  · rw [hfn, hres]
    exact trodAll_cons_mk (shut_bool hbool true) trodAll_mk0
  · rw [hfn]
    exact trodAll_below hl hb _ _ _ _ hk (fun x hx => hlt x (by simp [hx])) hA
  · rw [hfn, hvars]; rfl
end
end Go.Proofs.YtecpbicfiaifdaaDoor
/-
  Encode and Decode, in plain Lean.
-/
namespace Go.Proofs.YtecpbicfiaifdaaDoor
open Go.RowKit ND

/-- What Decode hands back. -/
def RetDcd (w : World) (r : List Int × Nat × Nat) (e : Ending) (w' : World) : Prop :=
  ∃ v, e = .returned (.tuple #[v, .int .i64 r.2.1, .int .i64 r.2.2]) ∧ Ints w' w'.heap.size .i64 v r.1 ∧ Below w.heap.size w w'
/-- What Encode hands back. -/
def RetEnc (w : World) (r : List UInt8 × Nat) (e : Ending) (w' : World) : Prop :=
  e = .returned (.tuple #[.string ⟨r.1.toArray⟩, .int .i64 r.2]) ∧ Below w.heap.size w w'

theorem decodeL_full {l : List UInt8} (h : 4096 < l.length) : decodeL l = ([], 0, 7) := by unfold decodeL; rw [if_pos h]
theorem decodeL_bad {l : List UInt8} (h : l.length ≤ 4096) (h2 : (scanL l).2 < l.length) : decodeL l = ([], (scanL l).2, 9) := by unfold decodeL; rw [if_neg (by omega), if_pos h2]
theorem decodeL_ok {l : List UInt8} (h : l.length ≤ 4096) (h2 : l.length ≤ (scanL l).2) : decodeL l = ((scanL l).1, 0, 0) := by unfold decodeL; rw [if_neg (by omega), if_neg (by omega)]
theorem size_list (s : ByteArray) : s.data.toList.length = s.size := by rw [Array.length_toList]; rfl

theorem encAll_snoc (cs : List Int) (c : Int) : encAll (cs ++ [c]) = encAll cs ++ encC c := by simp [encAll]
theorem encAll_len (cs : List Int) : (encAll cs).length ≤ 4 * cs.length := by
  induction cs with
  | nil => simp [encAll]
  | cons c cs ih =>
    have h : (encC c).length ≤ 4 := by unfold encC encN; repeat (first | split | simp)
    simp only [encAll, List.flatMap_cons, List.length_append, List.length_cons] at ih ⊢
    omega
theorem take_snoc_of {xs : List Int} {k : Nat} {x : Int} (h : xs[k]? = some x) : xs.take (k + 1) = xs.take k ++ [x] := by
  obtain ⟨h1, h2⟩ := List.getElem?_eq_some_iff.1 h
  rw [List.take_succ_eq_append_getElem h1, h2]
theorem encodeL_full {cs : List Int} (h : 4096 < cs.length) : encodeL cs = ([], 7) := by unfold encodeL; rw [if_pos h]
theorem encodeL_ok {cs : List Int} (h : cs.length ≤ 4096) (h2 : ∀ c ∈ cs, scalarB c = true) : encodeL cs = (encAll cs, 0) := by
  unfold encodeL; rw [if_neg (by omega), if_pos (List.all_eq_true.2 h2)]
theorem encodeL_bad {cs : List Int} {k : Nat} {x : Int} (h : cs.length ≤ 4096) (h1 : cs[k]? = some x) (h2 : scalarB x = false) : encodeL cs = ([], 3) := by
  unfold encodeL
  rw [if_neg (by omega), if_neg]
  intro h3
  have := List.all_eq_true.1 h3 x (List.mem_of_getElem? h1)
  rw [h2] at this
  cases this
end Go.Proofs.YtecpbicfiaifdaaDoor
/-
  Below, whatever name the size of the first heap bears.
-/
namespace Go.Proofs.YtecpbicfiaifdaaDoor
open Go.RowKit
theorem below_w {a b c : World} {B : Nat} (h : Below a.heap.size a b) (k : Below b.heap.size b c) (hB : B = a.heap.size := by first | rfl | omega) : Below B a c := hB ▸ below_next h k
end Go.Proofs.YtecpbicfiaifdaaDoor
/-
  The walk through the law DecomposeEquivalent.
-/
namespace Go.Proofs.YtecpbicfiaifdaaDoor
open Go.RowKit ND

theorem ints_cap {w : World} {B : Nat} {k : IntKind} {A : Option Addr} {c n : Nat} {xs : List Int} (hi : Ints w B k (.slice A n c) xs) : xs.length ≤ c := by
  obtain ⟨A', c', e, h1, _⟩ := hi
  cases e; exact h1
theorem equiv_short {T : Tab} (hck : T.check = 0) {a b : List Int} (ha : a.all scalarB = true) (hal : a.length ≤ 200) (hb : b.all scalarB = true) (hbl : b.length ≤ 200) : equivR T a b = (decide (nfdL T a = nfdL T b), 0) := by
  unfold equivR
  rw [nfd_short hck ha hal, nfd_short hck hb hbl]
  rfl
/-- Equivalence is reflexive, symmetric and transitive. -/
theorem equiv_laws {T : Tab} (hck : T.check = 0) {a b c : List Int} (ha : a.all scalarB = true) (hal : a.length ≤ 200) (hb : b.all scalarB = true) (hbl : b.length ≤ 200) (hc : c.all scalarB = true) (hcl : c.length ≤ 200) :
    ∃ X Z Y : Bool, equivR T a b = (X, 0) ∧ equivR T b a = (X, 0) ∧ equivR T b c = (Z, 0) ∧ equivR T a c = (Y, 0) ∧ equivR T a a = (true, 0) ∧ (X = true → Z = true → Y = true) := by
  refine ⟨_, _, _, equiv_short hck ha hal hb hbl, ?_, equiv_short hck hb hbl hc hcl, equiv_short hck ha hal hc hcl, ?_, ?_⟩
  · rw [equiv_short hck hb hbl ha hal]
    congr 1
    exact decide_eq_decide.2 ⟨fun h => h.symm, fun h => h.symm⟩
  · rw [equiv_short hck ha hal ha hal, decide_eq_true rfl]
  · intro h1 h2
    exact decide_eq_true ((of_decide_eq_true h1).trans (of_decide_eq_true h2))
theorem equiv_eq {T : Tab} {t : Tv} {v u : Value} {xs us : List Int} {w : World} {b : Bool} (ht : TabR w w.heap.size t T) (hg : Glob w) (hv : Ints w w.heap.size .i64 v xs) (hu : Ints w w.heap.size .i64 u us) (hr : equivR T xs us = (b, 0)) :
    Calls Tryd.prog 19 #[t.val, v, u] w fun e w' => e = .returned (.tuple #[.bool b, .int .i64 0]) ∧ Below w.heap.size w w' := by
  have h := equiv7_any t T v xs u us w ht hg hv hu
  rw [hr] at h; exact h
theorem scal_mix {a b : List Int} (ha : a.all scalarB = true) (hb : b.all scalarB = true) : (a.take 1 ++ b.drop 1).all scalarB = true := by
  rw [List.all_eq_true] at *
  intro c hc
  rw [List.mem_append] at hc
  rcases hc with h | h
  · exact ha c (List.mem_of_mem_take h)
  · exact hb c (List.mem_of_mem_drop h)
theorem ints_take1 {w : World} {B : Nat} {k : IntKind} {A : Option Addr} {c n : Nat} {xs : List Int} (hi : Ints w B k (.slice A n c) xs) (hl : 1 ≤ xs.length) : Ints w B k (.slice A 1 c) (xs.take 1) := by
  obtain ⟨A', c', e, h1, h2, h3, h4⟩ := hi
  cases e
  have hn : (xs.take 1).length = 1 := by rw [List.length_take]; omega
  refine ⟨A, c, by rw [hn], by omega, h2, h3, fun i x hx => ?_⟩
  rw [List.getElem?_take] at hx
  split at hx
  · exact h4 i x hx
  · cases hx
theorem ints_drop1 {w : World} {B : Nat} {k : IntKind} {A : Option Addr} {c n : Nat} {xs : List Int} (hi : Ints w B k (.slice A n c) xs) (hl : 1 < xs.length) : Ints w B k (.slice (A.map fun x => { block := x.block, off := x.off + 1 }) (xs.length - 1) (c - 1)) (xs.drop 1) := by
  obtain ⟨A', c', e, h1, h2, h3, h4⟩ := hi
  cases e
  have hn : (xs.drop 1).length = xs.length - 1 := List.length_drop
  obtain ⟨x0, hx0⟩ : ∃ x, xs[0]? = some x := ⟨_, List.getElem?_eq_getElem (by omega)⟩
  obtain ⟨ad, rfl, _, _⟩ := h4 0 x0 hx0
  refine ⟨_, c - 1, by rw [hn], by omega, by omega, (fun h => by cases h), fun i x hx => ?_⟩
  rw [List.getElem?_drop] at hx
  obtain ⟨ad', e, hb, hc⟩ := h4 (1 + i) x hx
  cases e
  refine ⟨{ block := ad.block, off := ad.off + 1 }, rfl, hb, ?_⟩
  rw [← hc]
  congr 1
  simp [Addr.add, Nat.add_assoc]

set_option maxRecDepth 100000 in
set_option maxHeartbeats 4000000 in
theorem DecomposeEquivalent_go (W : World) (hg : Glob W) (v : Value) (xs : List Int) (hv : Ints W W.heap.size .i64 v xs) (vm : Value) (ms : List Int) (hvm : Ints W W.heap.size .i64 vm ms) (vo : Value) (os_ : List Int) (hvo : Ints W W.heap.size .i64 vo os_) (vr : Value) (rs : List Int) (hvr : Ints W W.heap.size .i64 vr rs) :
    Calls Tryd.prog 6 #[v, vm, vo, vr] W fun e W' => e = .returned (.bool true) ∧ Below W.heap.size W W' := by
  have HG := Lib.hid hg
  have HM := Lib.hid hvm
  have HO := Lib.hid hvo
  have HR := Lib.hid hvr
  obtain ⟨Ax, cx, rfl, _⟩ := id hv
  obtain ⟨Am, cm, rfl, _⟩ := id hvm
  obtain ⟨Ao, co, rfl, _⟩ := id hvo
  obtain ⟨Ar, cr, rfl, _⟩ := id hvr
  have HT := Lib.hid (keepTables_any W _ xs hv)
  clear hv hg hvm hvo hvr
  go_enter Tryd.func6, Tryd.ntmps6
  go_upto_region 2 with (go_at_call 11; refine HT.out.mono ?_; rintro e w1 ⟨t, T, rfl, ht1, hm1, hb1⟩; obtain ⟨A0, A1, A2, A3, A4, A5, A6, A7, A8, A9, A10, A11, k0, k1, k2, k3, k4, k5, k6, k7, k8, k9, k10, k11, rfl⟩ := ht1.shape; have HT1 := Lib.hid ht1; have HB1 := Lib.hid hb1; have HM1 := Lib.hid hm1; clear ht1 hb1 hm1)
  obtain ⟨t, ht, htb⟩ := Tbl.new HT1.out
  have HT2 := Lib.hid htb
  have HB2 := Lib.hid (HB1.out.alloc HB1.out.size (.cells #[.slice A0 T.category.length k0, .slice A1 T.cls.length k1, .slice A2 T.joining.length k2, .slice A3 T.bidi.length k3, .slice A4 T.script.length k4, .slice A5 T.status.length k5, .slice A6 T.ignorable.length k6, .slice A7 T.extensions.length k7, .slice A8 T.maps.length k8, .slice A9 T.decomps.length k9, .slice A10 T.excluded.length k10, .slice A11 T.prototypes.length k11] 31))
  clear htb HT1 HT
  generalize w1.alloc (.cells #[.slice A0 T.category.length k0, .slice A1 T.cls.length k1, .slice A2 T.joining.length k2, .slice A3 T.bidi.length k3, .slice A4 T.script.length k4, .slice A5 T.status.length k5, .slice A6 T.ignorable.length k6, .slice A7 T.extensions.length k7, .slice A8 T.maps.length k8, .slice A9 T.decomps.length k9, .slice A10 T.excluded.length k10, .slice A11 T.prototypes.length k11] 31) = w2 at *
  generalize w1.heap.size = tb at *
  clear ht
  have hck := HM1.out.check
  have HG2 := Lib.hid (HG.out.later HB2.out)
  have HM2 := Lib.hid (HM.out.later HB2.out)
  have HO2 := Lib.hid (HO.out.later HB2.out)
  have HR2 := Lib.hid (HR.out.later HB2.out)
  clear HG HM HO HR HM1
  go_upto_region 3 with (first
    | (go_at_call 13; refine (points_any _ (.slice Am ms.length cm) ms HM2.out).mono ?_; rintro e w3 ⟨u3, as_, rfl, hi3, hal, has, b3⟩; obtain ⟨A3, c3, rfl, _⟩ := id hi3; have HA3 := Lib.hid hi3; have HSA := Lib.hid (List.all_eq_true.2 has); have B3 := Lib.hid b3; clear hi3 b3 HM2 has)
    | (go_at_call 13; refine (points_any _ (.slice Ao os_.length co) os_ (HO2.out.later B3.out)).mono ?_; rintro e w4 ⟨u4, bs, rfl, hi4, hbl, hbs, b4⟩; obtain ⟨A4, c4, rfl, _⟩ := id hi4; have HB4 := Lib.hid hi4; have HSB := Lib.hid (List.all_eq_true.2 hbs); have HA4 := Lib.hid (HA3.out.later b4); have B4 := Lib.hid (below_next B3.out b4); clear hi4 b4 hbs HA3 HO2)
    | (go_at_call 13; refine (points_any _ (.slice Ar rs.length cr) rs (HR2.out.later B4.out)).mono ?_; rintro e w5 ⟨u5, cs, rfl, hi5, hcl, hcs, b5⟩; obtain ⟨A5, c5, rfl, _⟩ := id hi5; have HC5 := Lib.hid hi5; have HSC := Lib.hid (List.all_eq_true.2 hcs); have HA5 := Lib.hid (HA4.out.later b5); have HB5 := Lib.hid (HB4.out.later b5); have B5 := Lib.hid (below_next B4.out b5); clear hi5 b5 hcs HA4 HB4 HR2))
  have HTq := Lib.hid (HT2.out.later B5.out)
  have HGq := Lib.hid (HG2.out.later B5.out)
  have HBq := Lib.hid (below_next HB2.out B5.out)
  clear HT2 HG2 HB2 B3 B4 B5
  by_cases hb1 : 1 < bs.length
  · by_cases ha1 : 1 < as_.length
    · have q1 : (1 : Int) < (bs.length : Int) := by omega
      have q2 : (1 : Int) < (as_.length : Int) := by omega
      have fc1 : (1 : Int) ≤ (c3 : Int) := by have := ints_cap HA5.out; omega
      have fc2 : (1 : Int) ≤ (bs.length : Int) := by omega
      have fc5 : bs.length ≤ c4 := ints_cap HB5.out
      have fc6 : (bs.length : Int) ≤ (c4 : Int) := by omega
      have fc7 : (1 : Int) ≤ (c4 : Int) := by omega
      have fc8 : (0 : Int) ≤ 1 := by decide
      have fc9 : ¬ c4 = 1 := by omega
      obtain ⟨i0, hi, hz0, hz1, hz2⟩ := info_parts Tryd.infoInt'
      go_upto_region 4 with fail
      have HL1 := Lib.hid ((ints_take1 HA5.out (by omega)).below ((Below.refl w5.heap.size w5).drew))
      have HL2 := Lib.hid ((ints_drop1 HB5.out (by omega)).below ((Below.refl w5.heap.size w5).drew))
      have HSQ := Lib.hid (scal_mix HSA.out HSB.out)
      have hla : (as_.take 1).length = 1 := by rw [List.length_take]; omega
      have hlb : (bs.drop 1).length = bs.length - 1 := List.length_drop
      have HLA := Lib.hid hla
      have HLB := Lib.hid hlb
      clear hla hlb
      generalize as_.take 1 = la at *
      generalize bs.drop 1 = lb at *
      go_region_law (first
        | (refine step_app_ints rfl (.const (.slice none 0 0)) (.tmp 40) rfl Tryd.underlying24 hi hz0 hz1 hz2 w5.heap.size w5.heap.size (.slice none 0 0) [] (.slice A3 1 c3) la rfl rfl (World.ownsRow_nil _ _ _ _) HL1.out (by have := HLA.out; simp; omega) (Nat.le_refl _) ?_; intro v6 w6 ho6 hg6; simp only [List.nil_append] at ho6; obtain ⟨A6, c6, rfl, _⟩ := id (Ints.of_own ho6); have HO6 := Lib.hid ho6; have HG6 := Lib.hid (((Below.refl w5.heap.size w5).drew).grown hg6 (Nat.le_refl _) (fun q hq => by cases hq)); have HL6 := Lib.hid (HL2.out.below (((Below.refl w5.heap.size w5.drew)).grown hg6 (Nat.le_refl _) (fun q hq => by cases hq))); clear ho6 hg6)
        | (refine step_app_ints rfl (.tmp 41) (.tmp 43) rfl Tryd.underlying24 hi hz0 hz1 hz2 w5.heap.size w5.heap.size (.slice A6 la.length c6) la (.slice (Option.map (fun x => { block := x.block, off := x.off + 1 }) A4) (bs.length - 1) (c4 - 1)) lb rfl rfl HO6.out HL6.out (by have := HLA.out; have := HLB.out; omega) HG6.out.size ?_; intro v7 w7 ho7 hg7; obtain ⟨bq, hbq⟩ : ∃ bq, la ++ lb = bq := ⟨_, rfl⟩; rw [hbq] at ho7; have HBQ := Lib.hid hbq; clear hbq; obtain ⟨A7, c7, rfl, _⟩ := id (Ints.of_own ho7); have HO7 := Lib.hid ho7; have HG7 := Lib.hid (HG6.out.grown hg7 HG6.out.size (fun q hq => (HO6.out.lt q hq).1)); clear ho7 hg7))
      have HQq := Lib.hid (Ints.of_own HO7.out)
      have HAq := Lib.hid (HA5.out.later HG7.out)
      have HCq := Lib.hid (HC5.out.later HG7.out)
      have HTq2 := Lib.hid (HTq.out.later HG7.out)
      have HGq2 := Lib.hid (HGq.out.later HG7.out)
      have HBq2 := Lib.hid (below_next HBq.out HG7.out)
      have hbq : bq.length ≤ 200 := by have := HLA.out; have := HLB.out; rw [← HBQ.out, List.length_append]; omega
      have HSQ2 : Hid (bq.all scalarB = true) := Lib.hid (by rw [← HBQ.out]; exact HSQ.out)
      clear HSQ
      have HSQ := HSQ2
      clear HSQ2
      clear HL1 HL2 HL6 HO6 HG6 HO7 HG7 HA5 HB5 HC5 HTq HGq HBq HSB fc1 fc2 fc5 fc6 fc7 fc8 fc9
      have HTq := HTq2
      have HGq := HGq2
      have HBq := HBq2
      clear HTq2 HGq2 HBq2
      generalize w7 = wq at *
      obtain ⟨X, Z, Y, h1, h2, h3, h4, h5, h6⟩ := equiv_laws hck HSA.out (by omega) HSQ.out (by omega) HSC.out (by omega)
      have H1 := Lib.hid (fun W (h : Below wq.heap.size wq W) => equiv_eq (HTq.out.later h).2 (HGq.out.later h) (HAq.out.later h) (HQq.out.later h) h1)
      have H2 := Lib.hid (fun W (h : Below wq.heap.size wq W) => equiv_eq (HTq.out.later h).2 (HGq.out.later h) (HQq.out.later h) (HAq.out.later h) h2)
      have H3 := Lib.hid (fun W (h : Below wq.heap.size wq W) => equiv_eq (HTq.out.later h).2 (HGq.out.later h) (HQq.out.later h) (HCq.out.later h) h3)
      have H4 := Lib.hid (fun W (h : Below wq.heap.size wq W) => equiv_eq (HTq.out.later h).2 (HGq.out.later h) (HAq.out.later h) (HCq.out.later h) h4)
      have H5 := Lib.hid (fun W (h : Below wq.heap.size wq W) => equiv_eq (HTq.out.later h).2 (HGq.out.later h) (HAq.out.later h) (HAq.out.later h) h5)
      have H6 := Lib.hid h6
      clear h1 h2 h3 h4 h5 h6
      obtain ⟨x0, x1, x2, x3, x4, x5, x6, x7, x8, x9, x10, x11⟩ := HTq.out.1.tab
      go_upto_region 6 with (go_at_call 19; refine (H1.out _ (Below.refl _ _)).mono ?_; rintro e v1 ⟨rfl, b⟩; have C1 := Lib.hid b; clear b H1)
      clear x0 x1 x2 x3 x4 x5 x6 x7 x8 x9 x10 x11
      obtain ⟨x0, x1, x2, x3, x4, x5, x6, x7, x8, x9, x10, x11⟩ := (HTq.out.later C1.out).1.tab
      go_upto_region 7 with (go_at_call 19; refine (H2.out _ C1.out).mono ?_; rintro e v2 ⟨rfl, b⟩; have C2 := Lib.hid (below_next C1.out b); clear b H2)
      clear x0 x1 x2 x3 x4 x5 x6 x7 x8 x9 x10 x11
      obtain ⟨x0, x1, x2, x3, x4, x5, x6, x7, x8, x9, x10, x11⟩ := (HTq.out.later C2.out).1.tab
      go_upto_region 8 with (go_at_call 19; refine (H3.out _ C2.out).mono ?_; rintro e v3 ⟨rfl, b⟩; have C3 := Lib.hid (below_next C2.out b); clear b H3)
      clear x0 x1 x2 x3 x4 x5 x6 x7 x8 x9 x10 x11
      obtain ⟨x0, x1, x2, x3, x4, x5, x6, x7, x8, x9, x10, x11⟩ := (HTq.out.later C3.out).1.tab
      go_upto_region 9 with (go_at_call 19; refine (H4.out _ C3.out).mono ?_; rintro e v4 ⟨rfl, b⟩; have C4 := Lib.hid (below_next C3.out b); clear b H4)
      clear x0 x1 x2 x3 x4 x5 x6 x7 x8 x9 x10 x11
      obtain ⟨x0, x1, x2, x3, x4, x5, x6, x7, x8, x9, x10, x11⟩ := (HTq.out.later C4.out).1.tab
      go_upto_region 10 with (go_at_call 19; refine (H5.out _ C4.out).mono ?_; rintro e v5 ⟨rfl, b⟩; have C5 := Lib.hid (below_next C4.out b); clear b H5)
      clear x0 x1 x2 x3 x4 x5 x6 x7 x8 x9 x10 x11
      cases X with
      | false =>
        go_wp2_with (go_at_call 20; refine (awake7 _ (HGq.out.later C5.out)).mono ?_; rintro e v6 ⟨rfl, b6⟩)
        go_ret
        exact ⟨rfl, below_next HBq.out (below_next C5.out b6)⟩
      | true =>
        cases Z with
        | false =>
          go_wp2_with (go_at_call 20; refine (awake7 _ (HGq.out.later C5.out)).mono ?_; rintro e v6 ⟨rfl, b6⟩)
          go_ret
          exact ⟨rfl, below_next HBq.out (below_next C5.out b6)⟩
        | true =>
          obtain rfl : Y = true := H6.out rfl rfl
          go_wp2_with (go_at_call 20; refine (awake7 _ (HGq.out.later C5.out)).mono ?_; rintro e v6 ⟨rfl, b6⟩)
          go_ret
          exact ⟨rfl, below_next HBq.out (below_next C5.out b6)⟩
    · have q1 : (1 : Int) < (bs.length : Int) := by omega
      have q2 : ¬ (1 : Int) < (as_.length : Int) := by omega
      have HSQ := HSB
      have HQq := HB5
      have HAq := HA5
      have HCq := HC5
      clear HSB HB5 HA5 HC5
      generalize w5 = wq at *
      obtain ⟨X, Z, Y, h1, h2, h3, h4, h5, h6⟩ := equiv_laws hck HSA.out (by omega) HSQ.out (by omega) HSC.out (by omega)
      have H1 := Lib.hid (fun W (h : Below wq.heap.size wq W) => equiv_eq (HTq.out.later h).2 (HGq.out.later h) (HAq.out.later h) (HQq.out.later h) h1)
      have H2 := Lib.hid (fun W (h : Below wq.heap.size wq W) => equiv_eq (HTq.out.later h).2 (HGq.out.later h) (HQq.out.later h) (HAq.out.later h) h2)
      have H3 := Lib.hid (fun W (h : Below wq.heap.size wq W) => equiv_eq (HTq.out.later h).2 (HGq.out.later h) (HQq.out.later h) (HCq.out.later h) h3)
      have H4 := Lib.hid (fun W (h : Below wq.heap.size wq W) => equiv_eq (HTq.out.later h).2 (HGq.out.later h) (HAq.out.later h) (HCq.out.later h) h4)
      have H5 := Lib.hid (fun W (h : Below wq.heap.size wq W) => equiv_eq (HTq.out.later h).2 (HGq.out.later h) (HAq.out.later h) (HAq.out.later h) h5)
      have H6 := Lib.hid h6
      clear h1 h2 h3 h4 h5 h6
      obtain ⟨x0, x1, x2, x3, x4, x5, x6, x7, x8, x9, x10, x11⟩ := HTq.out.1.tab
      go_upto_region 6 with (go_at_call 19; refine (H1.out _ (Below.refl _ _)).mono ?_; rintro e v1 ⟨rfl, b⟩; have C1 := Lib.hid b; clear b H1)
      clear x0 x1 x2 x3 x4 x5 x6 x7 x8 x9 x10 x11
      obtain ⟨x0, x1, x2, x3, x4, x5, x6, x7, x8, x9, x10, x11⟩ := (HTq.out.later C1.out).1.tab
      go_upto_region 7 with (go_at_call 19; refine (H2.out _ C1.out).mono ?_; rintro e v2 ⟨rfl, b⟩; have C2 := Lib.hid (below_next C1.out b); clear b H2)
      clear x0 x1 x2 x3 x4 x5 x6 x7 x8 x9 x10 x11
      obtain ⟨x0, x1, x2, x3, x4, x5, x6, x7, x8, x9, x10, x11⟩ := (HTq.out.later C2.out).1.tab
      go_upto_region 8 with (go_at_call 19; refine (H3.out _ C2.out).mono ?_; rintro e v3 ⟨rfl, b⟩; have C3 := Lib.hid (below_next C2.out b); clear b H3)
      clear x0 x1 x2 x3 x4 x5 x6 x7 x8 x9 x10 x11
      obtain ⟨x0, x1, x2, x3, x4, x5, x6, x7, x8, x9, x10, x11⟩ := (HTq.out.later C3.out).1.tab
      go_upto_region 9 with (go_at_call 19; refine (H4.out _ C3.out).mono ?_; rintro e v4 ⟨rfl, b⟩; have C4 := Lib.hid (below_next C3.out b); clear b H4)
      clear x0 x1 x2 x3 x4 x5 x6 x7 x8 x9 x10 x11
      obtain ⟨x0, x1, x2, x3, x4, x5, x6, x7, x8, x9, x10, x11⟩ := (HTq.out.later C4.out).1.tab
      go_upto_region 10 with (go_at_call 19; refine (H5.out _ C4.out).mono ?_; rintro e v5 ⟨rfl, b⟩; have C5 := Lib.hid (below_next C4.out b); clear b H5)
      clear x0 x1 x2 x3 x4 x5 x6 x7 x8 x9 x10 x11
      cases X with
      | false =>
        go_wp2_with (go_at_call 20; refine (awake7 _ (HGq.out.later C5.out)).mono ?_; rintro e v6 ⟨rfl, b6⟩)
        go_ret
        exact ⟨rfl, below_next HBq.out (below_next C5.out b6)⟩
      | true =>
        cases Z with
        | false =>
          go_wp2_with (go_at_call 20; refine (awake7 _ (HGq.out.later C5.out)).mono ?_; rintro e v6 ⟨rfl, b6⟩)
          go_ret
          exact ⟨rfl, below_next HBq.out (below_next C5.out b6)⟩
        | true =>
          obtain rfl : Y = true := H6.out rfl rfl
          go_wp2_with (go_at_call 20; refine (awake7 _ (HGq.out.later C5.out)).mono ?_; rintro e v6 ⟨rfl, b6⟩)
          go_ret
          exact ⟨rfl, below_next HBq.out (below_next C5.out b6)⟩
  · have q1 : ¬ (1 : Int) < (bs.length : Int) := by omega
    have HSQ := HSB
    have HQq := HB5
    have HAq := HA5
    have HCq := HC5
    clear HSB HB5 HA5 HC5
    generalize w5 = wq at *
    obtain ⟨X, Z, Y, h1, h2, h3, h4, h5, h6⟩ := equiv_laws hck HSA.out (by omega) HSQ.out (by omega) HSC.out (by omega)
    have H1 := Lib.hid (fun W (h : Below wq.heap.size wq W) => equiv_eq (HTq.out.later h).2 (HGq.out.later h) (HAq.out.later h) (HQq.out.later h) h1)
    have H2 := Lib.hid (fun W (h : Below wq.heap.size wq W) => equiv_eq (HTq.out.later h).2 (HGq.out.later h) (HQq.out.later h) (HAq.out.later h) h2)
    have H3 := Lib.hid (fun W (h : Below wq.heap.size wq W) => equiv_eq (HTq.out.later h).2 (HGq.out.later h) (HQq.out.later h) (HCq.out.later h) h3)
    have H4 := Lib.hid (fun W (h : Below wq.heap.size wq W) => equiv_eq (HTq.out.later h).2 (HGq.out.later h) (HAq.out.later h) (HCq.out.later h) h4)
    have H5 := Lib.hid (fun W (h : Below wq.heap.size wq W) => equiv_eq (HTq.out.later h).2 (HGq.out.later h) (HAq.out.later h) (HAq.out.later h) h5)
    have H6 := Lib.hid h6
    clear h1 h2 h3 h4 h5 h6
    obtain ⟨x0, x1, x2, x3, x4, x5, x6, x7, x8, x9, x10, x11⟩ := HTq.out.1.tab
    go_upto_region 6 with (go_at_call 19; refine (H1.out _ (Below.refl _ _)).mono ?_; rintro e v1 ⟨rfl, b⟩; have C1 := Lib.hid b; clear b H1)
    clear x0 x1 x2 x3 x4 x5 x6 x7 x8 x9 x10 x11
    obtain ⟨x0, x1, x2, x3, x4, x5, x6, x7, x8, x9, x10, x11⟩ := (HTq.out.later C1.out).1.tab
    go_upto_region 7 with (go_at_call 19; refine (H2.out _ C1.out).mono ?_; rintro e v2 ⟨rfl, b⟩; have C2 := Lib.hid (below_next C1.out b); clear b H2)
    clear x0 x1 x2 x3 x4 x5 x6 x7 x8 x9 x10 x11
    obtain ⟨x0, x1, x2, x3, x4, x5, x6, x7, x8, x9, x10, x11⟩ := (HTq.out.later C2.out).1.tab
    go_upto_region 8 with (go_at_call 19; refine (H3.out _ C2.out).mono ?_; rintro e v3 ⟨rfl, b⟩; have C3 := Lib.hid (below_next C2.out b); clear b H3)
    clear x0 x1 x2 x3 x4 x5 x6 x7 x8 x9 x10 x11
    obtain ⟨x0, x1, x2, x3, x4, x5, x6, x7, x8, x9, x10, x11⟩ := (HTq.out.later C3.out).1.tab
    go_upto_region 9 with (go_at_call 19; refine (H4.out _ C3.out).mono ?_; rintro e v4 ⟨rfl, b⟩; have C4 := Lib.hid (below_next C3.out b); clear b H4)
    clear x0 x1 x2 x3 x4 x5 x6 x7 x8 x9 x10 x11
    obtain ⟨x0, x1, x2, x3, x4, x5, x6, x7, x8, x9, x10, x11⟩ := (HTq.out.later C4.out).1.tab
    go_upto_region 10 with (go_at_call 19; refine (H5.out _ C4.out).mono ?_; rintro e v5 ⟨rfl, b⟩; have C5 := Lib.hid (below_next C4.out b); clear b H5)
    clear x0 x1 x2 x3 x4 x5 x6 x7 x8 x9 x10 x11
    cases X with
    | false =>
      go_wp2_with (go_at_call 20; refine (awake7 _ (HGq.out.later C5.out)).mono ?_; rintro e v6 ⟨rfl, b6⟩)
      go_ret
      exact ⟨rfl, below_next HBq.out (below_next C5.out b6)⟩
    | true =>
      cases Z with
      | false =>
        go_wp2_with (go_at_call 20; refine (awake7 _ (HGq.out.later C5.out)).mono ?_; rintro e v6 ⟨rfl, b6⟩)
        go_ret
        exact ⟨rfl, below_next HBq.out (below_next C5.out b6)⟩
      | true =>
        obtain rfl : Y = true := H6.out rfl rfl
        go_wp2_with (go_at_call 20; refine (awake7 _ (HGq.out.later C5.out)).mono ?_; rintro e v6 ⟨rfl, b6⟩)
        go_ret
        exact ⟨rfl, below_next HBq.out (below_next C5.out b6)⟩
theorem DecomposeEquivalent_walk (W : World) (hg : Glob W) (v : Value) (xs : List Int) (hv : Ints W W.heap.size .i64 v xs) (_ : ∀ x ∈ xs, -9223372036854775808 ≤ x ∧ x ≤ 9223372036854775807) (_ : xs.length * 8 ≤ 140737488351232) (vm : Value) (ms : List Int) (hvm : Ints W W.heap.size .i64 vm ms) (_ : ∀ x ∈ ms, -9223372036854775808 ≤ x ∧ x ≤ 9223372036854775807) (_ : ms.length * 8 ≤ 140737488351232) (vo : Value) (os_ : List Int) (hvo : Ints W W.heap.size .i64 vo os_) (_ : ∀ x ∈ os_, -9223372036854775808 ≤ x ∧ x ≤ 9223372036854775807) (_ : os_.length * 8 ≤ 140737488351232) (vr : Value) (rs : List Int) (hvr : Ints W W.heap.size .i64 vr rs) (_ : ∀ x ∈ rs, -9223372036854775808 ≤ x ∧ x ≤ 9223372036854775807) (_ : rs.length * 8 ≤ 140737488351232) :
    Calls Tryd.prog 6 #[v, vm, vo, vr] W fun e W' => e = .returned (.bool true) ∧ Below W.heap.size W W' := DecomposeEquivalent_go W hg v xs hv vm ms hvm vo os_ hvo vr rs hvr
end Go.Proofs.YtecpbicfiaifdaaDoor
