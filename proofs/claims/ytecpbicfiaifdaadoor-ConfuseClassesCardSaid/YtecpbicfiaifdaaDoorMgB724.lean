/-
  Merged texts: lemmas and walks that the last text of this claim leans on.
-/
import Derived.Test.YtecpbicfiaifdaaDoorMgB723
import Derived.Test.YtecpbicfiaifdaaDoorMgB715
import Derived.Deep.DeepHandedRow
import Derived.Test.YtecpbicfiaifdaaDoorRows
import Derived.WalkKit
import Derived.ProofKit
import Derived.OpenShut
import Derived.ShutString
import Derived.SizedLaws
import Derived.Test.YtecpbicfiaifdaaDoorMgB72
import Derived.Test.YtecpbicfiaifdaaDoorMgB71
import Derived.Test.YtecpbicfiaifdaaDoorMgB721
/-
  Plain mathematics of chapter 21: classes of sequences with the same skeleton. No program in sight.
-/
namespace Go.Proofs.YtecpbicfiaifdaaDoor
open Go.RowKit ND

/-- The skeleton of each sequence. -/
def skels (T : Tab) (ls : List (List Int)) : List (List Int) := ls.map fun l => (skelR T l).1
/-- The first error. -/
def firstE (T : Tab) : List (List Int) → Int
  | [] => 0
  | l :: r => if (skelR T l).2 ≠ 0 then (skelR T l).2 else firstE T r
/-- The index of the first that equals s. -/
def firstI (s : List Int) : Nat → List (List Int) → Nat
  | i, [] => i
  | i, x :: r => if x = s then i else firstI s (i + 1) r
def classOfI (ss : List (List Int)) (s : List Int) : Int := (firstI s 0 ss : Nat)
def classesL (T : Tab) (ls : List (List Int)) : List Int := (skels T ls).map (classOfI (skels T ls))
/-- What Classes hands back. -/
def classesR (T : Tab) (ls : List (List Int)) : List Int × Int := if 256 < ls.length then ([], 7) else if firstE T ls ≠ 0 then ([], firstE T ls) else (classesL T ls, 0)
/-- What Twins finds in the classes. -/
def twinsGo : Nat → List Int → Int × Int × Bool
  | _, [] => (0, 0, false)
  | j, i :: r => if i < (j : Int) then (i, (j : Int), true) else twinsGo (j + 1) r
def twinsR (T : Tab) (ls : List (List Int)) : Int × Int × Bool := twinsGo 0 (classesR T ls).1
/-- The first index at which two lists differ, or -1. -/
def diffGo : Nat → List Int → List Int → Int
  | _, [], [] => -1
  | i, [], _ :: _ => i
  | i, _ :: _, [] => i
  | i, x :: a, y :: b => if x = y then diffGo (i + 1) a b else i
def differL (x y : List Int) : Int := diffGo 0 x y
/-- The first of two errors. -/
def bothE (T : Tab) (a b : List Int) : Int := if (skelR T a).2 ≠ 0 then (skelR T a).2 else (skelR T b).2
def differR (T : Tab) (a b : List Int) : Int × Int := if bothE T a b ≠ 0 then (0, bothE T a b) else (differL (skelR T a).1 (skelR T b).1, 0)
def sameR (T : Tab) (a b : List Int) : Bool × Int := (bothE T a b == 0 && decide ((skelR T a).1 = (skelR T b).1), bothE T a b)

theorem firstE_zero {T : Tab} : ∀ {ls : List (List Int)}, firstE T ls = 0 ↔ ∀ l ∈ ls, (skelR T l).2 = 0 := by
  intro ls
  induction ls with
  | nil => simp [firstE]
  | cons l r ih =>
    rw [firstE]
    by_cases h : (skelR T l).2 = 0
    · rw [if_neg (by omega), ih]; simp [h]
    · rw [if_pos h]; simp [h]
theorem firstE_step {T : Tab} {ls : List (List Int)} {i : Nat} {l : List Int} (hl : ls[i]? = some l) : firstE T (ls.drop i) = if (skelR T l).2 ≠ 0 then (skelR T l).2 else firstE T (ls.drop (i + 1)) := by
  obtain ⟨h1, e⟩ := List.getElem?_eq_some_iff.1 hl
  rw [List.drop_eq_getElem_cons h1, e, firstE]
theorem firstI_shift (s : List Int) : ∀ (ss : List (List Int)) (i : Nat), firstI s i ss = firstI s 0 ss + i := by
  intro ss
  induction ss with
  | nil => intro i; simp [firstI]
  | cons x r ih =>
    intro i
    rw [firstI, firstI]
    split
    · omega
    · rw [ih (i + 1), ih (0 + 1)]; omega
theorem firstI_le (s : List Int) : ∀ ss : List (List Int), firstI s 0 ss ≤ ss.length := by
  intro ss
  induction ss with
  | nil => simp [firstI]
  | cons x r ih =>
    rw [firstI]
    split
    · omega
    · rw [firstI_shift, List.length_cons]; omega
/-- The first that equals s, found. -/
theorem firstI_at {s : List Int} : ∀ {ss : List (List Int)} {k : Nat}, ss[k]? = some s → (∀ j x, j < k → ss[j]? = some x → x ≠ s) → firstI s 0 ss = k := by
  intro ss
  induction ss with
  | nil => intro k h; simp at h
  | cons x r ih =>
    intro k h hn
    rw [firstI]
    cases k with
    | zero => simp at h; rw [if_pos h]
    | succ k =>
      rw [if_neg (hn 0 x (by omega) (by simp)), firstI_shift, ih (by simpa using h) fun j y hj hy => hn (j + 1) y (by omega) (by simpa using hy)]
theorem firstI_spec {s : List Int} {ss : List (List Int)} {i : Nat} (h : ss[i]? = some s) : firstI s 0 ss ≤ i ∧ ss[firstI s 0 ss]? = some s ∧ ∀ j x, j < firstI s 0 ss → ss[j]? = some x → x ≠ s := by
  have key : ∀ (n : Nat), (∃ k, k ≤ n ∧ ss[k]? = some s) → ∃ k, k ≤ n ∧ ss[k]? = some s ∧ ∀ j x, j < k → ss[j]? = some x → x ≠ s := by
    intro n
    induction n with
    | zero => rintro ⟨k, hk, e⟩; exact ⟨k, hk, e, fun j x hj => by omega⟩
    | succ n ih =>
      rintro ⟨k, hk, e⟩
      by_cases h1 : ∃ k, k ≤ n ∧ ss[k]? = some s
      · obtain ⟨k', h2, h3, h4⟩ := ih h1
        exact ⟨k', by omega, h3, h4⟩
      · refine ⟨k, hk, e, fun j x hj hx hxs => h1 ⟨j, by omega, ?_⟩⟩
        rw [hx, hxs]
  obtain ⟨k, h1, h2, h3⟩ := key i ⟨i, Nat.le_refl _, h⟩
  rw [firstI_at h2 h3]
  exact ⟨h1, h2, h3⟩
/-- Two have the same class exactly if they are the same. -/
theorem classOfI_eq {ss : List (List Int)} {s u : List Int} {i j : Nat} (hs : ss[i]? = some s) (hu : ss[j]? = some u) : classOfI ss s = classOfI ss u ↔ s = u := by
  constructor
  · intro h
    unfold classOfI at h
    have h1 := (firstI_spec hs).2.1
    have h2 := (firstI_spec hu).2.1
    rw [show firstI s 0 ss = firstI u 0 ss by omega] at h1
    rw [h1] at h2; cases h2; rfl
  · rintro rfl; rfl
theorem skels_at {T : Tab} {ls : List (List Int)} {i : Nat} {l : List Int} (h : ls[i]? = some l) : (skels T ls)[i]? = some (skelR T l).1 := by unfold skels; rw [List.getElem?_map, h]; rfl
theorem classesL_at {T : Tab} {ls : List (List Int)} {i : Nat} {l : List Int} (h : ls[i]? = some l) : (classesL T ls)[i]? = some (classOfI (skels T ls) (skelR T l).1) := by unfold classesL; rw [List.getElem?_map, skels_at h]; rfl
theorem classesL_length (T : Tab) (ls : List (List Int)) : (classesL T ls).length = ls.length := by unfold classesL skels; simp
theorem skels_length (T : Tab) (ls : List (List Int)) : (skels T ls).length = ls.length := by unfold skels; simp
/-- The class of the i-th, out of those ahead of it. -/
theorem class_hit {T : Tab} {ls : List (List Int)} {k : Nat} {l x : List Int} (hx : ls[k]? = some x) (he : (skelR T x).1 = (skelR T l).1) (hn : ∀ j y, j < k → ls[j]? = some y → (skelR T y).1 ≠ (skelR T l).1) : classOfI (skels T ls) (skelR T l).1 = (k : Int) := by
  unfold classOfI
  rw [firstI_at (k := k) (by rw [skels_at hx, he]) fun j y hj hy => ?_]
  unfold skels at hy
  rw [List.getElem?_map] at hy
  cases hz : ls[j]? with
  | none => rw [hz] at hy; cases hy
  | some z => rw [hz] at hy; cases hy; exact hn j z hj hz
theorem class_new {T : Tab} {ls : List (List Int)} {i : Nat} {l : List Int} (hl : ls[i]? = some l) (hn : ∀ j y, j < i → ls[j]? = some y → (skelR T y).1 ≠ (skelR T l).1) : classOfI (skels T ls) (skelR T l).1 = (i : Int) := by
  unfold classOfI
  rw [firstI_at (k := i) (skels_at hl) fun j y hj hy => ?_]
  unfold skels at hy
  rw [List.getElem?_map] at hy
  cases hz : ls[j]? with
  | none => rw [hz] at hy; cases hy
  | some z => rw [hz] at hy; cases hy; exact hn j z hj hz
theorem twins_step {cl : List Int} {j : Nat} {i : Int} (h : cl[j]? = some i) : twinsGo j (cl.drop j) = if i < (j : Int) then (i, (j : Int), true) else twinsGo (j + 1) (cl.drop (j + 1)) := by
  obtain ⟨h1, e⟩ := List.getElem?_eq_some_iff.1 h
  rw [List.drop_eq_getElem_cons h1, e, twinsGo]
theorem twins_end {cl : List Int} {j : Nat} (h : cl.length ≤ j) : twinsGo j (cl.drop j) = (0, 0, false) := by rw [List.drop_of_length_le h]; rfl
/-- The first that has twins. -/
theorem twins_hit {cl : List Int} : ∀ (n j : Nat) {i : Int}, cl[n]? = some i → j ≤ n → i < (n : Int) → (∀ k x, j ≤ k → k < n → cl[k]? = some x → ¬ x < (k : Int)) → twinsGo j (cl.drop j) = (i, (n : Int), true) := by
  intro n j
  induction h : n - j generalizing j with
  | zero =>
    intro i h1 h2 h3 h4
    obtain rfl : j = n := by omega
    rw [twins_step h1, if_pos h3]
  | succ m ih =>
    intro i h1 h2 h3 h4
    obtain ⟨x, hx⟩ : ∃ x, cl[j]? = some x := ⟨_, List.getElem?_eq_getElem (by have := (List.getElem?_eq_some_iff.1 h1).1; omega)⟩
    rw [twins_step hx, if_neg (h4 j x (Nat.le_refl _) (by omega) hx)]
    exact ih (j + 1) (by omega) h1 (by omega) h3 fun k y hk => h4 k y (by omega)
theorem twins_none {cl : List Int} : ∀ (n j : Nat), n = cl.length - j → (∀ k x, j ≤ k → cl[k]? = some x → ¬ x < (k : Int)) → twinsGo j (cl.drop j) = (0, 0, false) := by
  intro n
  induction n with
  | zero => intro j h _; exact twins_end (by omega)
  | succ m ih =>
    intro j h h4
    obtain ⟨x, hx⟩ : ∃ x, cl[j]? = some x := ⟨_, List.getElem?_eq_getElem (by omega)⟩
    rw [twins_step hx, if_neg (h4 j x (Nat.le_refl _) hx)]
    exact ih (j + 1) (by omega) fun k y hk => h4 k y (by omega)
theorem diffGo_neg : ∀ (x y : List Int) (i : Nat), diffGo i x y = -1 ↔ x = y := by
  intro x
  induction x with
  | nil =>
    intro y i
    cases y with
    | nil => simp [diffGo]
    | cons b r => simp only [diffGo]; constructor
                  · intro h; omega
                  · intro h; cases h
  | cons a r ih =>
    intro y i
    cases y with
    | nil => simp only [diffGo]; constructor
             · intro h; omega
             · intro h; cases h
    | cons b s =>
      rw [diffGo]
      by_cases h : a = b
      · rw [if_pos h, ih]; simp [h]
      · rw [if_neg h]; constructor
        · intro h2; omega
        · intro h2; cases h2; exact absurd rfl h
theorem diffGo_ge : ∀ (x y : List Int) (i : Nat), -1 ≤ diffGo i x y := by
  intro x
  induction x with
  | nil => intro y i; cases y <;> simp only [diffGo] <;> omega
  | cons a r ih =>
    intro y i
    cases y with
    | nil => simp only [diffGo]; omega
    | cons b s => rw [diffGo]; split
                  · exact ih s (i + 1)
                  · omega
theorem differL_neg (x y : List Int) : differL x y = -1 ↔ x = y := diffGo_neg x y 0
theorem diff_on {x y : List Int} {i : Nat} {a b : Int} (hx : x[i]? = some a) (hy : y[i]? = some b) : diffGo i (x.drop i) (y.drop i) = if a = b then diffGo (i + 1) (x.drop (i + 1)) (y.drop (i + 1)) else (i : Int) := by
  obtain ⟨h1, e1⟩ := List.getElem?_eq_some_iff.1 hx
  obtain ⟨h2, e2⟩ := List.getElem?_eq_some_iff.1 hy
  rw [List.drop_eq_getElem_cons h1, List.drop_eq_getElem_cons h2, e1, e2, diffGo]
theorem diff_end {x y : List Int} {i : Nat} (h : x.length ≤ i ∨ y.length ≤ i) (hx : i ≤ x.length) (hy : i ≤ y.length) : diffGo i (x.drop i) (y.drop i) = if x.length = y.length then -1 else (i : Int) := by
  rcases h with h | h
  · rw [List.drop_of_length_le h]
    cases hd : y.drop i with
    | nil => have := congrArg List.length hd; simp at this; rw [if_pos (by omega)]; rfl
    | cons b r => have := congrArg List.length hd; simp at this; rw [if_neg (by omega)]; rfl
  · rw [List.drop_of_length_le h]
    cases hd : x.drop i with
    | nil => have := congrArg List.length hd; simp at this; rw [if_pos (by omega)]; rfl
    | cons b r => have := congrArg List.length hd; simp at this; rw [if_neg (by omega)]; rfl
end Go.Proofs.YtecpbicfiaifdaaDoor
/-
  A witness for a row that lists the variable table.blocks: the heap that the door's own run leaves.
-/
namespace Go.Proofs.YtecpbicfiaifdaaDoor
open Go.ChangeShapes Go.WideShapes Go.ChangeAt Go.RowKit

theorem witness_door {H : Type} {enc : TypeId × Value → H} {C : Checked} {os : Os} {f : FuncId} {fn : Func} {s : OpenSpec} {conds : List PathCond} {apart : Bool} {laid : List (String × DataW Unit)} (w0 : World) (args : Array Value) (hos : w0.os = os)
    (hsh : (w0.forCall (fun _ _ => 0) ⟨#[], args, []⟩).Shaped C.prog)
    (hok : Input.okWideB C.prog (w0.forCall (fun _ _ => 0) ⟨#[], args, []⟩) f ⟨#[], args, []⟩ = true)
    (hrow : s.preRow enc C.prog fn conds apart laid (w0.forCall (fun _ _ => 0) ⟨#[], args, []⟩).memory args) :
    ∃ (w : World) (tape : Tape) (i : Input), w.os = os ∧ (w.forCall tape i).Shaped C.prog ∧ i.vars = [] ∧ Input.okWide C.prog (w.forCall tape i) .any w.heap.size f i ∧
      s.preRow enc C.prog fn conds apart laid (w.forCall tape i).memory i.args ∧ ({ modest := false } : Assume).holds C.prog (lone (Frame.enter C.prog f i.args .normal) [] (w.forCall tape i)) :=
  ⟨w0, fun _ _ => 0, ⟨#[], args, []⟩, hos, hsh, (Input.okWide_of_okWideB (base := 0) hok).1, (Input.okWide_of_okWideB hok).2, hrow, by
    simp only [Assume.holds]
    exact ⟨by simp, by simp, fun _ => Modest.zero, by simp, by simp⟩⟩
end Go.Proofs.YtecpbicfiaifdaaDoor
/-
  What every law's row asks of the call, once the walk is there: the call returns true, and below the old heap nothing has turned; so each argument reads as it read.
-/
namespace Go.Proofs.YtecpbicfiaifdaaDoor
open Go.ChangeShapes Go.WideShapes Go.ChangeAt Go.RowKit

theorem Tryd.own_ : ownKnob Tryd.prog.godebug = none := by kernel_rfl
theorem Tryd.laidOut_ : laidOutB Tryd.prog = true := by kernel_rfl

section
variable {H : Type} {enc : TypeId × Value → H} {P : Program} {W W' : World}

theorem trodAll_below (hl : laidOutB P = true) (hb : Below W.heap.size W W') : ∀ (ts : List TypeId) (vs : List Value) (ds : List (DataW H)) (ps : List MemPlace),
    (∀ t ∈ ts, P.readableRec t = true ∧ t < P.types.size) → (∀ x ∈ ps, x.block < W.heap.size) →
    DataW.TrodAll enc P W 0 (fun _ => true) true ts vs ds ps → DataW.TrodAll enc P W' 0 (fun b => decide (b < W.heap.size)) true ts vs ds ps
  | [], [], [], _, _, _, h => h
  | t :: ts, v :: vs, d :: ds, ps, hk, hlt, h => by
    obtain ⟨p, q, hp, hq, rfl⟩ := h
    have ht := hk t (by simp)
    exact ⟨p, q, Below.trod hl ht.1 ht.2 hp hb (fun x hx => hlt x (by simp [hx])),
      trodAll_below hl hb ts vs ds q (fun t h => hk t (by simp [h])) (fun x hx => hlt x (by simp [hx])) hq, rfl⟩
  | [], _ :: _, _, _, _, _, h => by simp [DataW.TrodAll] at h
  | [], [], _ :: _, _, _, _, h => by simp [DataW.TrodAll] at h
  | _ :: _, [], _, _, _, _, h => by simp [DataW.TrodAll] at h
  | _ :: _, _ :: _, [], _, _, _, h => by simp [DataW.TrodAll] at h

theorem law_post {f : Func} {s : ChangeSpec} {tb : TypeId} {args : Array Value} {ds : List (DataW H)} {before : List MemPlace} (hl : laidOutB P = true)
    (hk : ∀ t ∈ f.params.toList, P.readableRec t = true ∧ t < P.types.size) (hres : f.resultTypes = #[tb]) (hbool : P.underlying tb = some .bool) (hvars : s.vars = [])
    (hW : DataW.Whole enc P f.params.toList s.vars false W args.toList ds [] before) (hfn : s.fn H (ds ++ []) = { results := [.lit (.bool true)], args := ds })
    (hb : Below W.heap.size W W') : s.post enc P f false true false false W args (.bool true) W' := by
  have hlt : ∀ x ∈ before, x.block < W.heap.size := fun x hx => hW.lt x hx
  have hW' := hW
  obtain ⟨p, q, hA, hV, rfl, _, _⟩ := hW'
  rw [hvars] at hV
  obtain ⟨_, rfl⟩ := trodVars_none hV
  refine ⟨ds, [], p ++ [], [], p, [], hW, ?_, ?_, ?_, hb.frame _, fun h => by cases h⟩
  · rw [hfn, hres]
    exact trodAll_cons_mk (shut_bool hbool true) trodAll_mk0
  · rw [hfn]
    exact trodAll_below hl hb _ _ _ _ hk (fun x hx => hlt x (by simp [hx])) hA
  · rw [hfn, hvars]; rfl
end
end Go.Proofs.YtecpbicfiaifdaaDoor
/-
  Encode and Decode, in plain Lean.
-/
namespace Go.Proofs.YtecpbicfiaifdaaDoor
open Go.RowKit ND

/-- What Decode hands back. -/
def RetDcd (w : World) (r : List Int × Nat × Nat) (e : Ending) (w' : World) : Prop :=
  ∃ v, e = .returned (.tuple #[v, .int .i64 r.2.1, .int .i64 r.2.2]) ∧ Ints w' w'.heap.size .i64 v r.1 ∧ Below w.heap.size w w'
/-- What Encode hands back. -/
def RetEnc (w : World) (r : List UInt8 × Nat) (e : Ending) (w' : World) : Prop :=
  e = .returned (.tuple #[.string ⟨r.1.toArray⟩, .int .i64 r.2]) ∧ Below w.heap.size w w'

theorem decodeL_full {l : List UInt8} (h : 4096 < l.length) : decodeL l = ([], 0, 7) := by unfold decodeL; rw [if_pos h]
theorem decodeL_bad {l : List UInt8} (h : l.length ≤ 4096) (h2 : (scanL l).2 < l.length) : decodeL l = ([], (scanL l).2, 9) := by unfold decodeL; rw [if_neg (by omega), if_pos h2]
theorem decodeL_ok {l : List UInt8} (h : l.length ≤ 4096) (h2 : l.length ≤ (scanL l).2) : decodeL l = ((scanL l).1, 0, 0) := by unfold decodeL; rw [if_neg (by omega), if_neg (by omega)]
theorem size_list (s : ByteArray) : s.data.toList.length = s.size := by rw [Array.length_toList]; rfl

theorem encAll_snoc (cs : List Int) (c : Int) : encAll (cs ++ [c]) = encAll cs ++ encC c := by simp [encAll]
theorem encAll_len (cs : List Int) : (encAll cs).length ≤ 4 * cs.length := by
  induction cs with
  | nil => simp [encAll]
  | cons c cs ih =>
    have h : (encC c).length ≤ 4 := by unfold encC encN; repeat (first | split | simp)
    simp only [encAll, List.flatMap_cons, List.length_append, List.length_cons] at ih ⊢
    omega
theorem take_snoc_of {xs : List Int} {k : Nat} {x : Int} (h : xs[k]? = some x) : xs.take (k + 1) = xs.take k ++ [x] := by
  obtain ⟨h1, h2⟩ := List.getElem?_eq_some_iff.1 h
  rw [List.take_succ_eq_append_getElem h1, h2]
theorem encodeL_full {cs : List Int} (h : 4096 < cs.length) : encodeL cs = ([], 7) := by unfold encodeL; rw [if_pos h]
theorem encodeL_ok {cs : List Int} (h : cs.length ≤ 4096) (h2 : ∀ c ∈ cs, scalarB c = true) : encodeL cs = (encAll cs, 0) := by
  unfold encodeL; rw [if_neg (by omega), if_pos (List.all_eq_true.2 h2)]
theorem encodeL_bad {cs : List Int} {k : Nat} {x : Int} (h : cs.length ≤ 4096) (h1 : cs[k]? = some x) (h2 : scalarB x = false) : encodeL cs = ([], 3) := by
  unfold encodeL
  rw [if_neg (by omega), if_neg]
  intro h3
  have := List.all_eq_true.1 h3 x (List.mem_of_getElem? h1)
  rw [h2] at this
  cases this
end Go.Proofs.YtecpbicfiaifdaaDoor
/-
  Below, whatever name the size of the first heap bears.
-/
namespace Go.Proofs.YtecpbicfiaifdaaDoor
open Go.RowKit
theorem below_w {a b c : World} {B : Nat} (h : Below a.heap.size a b) (k : Below b.heap.size b c) (hB : B = a.heap.size := by first | rfl | omega) : Below B a c := hB ▸ below_next h k
end Go.Proofs.YtecpbicfiaifdaaDoor
/-
  A row of slices of the call's own, beside another row of the call's own.
-/
namespace Go.Proofs.YtecpbicfiaifdaaDoor
open Go.RowKit

/-- A row of the call's own that holds slices; none of them lies in the row itself, nor in the block av. -/
def LRowA (w : World) (base : Nat) (v : Value) (yss : List (List Int)) (av : Option Nat) : Prop :=
  ∃ vs : List Value, vs.length = yss.length ∧ w.ownsRow base 24 1 v yss.length vs ∧
    (∀ (i : Nat) (u : Value) (ys : List Int), vs[i]? = some u → yss[i]? = some ys → ∃ A c, u = .slice A ys.length c ∧ Ints w w.heap.size .i64 u ys ∧ ∀ ad, A = some ad → ad.block < w.heap.size ∧ v.ownBlock ≠ some ad.block ∧ av ≠ some ad.block) ∧
    (∀ g, v.ownBlock = some g → av ≠ some g) ∧ (∀ g, av = some g → g < w.heap.size)
theorem grown_of_gr {w w' : World} {v v' : Value} (h : Gr w v w' v') : w.grownBy w' v.ownBlock :=
  ⟨h.1.1, h.1.2.1, h.1.2.2.1, h.1.2.2.2.1, fun k hk hne => h.1.2.2.2.2 k (fun hm => hne (mem_ownS.1 hm).symm) hk⟩
section
variable {w w' : World} {base : Nat} {v : Value} {yss : List (List Int)} {av : Option Nat}
theorem LRowA.nil (w : World) (base : Nat) : LRowA w base (.slice none 0 0) [] none := ⟨[], rfl, World.ownsRow_nil _ _ _ _, fun i u ys h => by simp at h, fun g h => by simp, fun g h => by cases h⟩
theorem LRowA.toL (h : LRowA w base v yss av) : LRow w base v yss := by
  obtain ⟨vs, hl, ho, hr, _, _⟩ := h
  refine ⟨vs, hl, ho, fun i u ys hi hy => ?_⟩
  obtain ⟨A, c, e, h1, h2⟩ := hr i u ys hi hy
  exact ⟨A, c, e, h1, fun ad ha => ⟨(h2 ad ha).1, (h2 ad ha).2.1⟩⟩
theorem LRowA.later (h : LRowA w base v yss av) (hb : Below w.heap.size w w') : LRowA w' base v yss av := by
  obtain ⟨vs, hl, ho, hr, h1, h2⟩ := h
  refine ⟨vs, hl, own_later ho hb, fun i u ys hi hy => ?_, h1, fun g hg => Nat.lt_of_lt_of_le (h2 g hg) hb.size⟩
  obtain ⟨A, c, e, hi', hd⟩ := hr i u ys hi hy
  exact ⟨A, c, e, hi'.later hb, fun ad ha => ⟨Nat.lt_of_lt_of_le (hd ad ha).1 hb.size, (hd ad ha).2⟩⟩
/-- A slice has been appended. -/
theorem LRowA.push (h : LRowA w base v yss av) {v' : Value} {A : Option Addr} {c : Nat} {ys : List Int} (hg : Gr w v w' v') (ho : ∀ ws : List Value, w.ownsRow base 24 1 v yss.length ws → w'.ownsRow base 24 1 v' (yss.length + 1) (ws ++ [.slice A ys.length c]))
    (hu : Ints w w.heap.size .i64 (.slice A ys.length c) ys) (hd : ∀ ad, A = some ad → ad.block < w.heap.size ∧ v.ownBlock ≠ some ad.block ∧ av ≠ some ad.block) : LRowA w' base v' (yss ++ [ys]) av := by
  obtain ⟨ws, hl, ho0, hr, h1, h2⟩ := h
  have hsz := hg.1.2.2.2.1
  have hne : ∀ (A : Option Addr), (∀ ad, A = some ad → ad.block < w.heap.size ∧ v.ownBlock ≠ some ad.block ∧ av ≠ some ad.block) → ∀ ad, A = some ad → ad.block < w'.heap.size ∧ v'.ownBlock ≠ some ad.block ∧ av ≠ some ad.block := fun A h1 ad ha => by
    refine ⟨by have := (h1 ad ha).1; omega, fun he => ?_, (h1 ad ha).2.2⟩
    rcases hg.2 with h3 | h3
    · rw [h3] at he; exact (h1 ad ha).2.1 he
    · have := h3 _ he
      have := (h1 ad ha).1
      omega
  refine ⟨ws ++ [.slice A ys.length c], by simp [hl], by simpa using ho ws ho0, fun i u zs hi hz => ?_, fun g he hav => ?_, fun g hav => Nat.lt_of_lt_of_le (h2 g hav) hsz⟩
  · by_cases hlt2 : i < yss.length
    · rw [List.getElem?_append_left (by omega)] at hi hz
      obtain ⟨A2, c2, e2, h2, h3⟩ := hr i u zs hi hz
      exact ⟨A2, c2, e2, ints_far hg h2 e2 fun ad ha => (h3 ad ha).2.1, hne A2 h3⟩
    · rw [List.getElem?_append_right (by omega)] at hi hz
      have hi0 : i - yss.length = 0 := by
        have := (List.getElem?_eq_some_iff.1 hz).1
        simp at this; omega
      rw [hi0] at hz
      rw [hl, hi0] at hi
      simp at hi hz
      subst hi hz
      exact ⟨A, c, rfl, ints_far hg hu rfl fun ad ha => (hd ad ha).2.1, hne A hd⟩
  · rcases hg.2 with h3 | h3
    · rw [h3] at he; exact h1 g he hav
    · have := h3 g he; have := h2 g hav; omega
theorem LRowA.above (h : LRowA w base v yss av) : ∀ g, v.ownBlock = some g → base ≤ g := by
  obtain ⟨_, _, ho, _⟩ := h
  exact fun g hg => (own_base ho g hg).1
theorem LRowA.apart (h : LRowA w base v yss av) : ∀ g, v.ownBlock = some g → av ≠ some g := by
  obtain ⟨_, _, _, _, h1, _⟩ := h
  exact h1
theorem LRowA.lt (h : LRowA w base v yss av) : (∀ g, v.ownBlock = some g → g < w.heap.size) ∧ ∀ g, av = some g → g < w.heap.size := by
  obtain ⟨_, _, ho, _, _, h2⟩ := h
  exact ⟨fun g hg => (own_base ho g hg).2, h2⟩
/-- The other row has grown. -/
theorem LRowA.other {vo vo' : Value} (h : LRowA w base v yss vo.ownBlock) (hg : Gr w vo w' vo') (hs : ∀ g, vo'.ownBlock = some g → g < w'.heap.size) : LRowA w' base v yss vo'.ownBlock := by
  obtain ⟨vs, hl, ho, hr, h1, h2⟩ := h
  have hsz := hg.1.2.2.2.1
  refine ⟨vs, hl, ho.kept (grown_of_gr hg) ?_, fun i u ys hi hy => ?_, fun g he => ?_, hs⟩
  · cases hv : v.ownBlock with
    | none => exact .inl rfl
    | some g => exact .inr fun e => h1 g hv e.symm
  · obtain ⟨A, c, e, hi', hd⟩ := hr i u ys hi hy
    refine ⟨A, c, e, ints_far hg hi' e fun ad ha => (hd ad ha).2.2, fun ad ha => ⟨Nat.lt_of_lt_of_le (hd ad ha).1 hsz, (hd ad ha).2.1, fun he => ?_⟩⟩
    rcases hg.2 with h3 | h3
    · rw [h3] at he; exact (hd ad ha).2.2 he
    · have := h3 _ he; have := (hd ad ha).1; omega
  · rcases hg.2 with h3 | h3
    · rw [h3]; exact h1 g he
    · intro hv
      have := h3 g hv
      have := (ho.lt g he).2
      omega
/-- A row that is not the one that has grown. -/
theorem own_other {e : TypeId} {size n : Nat} {vo v' : Value} {xs : List Value} (h : w.ownsRow base e size vo n xs) (hg : Gr w v w' v') (hne : ∀ g, v.ownBlock = some g → vo.ownBlock ≠ some g) : w'.ownsRow base e size vo n xs :=
  h.kept (grown_of_gr hg) (by
    cases hv : vo.ownBlock with
    | none => exact .inl rfl
    | some g => exact .inr fun e => hne g e.symm hv)
end
/-- append(v, u): one slice onto a row of slices. -/
theorem wpList_append_sliceA {P : Program} {ops : Array Oper} {rest : List Oper} {o : Oper} {a : Act} {w : World} {Q : Exit → Act → World → Prop} {T : TypeId} {i0 : TypeInfo} (hw : Region.wanted o (yielded ops a.tmps) = true) (s x : Operand)
    (ho : o.op = .call { callee := .builtin .append, args := #[s, x], argTypes := #[T, T] }) (ht : P.underlying T = some (.slice 24)) (hi : P.info? 24 = some i0) (hz : i0.zero = some (.slice none 0 0)) (h1 : i0.size = 1) (h2 : i0.bytes = 24)
    (base : Nat) (v : Value) (yss : List (List Int)) (ad : Addr) (A : Option Addr) (c : Nat) (ys : List Int) (hs : a.eval s = v) (av : Option Nat) (hown : LRowA w base v yss av) (hx : a.eval x = .slice (some ad) 1 1) (hc : w.cell? ad = some (.slice A ys.length c))
    (hu : Ints w w.heap.size .i64 (.slice A ys.length c) ys) (hd : ∀ ad, A = some ad → ad.block < w.heap.size ∧ v.ownBlock ≠ some ad.block ∧ av ≠ some ad.block) (hl : yss.length ≤ 1000000) (hb : base ≤ w.heap.size)
    (h : ∀ v' w', LRowA w' base v' (yss ++ [ys]) av → Gr w v w' v' → wpList P ops Q rest (a.put o.dst v') w') : wpList P ops Q (o :: rest) a w := by
  refine wpList_step fun K hK => ?_
  rw [if_pos hw]
  obtain ⟨ws, hwl, hown0, _, _, _⟩ := id hown
  have hnews : ∀ (j : Nat) (q : Value), [Value.slice A ys.length c][j]? = some q → w.cell? (ad.add j) = some q := by
    intro j q hq
    cases j with
    | zero => simp at hq; subst hq; rw [← hc]; simp [Addr.add]
    | succ j => simp at hq
  have hone : ∀ q ∈ [Value.slice A ys.length c], q.oneCell' = true := by intro q hq; simp at hq; subst hq; rfl
  obtain ⟨v', w', hr, ho', hg', _⟩ := run_append_own (P := P) w base T o.type 24 i0 (.slice none 0 0) 1 24 ht hi hz h1 h2 rfl (by omega) v yss.length ws hown0 ad 1 1 [.slice A ys.length c] (by simp) hnews hone (by unfold maxLen; omega) (by omega) hb
  have hst : v'.ownBlock = v.ownBlock ∨ ∀ g, v'.ownBlock = some g → w.heap.size ≤ g := by
    have h63' : yss.length + 1 ≤ maxLen := by unfold maxLen; omega
    rcases hown0.2 with ⟨rfl, h0⟩ | ⟨g, cap, cur, rfl, hbg, hg, hnc, hcm, hcs, htake⟩
    · have hx : ws = [] := List.eq_nil_of_length_eq_zero (by omega)
      obtain ⟨v2, w2, e2, ho2, _⟩ := run_append_own (P := P) w w.heap.size T o.type 24 i0 (.slice none 0 0) 1 24 ht hi hz h1 h2 rfl (by omega) (.slice none 0 0) 0 [] (World.ownsRow_nil _ _ _ _) ad 1 1 [.slice A ys.length c] (by simp) hnews hone (by unfold maxLen; omega) (by omega) (Nat.le_refl _)
      rw [hr] at e2; cases e2
      exact .inr fun g hg => (own_base ho2 g hg).1
    · by_cases hroom : yss.length + 1 ≤ cap
      · have e2 := run_append_room (P := P) w T o.type 24 i0 ht hi g yss.length cap cur hg ad 1 1 [.slice A ys.length c] (by simp [h1]) hnews hone hroom (by rw [h1, hcs]; simp; omega)
        rw [hr] at e2; cases e2
        exact .inl rfl
      · obtain ⟨v2, w2, e2, ho2, _⟩ := run_append_arg_grows (P := P) w T o.type 24 i0 (.slice none 0 0) 1 24 ht hi hz h1 h2 rfl (by omega) ⟨g, 0, none⟩ yss.length cap ws hown0.1 (hown0.cells (g := g) rfl) ad 1 1 [.slice A ys.length c] (by simp) hnews (by omega) h63' (by omega)
        rw [hr] at e2; cases e2
        exact .inr fun q hq => (own_base ho2 q hq).1
  have hG : Gr w v w' v' := ⟨onlyIn.of_own hg' fun g hg => mem_ownS.2 hg, hst⟩
  have h3 := hK _ _ (h v' w' (hown.push hG (fun ws2 ho2 => by
    obtain ⟨v3, w3, hr3, ho3, _⟩ := run_append_own (P := P) w base T o.type 24 i0 (.slice none 0 0) 1 24 ht hi hz h1 h2 rfl (by omega) v yss.length ws2 ho2 ad 1 1 [.slice A ys.length c] (by simp) hnews hone (by unfold maxLen; omega) (by omega) hb
    rw [hr] at hr3; cases hr3
    exact ho3) hu hd) hG)
  unfold Oper.wp execOp
  simp only [ho, resolve, invoke, builtin, Sem.run_bind, Sem.run_pure, Result.andThen_ok, List.map_toArray, List.map_cons, List.map_nil, hs, hx, hr]
  exact h3
end Go.Proofs.YtecpbicfiaifdaaDoor
/-
  What confuse hands back, by cases.
-/
namespace Go.Proofs.YtecpbicfiaifdaaDoor
open Go.RowKit ND

/-- What both hands back. -/
def bothR (T : Tab) (a b : List Int) : List Int × List Int × Int := if (skelR T a).2 ≠ 0 then ([], [], (skelR T a).2) else if (skelR T b).2 ≠ 0 then ([], [], (skelR T b).2) else ((skelR T a).1, (skelR T b).1, 0)
theorem bothR_e (T : Tab) (a b : List Int) : (bothR T a b).2.2 = bothE T a b := by
  unfold bothR bothE
  split
  · rfl
  · split
    · rfl
    · rename_i h; simp at h; simp [h]
theorem bothR_ok {T : Tab} {a b : List Int} (h : bothE T a b = 0) : bothR T a b = ((skelR T a).1, (skelR T b).1, 0) := by
  unfold bothE at h
  unfold bothR
  split at h
  · rename_i h1; exact absurd h h1
  · rename_i h1; rw [if_neg h1, if_neg (by rw [h]; simp)]
theorem bothR_1 {T : Tab} {a b x : List Int} {e : Int} (h : skelR T a = (x, e)) (h1 : e ≠ 0) : bothR T a b = ([], [], e) := by unfold bothR; rw [h]; simp only; rw [if_pos h1]
theorem bothR_2 {T : Tab} {a b x y : List Int} {e : Int} (h : skelR T a = (x, 0)) (h2 : skelR T b = (y, e)) (h1 : e ≠ 0) : bothR T a b = ([], [], e) := by unfold bothR; rw [h, h2]; simp only; rw [if_neg (by simp), if_pos h1]
theorem bothR_3 {T : Tab} {a b x y : List Int} (h : skelR T a = (x, 0)) (h2 : skelR T b = (y, 0)) : bothR T a b = (x, y, 0) := by unfold bothR; rw [h, h2]; simp
theorem sameR_of {T : Tab} {a b x y : List Int} {e : Int} (h : bothR T a b = (x, y, e)) : sameR T a b = (e == 0 && decide (x = y), e) ∨ (e ≠ 0 ∧ sameR T a b = (false, e)) := by
  have he := bothR_e T a b
  rw [h] at he
  simp only at he
  unfold sameR
  rw [← he]
  by_cases h0 : e = 0
  · have := bothR_ok (T := T) (a := a) (b := b) (by rw [← he, h0])
    rw [h] at this
    cases this
    exact .inl rfl
  · refine .inr ⟨h0, ?_⟩
    have : (e == 0) = false := by simpa using h0
    rw [this]; rfl
theorem differR_of {T : Tab} {a b x y : List Int} {e : Int} (h : bothR T a b = (x, y, e)) : (e ≠ 0 ∧ differR T a b = (0, e)) ∨ (e = 0 ∧ differR T a b = (diffGo 0 x y, 0)) := by
  have he := bothR_e T a b
  rw [h] at he
  simp only at he
  unfold differR
  rw [← he]
  by_cases h0 : e = 0
  · have := bothR_ok (T := T) (a := a) (b := b) (by rw [← he, h0])
    rw [h] at this
    cases this
    exact .inr ⟨rfl, by rw [if_neg (by simp)]; rfl⟩
  · exact .inl ⟨h0, by rw [if_pos h0]⟩
/-- The first place of which p holds, or -1. -/
def idxGo (p : List Int → Bool) : Nat → List (List Int) → Int
  | _, [] => -1
  | i, y :: r => if p y = true then (i : Int) else idxGo p (i + 1) r
theorem idx_hit {p : List Int → Bool} {l : List (List Int)} {j : Nat} {y : List Int} {R : Int} (hy : l[j]? = some y) (h : idxGo p j (l.drop j) = R) (hp : p y = true) : R = (j : Int) := by
  obtain ⟨h1, e⟩ := List.getElem?_eq_some_iff.1 hy
  rw [List.drop_eq_getElem_cons h1, e, idxGo, if_pos hp] at h; exact h.symm
theorem idx_go {p : List Int → Bool} {l : List (List Int)} {j : Nat} {y : List Int} {R : Int} (hy : l[j]? = some y) (h : idxGo p j (l.drop j) = R) (hp : p y = false) : idxGo p (j + 1) (l.drop (j + 1)) = R := by
  obtain ⟨h1, e⟩ := List.getElem?_eq_some_iff.1 hy
  rw [List.drop_eq_getElem_cons h1, e, idxGo, if_neg (by rw [hp]; simp)] at h; exact h
theorem idx_end {p : List Int → Bool} {l : List (List Int)} {j : Nat} {R : Int} (hj : l.length ≤ j) (h : idxGo p j (l.drop j) = R) : R = -1 := by
  rw [List.drop_of_length_le hj] at h; exact h.symm
/-- Two sequences come back, and an error. -/
def RetBoth (w : World) (r : List Int × List Int × Int) (e : Ending) (w' : World) : Prop :=
  ∃ v u, e = .returned (.tuple #[v, u, .int .i64 r.2.2]) ∧ Ints w' w'.heap.size .i64 v r.1 ∧ Ints w' w'.heap.size .i64 u r.2.1 ∧ Below w.heap.size w w'
end Go.Proofs.YtecpbicfiaifdaaDoor
/-
  The class of a sequence out of the index of its skeleton, in plain Lean.
-/
namespace Go.Proofs.YtecpbicfiaifdaaDoor
open Go.RowKit ND

theorem idx_spec (p : List Int → Bool) : ∀ (l : List (List Int)) (i : Nat), (idxGo p i l = -1 ∧ ∀ y ∈ l, p y = false) ∨ ∃ j y, l[j]? = some y ∧ idxGo p i l = ((i + j : Nat) : Int) ∧ p y = true ∧ ∀ q z, q < j → l[q]? = some z → p z = false := by
  intro l
  induction l with
  | nil => intro i; exact .inl ⟨rfl, by simp⟩
  | cons x r ih =>
    intro i
    rw [idxGo]
    cases hx : p x with
    | true => exact .inr ⟨0, x, rfl, by simp, hx, fun q z h => by omega⟩
    | false =>
      rw [if_neg (by simp)]
      rcases ih (i + 1) with ⟨h1, h2⟩ | ⟨j, y, h1, h2, h3, h4⟩
      · exact .inl ⟨h1, fun y hy => by rcases List.mem_cons.1 hy with rfl | hy; exact hx; exact h2 y hy⟩
      · refine .inr ⟨j + 1, y, by simpa using h1, by rw [h2]; congr 1; omega, h3, fun q z hq hz => ?_⟩
        cases q with
        | zero => simp at hz; subst hz; exact hx
        | succ q => exact h4 q z (by omega) (by simpa using hz)
/-- The index among those ahead, or its own place: the class. -/
theorem class_idx {ss : List (List Int)} {k : Nat} {s : List Int} (hs : ss[k]? = some s) :
    (idxGo (fun y => decide (y = s)) 0 (ss.take k) = -1 ∧ classOfI ss s = (k : Int)) ∨ (0 ≤ idxGo (fun y => decide (y = s)) 0 (ss.take k) ∧ classOfI ss s = idxGo (fun y => decide (y = s)) 0 (ss.take k) ∧ idxGo (fun y => decide (y = s)) 0 (ss.take k) < (k : Int)) := by
  have hk := (List.getElem?_eq_some_iff.1 hs).1
  rcases idx_spec (fun y => decide (y = s)) (ss.take k) 0 with ⟨h1, h2⟩ | ⟨j, y, h1, h2, h3, h4⟩
  · refine .inl ⟨h1, ?_⟩
    unfold classOfI
    rw [firstI_at hs fun j x hj hx => ?_]
    have hm : x ∈ ss.take k := List.mem_of_getElem? (i := j) (by rw [List.getElem?_take, if_pos hj]; exact hx)
    have := h2 x hm
    exact of_decide_eq_false this
  · have hjk : j < k := by
      have := (List.getElem?_eq_some_iff.1 h1).1
      rw [List.length_take] at this; omega
    rw [List.getElem?_take, if_pos hjk] at h1
    have e : y = s := of_decide_eq_true h3
    subst e
    refine .inr ⟨by rw [h2]; omega, ?_, by rw [h2]; omega⟩
    unfold classOfI
    rw [firstI_at h1 fun q x hq hx => ?_, h2, Nat.zero_add]
    have := h4 q x hq (by rw [List.getElem?_take, if_pos (by omega)]; exact hx)
    exact of_decide_eq_false this
theorem take_snoc21 {α : Type} {l : List α} {k : Nat} {x : α} (h : l[k]? = some x) : l.take (k + 1) = l.take k ++ [x] := by
  obtain ⟨h1, e⟩ := List.getElem?_eq_some_iff.1 h
  rw [List.take_succ_eq_append_getElem h1, e]
theorem classesR_full {T : Tab} {ls : List (List Int)} (h : 256 < ls.length) : classesR T ls = ([], 7) := by unfold classesR; rw [if_pos h]
theorem classesR_err {T : Tab} {ls : List (List Int)} (h : ls.length ≤ 256) {e : Int} (h1 : firstE T ls = e) (h2 : e ≠ 0) : classesR T ls = ([], e) := by unfold classesR; rw [if_neg (by omega), if_pos (by rw [h1]; exact h2), h1]
theorem classesR_ok {T : Tab} {ls : List (List Int)} (h : ls.length ≤ 256) (h1 : firstE T ls = 0) : classesR T ls = (classesL T ls, 0) := by unfold classesR; rw [if_neg (by omega), if_neg (by omega)]
theorem firstE_hit {T : Tab} {ls : List (List Int)} {k : Nat} {l s : List Int} {e : Int} (hl : ls[k]? = some l) (h : firstE T (ls.drop k) = firstE T ls) (hs : skelR T l = (s, e)) (he : e ≠ 0) : firstE T ls = e := by
  rw [← h, firstE_step hl, hs]; simp only; rw [if_pos he]
theorem firstE_go {T : Tab} {ls : List (List Int)} {k : Nat} {l s : List Int} (hl : ls[k]? = some l) (h : firstE T (ls.drop k) = firstE T ls) (hs : skelR T l = (s, 0)) : firstE T (ls.drop (k + 1)) = firstE T ls := by
  rw [← h, firstE_step hl, hs]; simp
theorem firstE_end {T : Tab} {ls : List (List Int)} {k : Nat} (hk : ls.length ≤ k) (h : firstE T (ls.drop k) = firstE T ls) : firstE T ls = 0 := by
  rw [← h, List.drop_of_length_le hk]; rfl
theorem skels_snoc {T : Tab} {ls : List (List Int)} {k : Nat} {l s : List Int} {e : Int} (hl : ls[k]? = some l) (hs : skelR T l = (s, e)) : (skels T ls)[k]? = some s := by rw [skels_at hl, hs]
theorem classes_snoc {T : Tab} {ls : List (List Int)} {k : Nat} {l s : List Int} {e : Int} (hl : ls[k]? = some l) (hs : skelR T l = (s, e)) : (classesL T ls)[k]? = some (classOfI (skels T ls) s) := by rw [classesL_at hl, hs]
theorem own_addr {w : World} {base : Nat} {e : TypeId} {A : Option Addr} {n c m : Nat} {xs : List Value} (h : w.ownsRow base e 1 (.slice A n c) m xs) : ∀ ad, A = some ad → base ≤ ad.block ∧ ad.block < w.heap.size := by
  intro ad ha
  subst ha
  rcases h.2 with ⟨h0, _⟩ | ⟨g, cap, cur, h0, _⟩
  · cases h0
  · cases h0
    exact own_base h g rfl
end Go.Proofs.YtecpbicfiaifdaaDoor
