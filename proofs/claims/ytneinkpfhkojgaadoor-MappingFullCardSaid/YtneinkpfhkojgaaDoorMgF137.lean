/-
  Merged texts: lemmas and walks that the last text of this claim leans on.
-/
import Derived.Test.YtneinkpfhkojgaaDoorMgF136
import Derived.Shelf.Abstract
import Derived.Test.YtneinkpfhkojgaaDoorMgF133
import Derived.Test.YtneinkpfhkojgaaDoorMgF135
/-
  A drawn region by what holds of each slot, where one operation may consume what holds of another's slot (an append its own row), and what holds of the world may turn with the operations done (a store).
-/
namespace Go.Proofs.YtneinkpfhkojgaaDoor
open Go.RowKit ND

theorem wpAny_ind {P : Program} {md : Region.Mode} {ops : Array Oper} {Q : Exit → Act → World → Prop} {I : Array Bool → Act → World → Prop}
    (hsz : ∀ listed a w, I listed a w → listed.size = ops.size)
    (fin : ∀ listed a w, I listed a w → Region.ready md ops listed = [] → Q .normal a w)
    (step : ∀ listed a w, I listed a w → ∀ i, i ∈ Region.ready md ops listed → ∀ o, ops[i]? = some o → ∀ K : Act → World → Prop, (∀ a' w', I (listed.setIfInBounds i true) a' w' → K a' w') →
      if Region.wanted o (yielded ops a.tmps) = true then o.wp P a w K Q else K (a.put o.dst undef) w) :
    ∀ (fuel : Nat) (listed : Array Bool) (a : Act) (w : World), I listed a w → unl ops.size listed ≤ fuel → wpAny P md ops Q fuel listed a w := by
  intro fuel
  induction fuel with
  | zero =>
    intro listed a w h hu
    have hr : Region.ready md ops listed = [] := by
      refine List.eq_nil_iff_forall_not_mem.2 fun i hi => ?_
      obtain ⟨h1, h2, _⟩ := ready_spec hi
      have := unl_set h1 (by rw [hsz _ _ _ h]; exact h1) h2
      omega
    exact ⟨hr, fin _ _ _ h hr⟩
  | succ fuel ih =>
    intro listed a w h hu
    refine ⟨fin _ _ _ h, fun i hi => ?_⟩
    obtain ⟨h1, h2, o, ho, _⟩ := ready_spec hi
    have hs := unl_set h1 (by rw [hsz _ _ _ h]; exact h1) h2
    have h3 := step listed a w h i hi o ho (fun a' w' => wpAny P md ops Q fuel (listed.setIfInBounds i true) a' w') fun a' w' hI => ih _ _ _ hI (by omega)
    unfold wpOp
    rw [ho]
    simp only
    split
    · rename_i hw; rw [if_pos hw] at h3; exact .inl h3
    · rename_i hw; rw [if_neg hw] at h3; exact h3

/-- What an operation may lean on, where other operations may have consumed it. -/
def DepsK (ops : Array Oper) (kill : Nat → Nat → Bool) (R : Nat → Value → World → Prop) (listed : Array Bool) (o : Oper) (a : Act) (w : World) : Prop :=
  ∀ e ∈ o.after, Region.binds .any e = true → (∀ j, kill e.on j = true → listed.getD j true = false) → ∀ (oe : Oper) (d : Tmp), ops[e.on]? = some oe → oe.dst = some d → ∃ v, a.tmps[d]? = some v ∧ R e.on v w
/-- What holds in the midst of the region. -/
structure InvK (ops : Array Oper) (F : Act → Prop) (kill : Nat → Nat → Bool) (C : Array Bool → World → Prop) (R : Nat → Value → World → Prop) (listed : Array Bool) (a : Act) (w : World) : Prop where
  size : listed.size = ops.size
  c : C listed w
  f : F a
  closed : ∀ (j : Nat) (o : Oper), ops[j]? = some o → listed.getD j false = true → ∀ e ∈ o.after, Region.binds .any e = true → listed.getD e.on false = true
  r : ∀ (i : Nat) (o : Oper) (d : Tmp), ops[i]? = some o → listed.getD i false = true → (∀ j, kill i j = true → listed.getD j true = false) → o.dst = some d → ∃ v, a.tmps[d]? = some v ∧ R i v w
/-- The obligation of one operation. -/
def ObK (P : Program) (ops : Array Oper) (n : Nat) (ds : List Deferred) (fixed : List (Tmp × Value)) (kill : Nat → Nat → Bool) (C : Array Bool → World → Prop) (R : Nat → Value → World → Prop) (Q : Exit → Act → World → Prop) (i : Nat) (o : Oper) : Prop :=
  ∀ listed a w, C listed w → listed.size = ops.size → listed.getD i true = false → (∀ (j : Nat) (o : Oper), ops[j]? = some o → listed.getD j false = true → ∀ e ∈ o.after, Region.binds .any e = true → listed.getD e.on false = true) → FS n ds fixed a → DepsK ops kill R listed o a w → ∀ K : Act → World → Prop, (∀ v w', (∀ d, o.dst = some d → R i v w') → C (listed.setIfInBounds i true) w' → (∀ j u, j ≠ i → kill j i = false → R j u w → R j u w') → K (a.put o.dst v) w') →
    if Region.wanted o (yielded ops a.tmps) = true then o.wp P a w K Q else K (a.put o.dst undef) w

theorem wp_region_kill {P : Program} {id n : Nat} {ops : Array Oper} {Q : Exit → Act → World → Prop} {a : Act} {w : World} {ds : List Deferred} {fixed : List (Tmp × Value)} {kill : Nat → Nat → Bool} {C : Array Bool → World → Prop} {R : Nat → Value → World → Prop} (hm : P.follows .mixedOrders = true)
    (hck : checksB ops n (fixed.map (·.1)) = true) (hf : FS n ds fixed a) (hc : C (Array.replicate ops.size false) w.drew)
    (hob : ∀ (i : Nat) (o : Oper), ops[i]? = some o → ObK P ops n ds fixed kill C R Q i o)
    (hend : ∀ listed a w, (∀ i, i < ops.size → listed.getD i false = true) → C listed w → FS n ds fixed a → (∀ (i : Nat) (o : Oper) (d : Tmp), ops[i]? = some o → (∀ j, kill i j = false) → o.dst = some d → ∃ v, a.tmps[d]? = some v ∧ R i v w) → Q .normal a w) : (Code.region id ops true).wp P Q a w := by
  unfold checksB at hck
  rw [Bool.and_eq_true, Bool.and_eq_true, List.all_eq_true] at hck
  obtain ⟨⟨h1, h2⟩, h3⟩ := hck
  have hat : ∀ {i : Nat} {o : Oper}, ops[i]? = some o → ops.toList[i]? = some o := fun h => by simpa using h
  have hin : ∀ {i : Nat} {o : Oper} {d : Tmp}, ops[i]? = some o → o.dst = some d → d < n ∧ d ∉ fixed.map (·.1) := fun h hd => by
    have := h3 _ (List.mem_of_getElem? (hat h))
    rw [hd] at this
    simpa using this
  have hlow : ∀ (i : Nat) (o : Oper), ops[i]? = some o → ∀ e ∈ o.after, Region.binds .any e = true → e.on < i := fun i o ho e he _ => by
    have := lowB_at h1 (hat ho) e he
    omega
  have hdst : ∀ (i j : Nat) (o o' : Oper) (d : Tmp), ops[i]? = some o → ops[j]? = some o' → i ≠ j → o.dst = some d → o'.dst ≠ some d := fun i j o o' d hi hj hij hd hd' => by
    have hi' : (ops.toList.map (·.dst))[i]? = some (some d) := by rw [List.getElem?_map, hat hi]; simp [hd]
    have hj' : (ops.toList.map (·.dst))[j]? = some (some d) := by rw [List.getElem?_map, hat hj]; simp [hd']
    rcases Nat.lt_or_gt_of_ne hij with h | h
    · exact nodupB_at h2 h hi' hj'
    · exact nodupB_at h2 h hj' hi'
  have hF : ∀ (i : Nat) (o : Oper) (a : Act) (v : Value), ops[i]? = some o → FS n ds fixed a → FS n ds fixed (a.put o.dst v) := fun i o a v ho ⟨q1, q2, q3⟩ => by
    cases hd : o.dst with
    | none => exact ⟨q1, q2, q3⟩
    | some d =>
      obtain ⟨_, hn⟩ := hin ho hd
      refine ⟨by simpa [Act.put] using q1, q2, fun p hp => ?_⟩
      have hne : d ≠ p.1 := fun e => hn (e ▸ List.mem_map_of_mem hp)
      simp [Act.put, hne, q3 p hp]
  refine wp_region_any hm (wpAny_ind (I := InvK ops (FS n ds fixed) kill C R) (fun _ _ _ h => h.size) ?_ ?_ _ _ _ _ ⟨by simp, hc, hf, fun j o _ hl => ?_, fun i o d _ hl _ _ => ?_⟩ ?_)
  · intro listed a w h hr
    have hall := ready_nil h.size hlow hr
    refine hend listed a w hall h.c h.f fun i o d ho hk hd => h.r i o d ho (hall i (Array.getElem?_eq_some_iff.1 ho).1) (fun j hj => ?_) hd
    rw [hk j] at hj; cases hj
  · intro listed a w h i hi o ho K hK
    obtain ⟨g1, g2, o', ho', hdep⟩ := ready_spec hi
    rw [ho] at ho'; cases ho'
    refine hob i o ho listed a w h.c h.size g2 h.closed h.f (fun e he hb hk oe d hoe hd => h.r e.on oe d hoe (hdep e he hb) hk hd) K fun v w' hv hc' hst => hK _ _ ⟨by simpa using h.size, hc', hF i o a v ho h.f, fun j oj hj hlj e he hb => ?_, fun j oj d hj hlj hkj hdj => ?_⟩
    · have up : listed.getD e.on false = true → (listed.setIfInBounds i true).getD e.on false = true := fun hl => by
        rw [Array.getD_eq_getD_getElem?, Array.getElem?_setIfInBounds]
        split
        · split <;> simp_all
        · rw [← Array.getD_eq_getD_getElem?]; exact hl
      by_cases hji : j = i
      · subst hji
        rw [ho] at hj; cases hj
        exact up (hdep e he hb)
      · rw [Array.getD_eq_getD_getElem?, Array.getElem?_setIfInBounds, if_neg (Ne.symm hji)] at hlj
        exact up (h.closed j oj hj (by rw [Array.getD_eq_getD_getElem?]; exact hlj) e he hb)
    by_cases hji : j = i
    · subst hji
      rw [ho] at hj; cases hj
      refine ⟨v, ?_, hv d hdj⟩
      rw [hdj]
      simp [Act.put, h.f.1, (hin ho hdj).1]
    · have hlj' : listed.getD j false = true := by
        rw [Array.getD_eq_getD_getElem?, Array.getElem?_setIfInBounds, if_neg (Ne.symm hji)] at hlj
        rw [Array.getD_eq_getD_getElem?]; exact hlj
      have hset : ∀ m, (listed.setIfInBounds i true).getD m true = false → m ≠ i ∧ listed.getD m true = false := fun m hm => by
        rw [Array.getD_eq_getD_getElem?, Array.getElem?_setIfInBounds] at hm
        by_cases e : m = i
        · subst e
          simp [h.size, g1] at hm
        · rw [if_neg (Ne.symm e)] at hm
          exact ⟨e, by rw [Array.getD_eq_getD_getElem?]; exact hm⟩
      obtain ⟨u, hu1, hu2⟩ := h.r j oj d hj hlj' (fun m hm => (hset m (hkj m hm)).2) hdj
      refine ⟨u, ?_, hst j u hji (by cases hki : kill j i with | false => rfl | true => exact absurd rfl (hset i (hkj i hki)).1) hu2⟩
      cases hod : o.dst with
      | none => exact hu1
      | some d' =>
        have hne : d' ≠ d := fun e => hdst j i oj o d hj ho hji hdj (by rw [hod, e])
        simp [Act.put, hne, hu1]
  · rw [Array.getD_eq_getD_getElem?, Array.getElem?_replicate] at hl
    split at hl <;> simp at hl
  · rw [Array.getD_eq_getD_getElem?, Array.getElem?_replicate] at hl
    split at hl <;> simp at hl
  · unfold unl
    exact Nat.le_trans List.countP_le_length (by simp)

theorem getD_any {l : Array Bool} {k : Nat} (h : k < l.size) (x y : Bool) : l.getD k x = l.getD k y := by
  simp [Array.getD, h]
/-- Whether operation k must wait for operation i. -/
def ancB (ops : Array Oper) : Nat → Nat → Nat → Bool
  | 0, i, k => i == k
  | f + 1, i, k => i == k || match ops[k]? with
    | some o => o.after.any fun e => Region.binds .any e && ancB ops f i e.on
    | none => false
theorem ancB_listed {ops : Array Oper} {listed : Array Bool} (hcl : ∀ (j : Nat) (o : Oper), ops[j]? = some o → listed.getD j false = true → ∀ e ∈ o.after, Region.binds .any e = true → listed.getD e.on false = true) :
    ∀ (f i k : Nat), ancB ops f i k = true → listed.getD k false = true → listed.getD i false = true := by
  intro f
  induction f with
  | zero => intro i k h hk; simp [ancB] at h; subst h; exact hk
  | succ f ih =>
    intro i k h hk
    rw [ancB, Bool.or_eq_true] at h
    rcases h with h | h
    · simp at h; subst h; exact hk
    · cases ho : ops[k]? with
      | none => rw [ho] at h; cases h
      | some o =>
        rw [ho] at h
        obtain ⟨e, he, hb⟩ := Array.any_eq_true'.1 h
        rw [Bool.and_eq_true] at hb
        exact ih i e.on hb.2 (hcl k o ho hk e he hb.1)

/-- What an operation ahead of the store may lean on. -/
def DepsA (ops : Array Oper) (kill : Nat → Nat → Bool) (R : Nat → Value → World → Prop) (i : Nat) (o : Oper) (a : Act) (w : World) : Prop :=
  ∀ e ∈ o.after, Region.binds .any e = true → (∀ j, kill e.on j = true → ancB ops 12 i j = true) → ∀ (oe : Oper) (d : Tmp), ops[e.on]? = some oe → oe.dst = some d → ∃ v, a.tmps[d]? = some v ∧ R e.on v w
/-- An operation ahead of the region's store. -/
def ObA (P : Program) (ops : Array Oper) (n : Nat) (ds : List Deferred) (fixed : List (Tmp × Value)) (kill : Nat → Nat → Bool) (A : World → Prop) (R : Nat → Value → World → Prop) (Q : Exit → Act → World → Prop) (i : Nat) : Prop :=
  ∀ o, ops[i]? = some o → ∀ a w, A w → FS n ds fixed a → DepsA ops kill R i o a w → ∀ K : Act → World → Prop, (∀ v w', R i v w' → A w' → (∀ j u, j ≠ i → kill j i = false → R j u w → R j u w') → K (a.put o.dst v) w') →
    if Region.wanted o (yielded ops a.tmps) = true then o.wp P a w K Q else K (a.put o.dst undef) w
/-- The region's store. -/
def ObB (P : Program) (ops : Array Oper) (n : Nat) (ds : List Deferred) (fixed : List (Tmp × Value)) (kill : Nat → Nat → Bool) (A B : World → Prop) (R : Nat → Value → World → Prop) (Q : Exit → Act → World → Prop) (k : Nat) : Prop :=
  ∀ o, ops[k]? = some o → ∀ a w, A w → FS n ds fixed a → DepsA ops kill R k o a w → ∀ K : Act → World → Prop, (∀ v w', B w' → K (a.put o.dst v) w') →
    if Region.wanted o (yielded ops a.tmps) = true then o.wp P a w K Q else K (a.put o.dst undef) w
/-- A drawn region that ends in its one store. -/
theorem wp_region_store {P : Program} {id n : Nat} {ops : Array Oper} {Q : Exit → Act → World → Prop} {a : Act} {w : World} {ds : List Deferred} {fixed : List (Tmp × Value)} (kill : Nat → Nat → Bool) (A B : World → Prop) (R : Nat → Value → World → Prop) (k : Nat) (hm : P.follows .mixedOrders = true)
    (hck : checksB ops n (fixed.map (·.1)) = true) (hanc : (List.range k).all (fun i => ancB ops 12 i k) = true) (hk : (ops[k]?).map (·.dst) = some none) (hsz : ops.size = k + 1) (hkb : ∀ i j, kill i j = true → j < ops.size) (hf : FS n ds fixed a) (hc : A w.drew)
    (hob : ∀ i, i < k → ObA P ops n ds fixed kill A R Q i)
    (hobk : ObB P ops n ds fixed kill A B R Q k)
    (hend : ∀ a w, B w → FS n ds fixed a → Q .normal a w) : (Code.region id ops true).wp P Q a w := by
  refine wp_region_kill (n := n) (ds := ds) (fixed := fixed) (kill := fun i j => kill i j || j == k) (C := fun listed w => if listed.getD k true = true then B w else A w) (R := R) hm hck hf ?_ (fun i o ho => ?_) ?_
  · rw [if_neg (by rw [Array.getD_eq_getD_getElem?, Array.getElem?_replicate, if_pos (by omega)]; simp)]
    exact hc
  · intro listed a w hC hsl hl hcl hfs hd K hK
    have hi : i < ops.size := (Array.getElem?_eq_some_iff.1 ho).1
    have hlk : listed.getD k true = false := by
      cases h : listed.getD k true with
      | false => rfl
      | true =>
        exfalso
        have hik : i < k := by
          have : i ≠ k := fun e => by subst e; rw [h] at hl; cases hl
          omega
        have h1 := List.all_eq_true.1 hanc i (List.mem_range.2 hik)
        have h2 : listed.getD k false = true := by rw [getD_any (by omega) false true]; exact h
        have h3 := ancB_listed hcl 12 i k h1 h2
        rw [getD_any (by omega) false true, hl] at h3
        cases h3
    have hA : A w := by rw [if_neg (by rw [hlk]; exact Bool.false_ne_true)] at hC; exact hC
    have hdA : DepsA ops kill R i o a w := fun e he hb hk' oe d hoe hde => hd e he hb (fun j hj => by
      rcases Bool.or_eq_true_iff.1 hj with h | h
      · cases hlj : listed.getD j true with
        | false => rfl
        | true =>
          by_cases hjs : j < ops.size
          · have h3 := ancB_listed hcl 12 i j (hk' j h) (by rw [getD_any (by omega) false true]; exact hlj)
            rw [getD_any (by omega) false true, hl] at h3
            cases h3
          · exact absurd (hkb e.on j h) hjs
      · rw [eq_of_beq h]; exact hlk) oe d hoe hde
    by_cases hik : i = k
    · subst hik
      have hdn : o.dst = none := by rw [ho] at hk; simpa using hk
      refine hobk o ho a w hA hfs hdA K fun v w' hB => hK v w' (fun d hd' => by rw [hdn] at hd'; cases hd') ?_ fun j u _ hj _ => ?_
      · show if (listed.setIfInBounds i true).getD i true = true then B w' else A w'
        rw [if_pos (by rw [Array.getD_eq_getD_getElem?, Array.getElem?_setIfInBounds, if_pos rfl, if_pos (by omega)]; rfl)]
        exact hB
      · exact absurd (show (kill j i || i == i) = false from hj) (by simp)
    · refine hob i (by omega) o ho a w hA hfs hdA K fun v w' hR hA' hst => hK v w' (fun _ _ => hR) ?_ fun j u hji hj hr => hst j u hji (by
        cases hkj : kill j i with
        | false => rfl
        | true => exact absurd (show (kill j i || i == k) = false from hj) (by rw [hkj]; simp)) hr
      show if (listed.setIfInBounds i true).getD k true = true then B w' else A w'
      rw [if_neg (by rw [Array.getD_eq_getD_getElem?, Array.getElem?_setIfInBounds, if_neg hik, ← Array.getD_eq_getD_getElem?, hlk]; exact Bool.false_ne_true)]
      exact hA'
  · intro listed a w hall hC hfs _
    have h2 := hall k (by omega)
    have hks : k < listed.size := by
      rcases Nat.lt_or_ge k listed.size with h | h
      · exact h
      · rw [Array.getD_eq_getD_getElem?, Array.getElem?_eq_none h] at h2; cases h2
    rw [if_pos (by rw [getD_any hks true false]; exact h2)] at hC
    exact hend a w hC hfs
end Go.Proofs.YtneinkpfhkojgaaDoor
/-
  A drawn region by what holds of each slot: values, sequences that have a property, tables that have one.
-/
namespace Go.Proofs.YtneinkpfhkojgaaDoor
open Go.RowKit ND

/-- What is said of a slot. -/
inductive SpecQ where
  | val (v : Value)
  | lst (p : List Int → Prop)
  | tab (p : Tab → Prop)
  | two (n : Int) (p : List Int → Prop)
def SpecQ.ok : SpecQ → Value → World → Prop
  | .val u, v, _ => v = u
  | .lst p, v, w => ∃ ys, Ints w w.heap.size .i64 v ys ∧ p ys
  | .tab p, v, w => ∃ (t : Tv) (T : Tab), v = t.val ∧ TabR w w.heap.size t T ∧ p T
  | .two n p, v, w => ∃ u ys, v = .tuple #[u, .int .i64 n] ∧ Ints w w.heap.size .i64 u ys ∧ p ys
def RQ (specs : List SpecQ) (i : Nat) (v : Value) (w : World) : Prop := ∀ s, specs[i]? = some s → s.ok v w
theorem SpecQ.later {s : SpecQ} {v : Value} {w w' : World} (h : s.ok v w) (hb : Below w.heap.size w w') : s.ok v w' := by
  cases s with
  | val u => exact h
  | lst p => obtain ⟨ys, h1, h2⟩ := h; exact ⟨ys, h1.later hb, h2⟩
  | tab p => obtain ⟨t, T, e, h1, h2⟩ := h; exact ⟨t, T, e, h1.later hb, h2⟩
  | two n p => obtain ⟨u, ys, e, h1, h2⟩ := h; exact ⟨u, ys, e, h1.later hb, h2⟩
theorem RQ.later {specs : List SpecQ} {i : Nat} {v : Value} {w w' : World} (h : RQ specs i v w) (hb : Below w.heap.size w w') : RQ specs i v w' := fun s hs => SpecQ.later (h s hs) hb

/-- The obligation of one operation. -/
def ObQ (P : Program) (ops : Array Oper) (n : Nat) (ds : List Deferred) (fixed : List (Tmp × Value)) (C : World → Prop) (specs : List SpecQ) (Q : Exit → Act → World → Prop) (i : Nat) (o : Oper) : Prop :=
  ∀ a w, C w → FS n ds fixed a → Deps .any ops (RQ specs) o a w → ∀ K : Act → World → Prop, (∀ v w', RQ specs i v w' → C w' → Below w.heap.size w w' → K (a.put o.dst v) w') →
    if Region.wanted o (yielded ops a.tmps) = true then o.wp P a w K Q else K (a.put o.dst undef) w

theorem dep_q {ops : Array Oper} {specs : List SpecQ} {k : Nat} {o : Oper} {a : Act} {w : World} (ho : ops[k]? = some o) (hd : Deps .any ops (RQ specs) o a w) (j : Nat) (d : Tmp) (s : SpecQ)
    (h1 : ((ops[k]?).map fun o => o.after.any fun e => Region.binds .any e && e.on == j) = some true) (h2 : ((ops[j]?).map (·.dst)) = some (some d)) (h3 : specs[j]? = some s) : ∃ v, a.tmps[d]? = some v ∧ s.ok v w := by
  have h4 := get_op (fun o => o.after.any fun e => Region.binds .any e && e.on == j) ho h1
  obtain ⟨e, he, hb⟩ := Array.any_eq_true'.1 h4
  rw [Bool.and_eq_true, beq_iff_eq] at hb
  cases hj : ops[j]? with
  | none => rw [hj] at h2; cases h2
  | some oj =>
    rw [hj] at h2
    obtain ⟨v, hv, hr⟩ := hd e he hb.1 oj d (by rw [hb.2, hj]) (by simpa using h2)
    exact ⟨v, hv, hr s (by rw [hb.2]; exact h3)⟩

theorem rq_of {specs : List SpecQ} {k : Nat} {s0 : SpecQ} {v : Value} {w : World} (h : specs[k]? = some s0) (hok : s0.ok v w) : RQ specs k v w := fun s hs => by
  rw [h] at hs; cases hs; exact hok
theorem end_q {ops : Array Oper} {specs : List SpecQ} {a : Act} {w : World} (hr : ∀ (i : Nat) (o : Oper) (d : Tmp), ops[i]? = some o → o.dst = some d → ∃ v, a.tmps[d]? = some v ∧ RQ specs i v w) (i : Nat) (d : Tmp) (s : SpecQ)
    (h2 : ((ops[i]?).map (·.dst)) = some (some d)) (h3 : specs[i]? = some s) : ∃ v, a.tmps[d]? = some v ∧ s.ok v w := by
  cases hj : ops[i]? with
  | none => rw [hj] at h2; cases h2
  | some oj =>
    rw [hj] at h2
    obtain ⟨v, hv, h⟩ := hr i oj d hj (by simpa using h2)
    exact ⟨v, hv, h s h3⟩

theorem wp_region_q {P : Program} {id n : Nat} {ops : Array Oper} {Q : Exit → Act → World → Prop} {a : Act} {w : World} {ds : List Deferred} {fixed : List (Tmp × Value)} {C : World → Prop} {specs : List SpecQ} (hm : P.follows .mixedOrders = true)
    (hck : checksB ops n (fixed.map (·.1)) = true) (hf : FS n ds fixed a) (hc : C w.drew)
    (hob : ∀ (i : Nat) (o : Oper), ops[i]? = some o → ObQ P ops n ds fixed C specs Q i o)
    (hend : ∀ a w, C w → FS n ds fixed a → (∀ (i : Nat) (o : Oper) (d : Tmp), ops[i]? = some o → o.dst = some d → ∃ v, a.tmps[d]? = some v ∧ RQ specs i v w) → Q .normal a w) : (Code.region id ops true).wp P Q a w := by
  unfold checksB at hck
  rw [Bool.and_eq_true, Bool.and_eq_true, List.all_eq_true] at hck
  obtain ⟨⟨h1, h2⟩, h3⟩ := hck
  have hat : ∀ {i : Nat} {o : Oper}, ops[i]? = some o → ops.toList[i]? = some o := fun h => by simpa using h
  have hin : ∀ {i : Nat} {o : Oper} {d : Tmp}, ops[i]? = some o → o.dst = some d → d < n ∧ d ∉ fixed.map (·.1) := fun h hd => by
    have := h3 _ (List.mem_of_getElem? (hat h))
    rw [hd] at this
    simpa using this
  refine wp_region_any hm (wpAny_inv (F := FS n ds fixed) (C := C) (R := RQ specs) ?_ ?_ ?_ ?_ (fun i v w w' h hb => RQ.later h hb) ?_ hend _ _ _ _ ⟨by simp, hc, hf, fun i o d _ hl _ => ?_⟩ ?_)
  · intro i o ho e he _
    have := lowB_at h1 (hat ho) e he
    omega
  · intro i j o o' d hi hj hij hd hd'
    have hi' : (ops.toList.map (·.dst))[i]? = some (some d) := by rw [List.getElem?_map, hat hi]; simp [hd]
    have hj' : (ops.toList.map (·.dst))[j]? = some (some d) := by rw [List.getElem?_map, hat hj]; simp [hd']
    rcases Nat.lt_or_gt_of_ne hij with h | h
    · exact nodupB_at h2 h hi' hj'
    · exact nodupB_at h2 h hj' hi'
  · intro i o a v ho ⟨q1, q2, q3⟩
    cases hd : o.dst with
    | none => exact ⟨q1, q2, q3⟩
    | some d =>
      obtain ⟨_, hn⟩ := hin ho hd
      refine ⟨by simpa [Act.put] using q1, q2, fun p hp => ?_⟩
      have hne : d ≠ p.1 := fun e => hn (e ▸ List.mem_map_of_mem hp)
      simp [Act.put, hne, q3 p hp]
  · intro i o d a ho hd hf
    rw [hf.1]; exact (hin ho hd).1
  · intro i o ho a w hc hf hd K hK
    refine hob i o ho a w hc hf hd K fun v w' hr hc' hb => hK v w' (fun _ _ => hr) hc' hb
  · rw [Array.getD_eq_getD_getElem?, Array.getElem?_replicate] at hl
    split at hl <;> simp at hl
  · unfold unl
    exact Nat.le_trans List.countP_le_length (by simp)

section
variable {P : Program} {f : FuncId} {tys : Array TypeId} {a : Act} {o : Oper} {w : World}
theorem enter0 (ho : o.op = .call { callee := .value (.func f), args := #[], argTypes := tys })
    (eg : ∀ args w, (callFunc f args).run P w = .ok (.enter f args) w) : (execOp a.eval o).run P w = .ok (.enter f #[]) w := by
  unfold execOp
  rw [ho]
  have hf : a.eval (.func f) = .func (.func f) #[] #[] := rfl
  simp [resolve, invoke, Deferred.ofValue, hf, eg]
theorem enter1 {x : Operand} {vx : Value} (ho : o.op = .call { callee := .value (.func f), args := #[x], argTypes := tys }) (hx : a.eval x = vx)
    (eg : ∀ args w, (callFunc f args).run P w = .ok (.enter f args) w) : (execOp a.eval o).run P w = .ok (.enter f #[vx]) w := by
  unfold execOp
  rw [ho]
  have hf : a.eval (.func f) = .func (.func f) #[] #[] := rfl
  simp [resolve, invoke, Deferred.ofValue, hx, hf, eg]
theorem enter3 {x y z : Operand} {vx vy vz : Value} (ho : o.op = .call { callee := .value (.func f), args := #[x, y, z], argTypes := tys }) (hx : a.eval x = vx) (hy : a.eval y = vy) (hz : a.eval z = vz)
    (eg : ∀ args w, (callFunc f args).run P w = .ok (.enter f args) w) : (execOp a.eval o).run P w = .ok (.enter f #[vx, vy, vz]) w := by
  unfold execOp
  rw [ho]
  have hf : a.eval (.func f) = .func (.func f) #[] #[] := rfl
  simp [resolve, invoke, Deferred.ofValue, hx, hy, hz, hf, eg]
theorem enter4 {x y z q : Operand} {vx vy vz vq : Value} (ho : o.op = .call { callee := .value (.func f), args := #[x, y, z, q], argTypes := tys }) (hx : a.eval x = vx) (hy : a.eval y = vy) (hz : a.eval z = vz) (hq : a.eval q = vq)
    (eg : ∀ args w, (callFunc f args).run P w = .ok (.enter f args) w) : (execOp a.eval o).run P w = .ok (.enter f #[vx, vy, vz, vq]) w := by
  unfold execOp
  rw [ho]
  have hf : a.eval (.func f) = .func (.func f) #[] #[] := rfl
  simp [resolve, invoke, Deferred.ofValue, hx, hy, hz, hq, hf, eg]
end
theorem unwanted_at {ops : Array Oper} {k g : Nat} {b c : Bool} {o : Oper} {a : Act} {d : Tmp} {v : Value} (ho : ops[k]? = some o) (hg : ((ops[k]?).map (·.guard)) = some (some (g, b))) (h2 : ((ops[g]?).map (·.dst)) = some (some d)) (hv : a.tmps[d]? = some v) (he : v = .bool c) (hc : c ≠ b) : ¬ Region.wanted o (yielded ops a.tmps) = true := by
  subst he
  cases hj : ops[g]? with
  | none => rw [hj] at h2; cases h2
  | some og =>
    rw [hj] at h2
    have hd : og.dst = some d := by simpa using h2
    have hgo := get_op (·.guard) ho hg
    cases b <;> cases c <;> first | exact absurd rfl hc | simp [Region.wanted, hgo, yielded, hj, hd, hv]
end Go.Proofs.YtneinkpfhkojgaaDoor
/-
  A drawn region in which rows of the call's own are appended to, by what holds of each slot.
-/
namespace Go.Proofs.YtneinkpfhkojgaaDoor
open Go.RowKit ND

/-- What is said of a slot: besides values, sequences that lie below B0, sequences, rows of the call's own. -/
inductive SpecK where
  | val (v : Value)
  | low (p : List Int → Prop)
  | lst (p : List Int → Prop)
  | own (ys : List Int)
  | tab (p : Tab → Prop)
  | two (n : Int) (p : List Int → Prop)
  | tri (i n : Int) (p : List Int → Prop)
def SpecK.ok (B0 : Nat) : SpecK → Value → World → Prop
  | .val u, v, _ => v = u
  | .low p, v, w => ∃ ys, Ints w B0 .i64 v ys ∧ p ys
  | .lst p, v, w => ∃ ys, Ints w w.heap.size .i64 v ys ∧ p ys
  | .own ys, v, w => w.ownsRow B0 3 1 v ys.length (ys.map (Value.int .i64))
  | .tab p, v, w => ∃ (t : Tv) (T : Tab), v = t.val ∧ TabR w w.heap.size t T ∧ p T
  | .two n p, v, w => ∃ u ys, v = .tuple #[u, .int .i64 n] ∧ Ints w w.heap.size .i64 u ys ∧ p ys
  | .tri i n p, v, w => ∃ u ys, v = .tuple #[u, .int .i64 i, .int .i64 n] ∧ Ints w w.heap.size .i64 u ys ∧ p ys
def SpecK.mem : SpecK → Bool
  | .val _ => false
  | .low _ => false
  | _ => true
def RK (B0 : Nat) (specs : List SpecK) (i : Nat) (v : Value) (w : World) : Prop := ∀ s, specs[i]? = some s → s.ok B0 v w
/-- The appends consume what lies in memory. -/
def killK (specs : List SpecK) (apps : List Nat) (i j : Nat) : Bool := apps.contains j && (decide (i < j) && match specs[i]? with | some s => s.mem | none => false)
theorem SpecK.later {B0 : Nat} {s : SpecK} {v : Value} {w w' : World} (h : s.ok B0 v w) (hb : Below w.heap.size w w') (hB : B0 ≤ w.heap.size) : s.ok B0 v w' := by
  cases s with
  | val u => exact h
  | low p => obtain ⟨ys, h1, h2⟩ := h; exact ⟨ys, h1.below (hb.mono hB), h2⟩
  | lst p => obtain ⟨ys, h1, h2⟩ := h; exact ⟨ys, h1.later hb, h2⟩
  | own ys => exact own_later h hb
  | tab p => obtain ⟨t, T, e, h1, h2⟩ := h; exact ⟨t, T, e, h1.later hb, h2⟩
  | two n p => obtain ⟨u, ys, e, h1, h2⟩ := h; exact ⟨u, ys, e, h1.later hb, h2⟩
  | tri i n p => obtain ⟨u, ys, e, h1, h2⟩ := h; exact ⟨u, ys, e, h1.later hb, h2⟩
theorem RK.later {B0 : Nat} {specs : List SpecK} {i : Nat} {v : Value} {w w' : World} (h : RK B0 specs i v w) (hb : Below w.heap.size w w') (hB : B0 ≤ w.heap.size) : RK B0 specs i v w' := fun s hs => SpecK.later (h s hs) hb hB
theorem rk_of {B0 : Nat} {specs : List SpecK} {i : Nat} {v : Value} {w : World} {s : SpecK} (hs : specs[i]? = some s) (h : s.ok B0 v w) : RK B0 specs i v w := fun s' hs' => by
  rw [hs] at hs'; cases hs'; exact h

/-- The edges that bind point back. -/
def lowA : Nat → List Oper → Bool
  | _, [] => true
  | k, o :: r => o.after.all (fun e => !Region.binds .any e || decide (e.on < k)) && lowA (k + 1) r
def checksA (ops : Array Oper) (n : Nat) (fx : List Tmp) : Bool :=
  lowA 0 ops.toList && nodupB (ops.toList.map (·.dst)) && ops.toList.all fun o => match o.dst with | some d => decide (d < n) && !fx.contains d | none => true
theorem lowA_at : ∀ {l : List Oper} {k i : Nat} {o : Oper}, lowA k l = true → l[i]? = some o → ∀ e ∈ o.after, Region.binds .any e = true → e.on < k + i := by
  intro l
  induction l with
  | nil => intro k i o _ h; simp at h
  | cons a r ih =>
    intro k i o h hi e he hb
    rw [lowA, Bool.and_eq_true] at h
    cases i with
    | zero =>
      simp only [List.getElem?_cons_zero, Option.some.injEq] at hi
      subst hi
      have := Array.all_eq_true'.1 h.1 e he
      simpa [hb] using this
    | succ i =>
      rw [List.getElem?_cons_succ] at hi
      have := ih h.2 hi e he hb
      omega

/-- The obligation of one operation. -/
def ObL (P : Program) (ops : Array Oper) (n : Nat) (ds : List Deferred) (fixed : List (Tmp × Value)) (kill : Nat → Nat → Bool) (C : Array Bool → World → Prop) (R : Nat → Value → World → Prop) (Q : Exit → Act → World → Prop) (i : Nat) (o : Oper) : Prop :=
  ∀ listed a w, C listed w → listed.size = ops.size → listed.getD i true = false → (∀ (j : Nat) (o : Oper), ops[j]? = some o → listed.getD j false = true → ∀ e ∈ o.after, Region.binds .any e = true → listed.getD e.on false = true) → FS n ds fixed a → DepsK ops kill R listed o a w → ∀ K : Act → World → Prop, (∀ v w', (∀ d, o.dst = some d → R i v w') → C (listed.setIfInBounds i true) w' → (∀ j u, j ≠ i → listed.getD j false = true → kill j i = false → R j u w → R j u w') → K (a.put o.dst v) w') →
    if Region.wanted o (yielded ops a.tmps) = true then o.wp P a w K Q else K (a.put o.dst undef) w

theorem wp_region_killL {P : Program} {id n : Nat} {ops : Array Oper} {Q : Exit → Act → World → Prop} {a : Act} {w : World} {ds : List Deferred} {fixed : List (Tmp × Value)} {kill : Nat → Nat → Bool} {C : Array Bool → World → Prop} {R : Nat → Value → World → Prop} (hm : P.follows .mixedOrders = true)
    (hck : checksA ops n (fixed.map (·.1)) = true) (hf : FS n ds fixed a) (hc : C (Array.replicate ops.size false) w.drew)
    (hob : ∀ (i : Nat) (o : Oper), ops[i]? = some o → ObL P ops n ds fixed kill C R Q i o)
    (hend : ∀ listed a w, (∀ i, i < ops.size → listed.getD i false = true) → C listed w → FS n ds fixed a → (∀ (i : Nat) (o : Oper) (d : Tmp), ops[i]? = some o → (∀ j, kill i j = false) → o.dst = some d → ∃ v, a.tmps[d]? = some v ∧ R i v w) → Q .normal a w) : (Code.region id ops true).wp P Q a w := by
  unfold checksA at hck
  rw [Bool.and_eq_true, Bool.and_eq_true, List.all_eq_true] at hck
  obtain ⟨⟨h1, h2⟩, h3⟩ := hck
  have hat : ∀ {i : Nat} {o : Oper}, ops[i]? = some o → ops.toList[i]? = some o := fun h => by simpa using h
  have hin : ∀ {i : Nat} {o : Oper} {d : Tmp}, ops[i]? = some o → o.dst = some d → d < n ∧ d ∉ fixed.map (·.1) := fun h hd => by
    have := h3 _ (List.mem_of_getElem? (hat h))
    rw [hd] at this
    simpa using this
  have hlow : ∀ (i : Nat) (o : Oper), ops[i]? = some o → ∀ e ∈ o.after, Region.binds .any e = true → e.on < i := fun i o ho e he hb => by
    have := lowA_at h1 (hat ho) e he hb
    omega
  have hdst : ∀ (i j : Nat) (o o' : Oper) (d : Tmp), ops[i]? = some o → ops[j]? = some o' → i ≠ j → o.dst = some d → o'.dst ≠ some d := fun i j o o' d hi hj hij hd hd' => by
    have hi' : (ops.toList.map (·.dst))[i]? = some (some d) := by rw [List.getElem?_map, hat hi]; simp [hd]
    have hj' : (ops.toList.map (·.dst))[j]? = some (some d) := by rw [List.getElem?_map, hat hj]; simp [hd']
    rcases Nat.lt_or_gt_of_ne hij with h | h
    · exact nodupB_at h2 h hi' hj'
    · exact nodupB_at h2 h hj' hi'
  have hF : ∀ (i : Nat) (o : Oper) (a : Act) (v : Value), ops[i]? = some o → FS n ds fixed a → FS n ds fixed (a.put o.dst v) := fun i o a v ho ⟨q1, q2, q3⟩ => by
    cases hd : o.dst with
    | none => exact ⟨q1, q2, q3⟩
    | some d =>
      obtain ⟨_, hn⟩ := hin ho hd
      refine ⟨by simpa [Act.put] using q1, q2, fun p hp => ?_⟩
      have hne : d ≠ p.1 := fun e => hn (e ▸ List.mem_map_of_mem hp)
      simp [Act.put, hne, q3 p hp]
  refine wp_region_any hm (wpAny_ind (I := InvK ops (FS n ds fixed) kill C R) (fun _ _ _ h => h.size) ?_ ?_ _ _ _ _ ⟨by simp, hc, hf, fun j o _ hl => ?_, fun i o d _ hl _ _ => ?_⟩ ?_)
  · intro listed a w h hr
    have hall := ready_nil h.size hlow hr
    refine hend listed a w hall h.c h.f fun i o d ho hk hd => h.r i o d ho (hall i (Array.getElem?_eq_some_iff.1 ho).1) (fun j hj => ?_) hd
    rw [hk j] at hj; cases hj
  · intro listed a w h i hi o ho K hK
    obtain ⟨g1, g2, o', ho', hdep⟩ := ready_spec hi
    rw [ho] at ho'; cases ho'
    refine hob i o ho listed a w h.c h.size g2 h.closed h.f (fun e he hb hk oe d hoe hd => h.r e.on oe d hoe (hdep e he hb) hk hd) K fun v w' hv hc' hst => hK _ _ ⟨by simpa using h.size, hc', hF i o a v ho h.f, fun j oj hj hlj e he hb => ?_, fun j oj d hj hlj hkj hdj => ?_⟩
    · have up : listed.getD e.on false = true → (listed.setIfInBounds i true).getD e.on false = true := fun hl => by
        rw [Array.getD_eq_getD_getElem?, Array.getElem?_setIfInBounds]
        split
        · split <;> simp_all
        · rw [← Array.getD_eq_getD_getElem?]; exact hl
      by_cases hji : j = i
      · subst hji
        rw [ho] at hj; cases hj
        exact up (hdep e he hb)
      · rw [Array.getD_eq_getD_getElem?, Array.getElem?_setIfInBounds, if_neg (Ne.symm hji)] at hlj
        exact up (h.closed j oj hj (by rw [Array.getD_eq_getD_getElem?]; exact hlj) e he hb)
    by_cases hji : j = i
    · subst hji
      rw [ho] at hj; cases hj
      refine ⟨v, ?_, hv d hdj⟩
      rw [hdj]
      simp [Act.put, h.f.1, (hin ho hdj).1]
    · have hlj' : listed.getD j false = true := by
        rw [Array.getD_eq_getD_getElem?, Array.getElem?_setIfInBounds, if_neg (Ne.symm hji)] at hlj
        rw [Array.getD_eq_getD_getElem?]; exact hlj
      have hset : ∀ m, (listed.setIfInBounds i true).getD m true = false → m ≠ i ∧ listed.getD m true = false := fun m hm => by
        rw [Array.getD_eq_getD_getElem?, Array.getElem?_setIfInBounds] at hm
        by_cases e : m = i
        · subst e
          simp [h.size, g1] at hm
        · rw [if_neg (Ne.symm e)] at hm
          exact ⟨e, by rw [Array.getD_eq_getD_getElem?]; exact hm⟩
      obtain ⟨u, hu1, hu2⟩ := h.r j oj d hj hlj' (fun m hm => (hset m (hkj m hm)).2) hdj
      refine ⟨u, ?_, hst j u hji hlj' (by cases hki : kill j i with | false => rfl | true => exact absurd rfl (hset i (hkj i hki)).1) hu2⟩
      cases hod : o.dst with
      | none => exact hu1
      | some d' =>
        have hne : d' ≠ d := fun e => hdst j i oj o d hj ho hji hdj (by rw [hod, e])
        simp [Act.put, hne, hu1]
  · rw [Array.getD_eq_getD_getElem?, Array.getElem?_replicate] at hl
    split at hl <;> simp at hl
  · rw [Array.getD_eq_getD_getElem?, Array.getElem?_replicate] at hl
    split at hl <;> simp at hl
  · unfold unl
    exact Nat.le_trans List.countP_le_length (by simp)


/-- What an operation may lean on: what no append can have consumed. -/
def DepsF (F : Nat) (ops : Array Oper) (kill : Nat → Nat → Bool) (R : Nat → Value → World → Prop) (i : Nat) (o : Oper) (a : Act) (w : World) : Prop :=
  ∀ e ∈ o.after, Region.binds .any e = true → (∀ j, kill e.on j = true → ancB ops F i j = true) → ∀ (oe : Oper) (d : Tmp), ops[e.on]? = some oe → oe.dst = some d → ∃ v, a.tmps[d]? = some v ∧ R e.on v w
/-- The obligation of one operation. -/
def ObR (F : Nat) (P : Program) (ops : Array Oper) (n : Nat) (ds : List Deferred) (fixed : List (Tmp × Value)) (w0 : World) (specs : List SpecK) (apps : List Nat) (Q : Exit → Act → World → Prop) (i : Nat) : Prop :=
  ∀ o, ops[i]? = some o → ∀ a w, Below w0.heap.size w0 w → FS n ds fixed a → DepsF F ops (killK specs apps) (RK w0.heap.size specs) i o a w → ∀ K : Act → World → Prop,
    (∀ v w', RK w0.heap.size specs i v w' → (Below w.heap.size w w' ∨ apps.contains i = true ∧ Below w0.heap.size w w') → K (a.put o.dst v) w') →
    if Region.wanted o (yielded ops a.tmps) = true then o.wp P a w K Q else K (a.put o.dst undef) w

theorem dep_k {F : Nat} {ops : Array Oper} {specs : List SpecK} {apps : List Nat} {B0 i : Nat} {o : Oper} {a : Act} {w : World} (ho : ops[i]? = some o) (hd : DepsF F ops (killK specs apps) (RK B0 specs) i o a w) (j : Nat) (d : Tmp) (s : SpecK)
    (h1 : ((ops[i]?).map fun o => o.after.any fun e => Region.binds .any e && e.on == j) = some true) (h2 : ((ops[j]?).map (·.dst)) = some (some d)) (h3 : specs[j]? = some s) (h4 : (!s.mem || apps.all fun q => decide (q ≤ j) || ancB ops F i q) = true) : ∃ v, a.tmps[d]? = some v ∧ s.ok B0 v w := by
  have h5 := get_op (fun o => o.after.any fun e => Region.binds .any e && e.on == j) ho h1
  obtain ⟨e, he, hb⟩ := Array.any_eq_true'.1 h5
  rw [Bool.and_eq_true, beq_iff_eq] at hb
  cases hj : ops[j]? with
  | none => rw [hj] at h2; cases h2
  | some oj =>
    rw [hj] at h2
    obtain ⟨v, hv, hr⟩ := hd e he hb.1 (fun q hk => by
      unfold killK at hk
      rw [hb.2, h3, Bool.and_eq_true, Bool.and_eq_true, decide_eq_true_eq] at hk
      obtain ⟨hk1, hk2, hk3⟩ := hk
      rcases Bool.or_eq_true_iff.1 h4 with h | h
      · simp only at hk3
        rw [hk3] at h; cases h
      · rw [List.all_eq_true] at h
        have h6 := h q (by simpa using hk1)
        rcases Bool.or_eq_true_iff.1 h6 with h7 | h7
        · rw [decide_eq_true_eq] at h7; omega
        · exact h7) oj d (by rw [hb.2, hj]) (by simpa using h2)
    exact ⟨v, hv, hr s (by rw [hb.2]; exact h3)⟩
theorem end_k {ops : Array Oper} {specs : List SpecK} {apps : List Nat} {B0 : Nat} {a : Act} {w : World} (hr : ∀ (i : Nat) (o : Oper) (d : Tmp), ops[i]? = some o → (∀ j, killK specs apps i j = false) → o.dst = some d → ∃ v, a.tmps[d]? = some v ∧ RK B0 specs i v w) (i : Nat) (d : Tmp) (s : SpecK)
    (h2 : ((ops[i]?).map (·.dst)) = some (some d)) (h3 : specs[i]? = some s) (h4 : (!s.mem || apps.all fun q => decide (q ≤ i)) = true) : ∃ v, a.tmps[d]? = some v ∧ s.ok B0 v w := by
  cases hj : ops[i]? with
  | none => rw [hj] at h2; cases h2
  | some oj =>
    rw [hj] at h2
    obtain ⟨v, hv, h⟩ := hr i oj d hj (fun j => by
      unfold killK
      rw [h3]
      rcases Bool.or_eq_true_iff.1 h4 with h | h
      · cases hm : s.mem with
        | false => simp [hm]
        | true => rw [hm] at h; cases h
      · cases hc : apps.contains j with
        | false => rfl
        | true =>
          rw [List.all_eq_true] at h
          have h6 := h j (by simpa using hc)
          rw [decide_eq_true_eq] at h6
          rw [decide_eq_false (by omega)]; rfl) (by simpa using h2)
    exact ⟨v, hv, h s h3⟩

/-- A drawn region by obligations, its appends named. -/
theorem wp_region_k (F : Nat) {P : Program} {id n : Nat} {ops : Array Oper} {Q : Exit → Act → World → Prop} {a : Act} {w0 : World} {ds : List Deferred} {fixed : List (Tmp × Value)} {specs : List SpecK} {apps : List Nat} (hm : P.follows .mixedOrders = true)
    (hck : checksA ops n (fixed.map (·.1)) = true) (hap : apps.all (fun q => decide (q < ops.size) && (List.range ops.size).all fun j => decide (j ≤ q) || ancB ops F q j || match specs[j]? with | some s => !s.mem | none => true) = true) (hsp : specs.length = ops.size) (hf : FS n ds fixed a)
    (hob : ∀ i, i < ops.size → ObR F P ops n ds fixed w0 specs apps Q i)
    (hend : ∀ a w, Below w0.heap.size w0 w → FS n ds fixed a → (∀ (i : Nat) (o : Oper) (d : Tmp), ops[i]? = some o → (∀ j, killK specs apps i j = false) → o.dst = some d → ∃ v, a.tmps[d]? = some v ∧ RK w0.heap.size specs i v w) → Q .normal a w) : (Code.region id ops true).wp P Q a w0 := by
  rw [List.all_eq_true] at hap
  refine wp_region_killL (n := n) (ds := ds) (fixed := fixed) (kill := killK specs apps) (C := fun _ w => Below w0.heap.size w0 w) (R := RK w0.heap.size specs) hm hck hf ((Below.refl _ _).drew) (fun i o ho => ?_) ?_
  · intro listed a w hC hsl hl hcl hfs hd K hK
    have hi : i < ops.size := (Array.getElem?_eq_some_iff.1 ho).1
    refine hob i hi o ho a w hC hfs (fun e he hb hk oe d hoe hde => hd e he hb (fun j hj => ?_) oe d hoe hde) K fun v w' hR hw => ?_
    · cases hlj : listed.getD j true with
      | false => rfl
      | true =>
        have hj2 := hj
        unfold killK at hj2
        rw [Bool.and_eq_true] at hj2
        have h6 := hap j (by simpa using hj2.1)
        rw [Bool.and_eq_true, decide_eq_true_eq] at h6
        have h3 := ancB_listed hcl F i j (hk j hj) (by rw [getD_any (by omega) false true]; exact hlj)
        rw [getD_any (by omega) false true, hl] at h3
        cases h3
    · rcases hw with hw | ⟨hap', hw⟩
      · exact hK v w' (fun _ _ => hR) (below_then hC (Nat.le_refl _) hw) fun j u _ _ _ hr => hr.later hw hC.size
      · refine hK v w' (fun _ _ => hR) (hC.trans hw) fun j u hji hlj hkj hr => ?_
        intro s hs
        have h1 := hr s hs
        cases hmem : s.mem with
        | false =>
          cases s with
          | val u => exact h1
          | low p => obtain ⟨ys, h1, h2⟩ := h1; exact ⟨ys, h1.below hw, h2⟩
          | lst p => cases hmem
          | own ys => cases hmem
          | tab p => cases hmem
          | two n p => cases hmem
          | tri i n p => cases hmem
        | true =>
          exfalso
          have h6 := hap i (by simpa using hap')
          rw [Bool.and_eq_true, decide_eq_true_eq, List.all_eq_true] at h6
          have hjs : j < ops.size := by
            have := (List.getElem?_eq_some_iff.1 hs).1
            omega
          have h7 := h6.2 j (List.mem_range.2 hjs)
          rw [hs] at h7
          simp only [hmem, Bool.not_true, Bool.or_false] at h7
          rcases Bool.or_eq_true_iff.1 h7 with h8 | h8
          · rw [decide_eq_true_eq] at h8
            have : j < i := by omega
            unfold killK at hkj
            rw [hs, hap', decide_eq_true this] at hkj
            simp only [hmem] at hkj
            cases hkj
          · have h3 := ancB_listed hcl F i j h8 hlj
            rw [getD_any (by omega) false true, hl] at h3
            cases h3
  · intro listed a w _ hC hfs hr
    exact hend a w hC hfs hr

/-- An act, written out. -/
theorem act_fun {a : Act} {n : Nat} (hs : a.tmps.size = n) (hd : a.defers = []) : ∃ f : Nat → Value, (∀ i, i < n → a.tmps[i]? = some (f i)) ∧ a = ⟨((List.range n).map f).toArray, []⟩ := by
  refine ⟨fun i => (a.tmps[i]?).getD undef, fun i hi => by show _ = some ((a.tmps[i]?).getD undef); rw [Array.getElem?_eq_getElem (by omega)]; rfl, ?_⟩
  obtain ⟨ts, ds⟩ := a
  simp only at hs hd ⊢
  subst hd
  congr 1
  rw [← ts.toArray_toList]
  congr 1
  refine List.ext_getElem? fun i => ?_
  by_cases hi : i < n
  · rw [List.getElem?_map, List.getElem?_range hi, List.getElem?_eq_getElem (by simpa [hs] using hi)]
    simp [hs, hi]
  · rw [List.getElem?_eq_none (by simpa [hs] using hi), List.getElem?_eq_none (by simpa using hi)]
/-- A literal of integers. -/
theorem lit_k (w : World) (xs : List Int) (hl : xs.length ≤ 1000000) : Ints (w.alloc (.cells (xs.map (Value.int .i64)).toArray 3)) (w.alloc (.cells (xs.map (Value.int .i64)).toArray 3)).heap.size .i64 (.slice (some ⟨w.heap.size, 0, none⟩) xs.length xs.length) xs :=
  Ints.of_own (own_new w 3 xs hl)
section
variable {P : Program} {o : Oper} {a : Act} {X : World} {K : Act → World → Prop} {Q : Exit → Act → World → Prop}
/-- append(v, u..) behind a row of the call's own. -/
theorem ob_app_ints {T e : TypeId} {i0 : TypeInfo} (s x : Operand)
    (ho : o.op = .call { callee := .builtin .append, args := #[s, x], argTypes := #[T, T] }) (ht : P.underlying T = some (.slice e)) (hi : P.info? e = some i0) (hz : i0.zero = some (.int .i64 0)) (h1 : i0.size = 1) (h2 : i0.bytes = 8)
    (B base : Nat) (v : Value) (acc : List Int) (u : Value) (ys : List Int) (hs : a.eval s = v) (hown : X.ownsRow base e 1 v acc.length (acc.map (Value.int .i64))) (hx : a.eval x = u) (hu : Ints X B .i64 u ys) (hl : acc.length + ys.length ≤ 1000000) (hb : base ≤ X.heap.size)
    (h : ∀ v' w', w'.ownsRow base e 1 v' (acc ++ ys).length ((acc ++ ys).map (Value.int .i64)) → X.grownBy w' v.ownBlock → K (a.put o.dst v') w') : o.wp P a X K Q := by
  obtain ⟨A, c, rfl, hc1, hc2, hA, hcell⟩ := hu
  cases A with
  | none =>
    obtain rfl : c = 0 := hA rfl
    obtain rfl : ys = [] := List.eq_nil_of_length_eq_zero (by omega)
    have hr := run_append_none (P := P) (ty := o.type) ht hi hown
    have h3 := h v X (by simpa using hown) (grown_refl X _)
    unfold Oper.wp execOp
    simp only [ho, resolve, invoke, builtin, Sem.run_bind, Sem.run_pure, Result.andThen_ok, List.map_toArray, List.map_cons, List.map_nil, hs, hx, List.length_nil, hr]
    exact h3
  | some ad =>
    refine wp_append_own X s x T ho base e i0 (.int .i64 0) 1 8 ht hi hz h1 h2 rfl (by omega) v acc.length _ hs hown ad ys.length c (ys.map (Value.int .i64)) hx (by simp) ?_ ?_ (by unfold maxLen; omega) (by omega) hb ?_
    · intro i y hi
      rw [List.getElem?_map] at hi
      cases hy : ys[i]? with
      | none => rw [hy] at hi; cases hi
      | some z =>
        rw [hy] at hi
        cases hi
        obtain ⟨ad', e1, _, e2⟩ := hcell i z hy
        cases e1; exact e2
    · intro q hq
      obtain ⟨y, _, rfl⟩ := List.mem_map.1 hq
      rfl
    · intro v' w' p q r
      exact h v' w' (by simpa using p) q
theorem ob_run5 {v : Value} {w' : World} (hr : (execOp a.eval o).run P X = .ok (.value v) w') (h : K (a.put o.dst v) w') : o.wp P a X K Q := by
  unfold Oper.wp
  rw [hr]
  exact h
theorem ob_extract {x : Operand} {k : Nat} {vs : Array Value} {u : Value} (ho : o.op = .extract x k) (hx : a.eval x = .tuple vs) (hu : vs[k]? = some u) (h : K (a.put o.dst u) X) : o.wp P a X K Q := by
  unfold Oper.wp execOp
  rw [ho]
  simp only [hx, Instr.extract, hu]
  exact h
end
end Go.Proofs.YtneinkpfhkojgaaDoor
/-
  The walk through awake of the laws of layer 13: the example of its chapter.
-/
namespace Go.Proofs.YtneinkpfhkojgaaDoor
open Go.RowKit ND

def mtTab : Tab := ⟨[], [], [], [], [], [], [], [], [], [], [], []⟩
def mtTv : Tv := ⟨.slice none 0 0, .slice none 0 0, .slice none 0 0, .slice none 0 0, .slice none 0 0, .slice none 0 0, .slice none 0 0, .slice none 0 0, .slice none 0 0, .slice none 0 0, .slice none 0 0, .slice none 0 0⟩
theorem mtTabR (w : World) (B : Nat) : TabR w B mtTv mtTab :=
  ⟨Spans.none_, Spans.none_, Spans.none_, Spans.none_, Spans.none_, Spans.none_, Spans.none_, Mapps.none_, Mapps.none_, Mapps.none_, Ints.none_, Mapps.none_⟩
theorem mt_map1 : mapR mtTab [65, 45, 98] = ([97, 45, 98], 0, 0) := by decide +kernel
theorem mt_map2 : mapR mtTab [97, 32, 98] = ([], 1, 16) := by decide +kernel

set_option maxRecDepth 100000 in
set_option maxHeartbeats 2000000 in
theorem awake13 (w : World) (hg : Glob w) : Calls Tryd.prog 24 #[] w fun e w' => e = .returned (.bool true) ∧ Below w.heap.size w w' := by
  have HG := Lib.hid (fun W (h : Below w.heap.size w W) => hg.later h)
  clear hg
  have H1 := Lib.hid (fun v W h h3 => map_any mtTv mtTab v [65, 45, 98] W (mtTabR W _) h h3)
  have H2 := Lib.hid (fun v W h h3 => map_any mtTv mtTab v [97, 32, 98] W (mtTabR W _) h h3)
  rw [mt_map1] at H1
  rw [mt_map2] at H2
  go_enter Tryd.func24, Tryd.ntmps24
  have b0 := (Below.refl w.heap.size w).alloc (Nat.le_refl _) (.cells #[.int .i64 65, .int .i64 45, .int .i64 98] 3)
  have HL0 := Lib.hid (lit_k w [65, 45, 98] (by simp))
  have HG0 := Lib.hid (HG.out _ b0)
  have B0 := Lib.hid b0
  clear b0
  go_upto_region 2 with (go_at_call 23; refine (H1.out _ _ HG0.out HL0.out).mono ?_; rintro e w1 ⟨u1, rfl, ho1, b1⟩; obtain ⟨A1, c1, rfl, _⟩ := id (Ints.of_own ho1); have HU1 := Lib.hid (Ints.of_own ho1); have B1 := Lib.hid (below_next B0.out b1); clear ho1 b1)
  have b2 := (Below.refl w1.heap.size w1).alloc (Nat.le_refl _) (.cells #[.int .i64 97, .int .i64 32, .int .i64 98] 3)
  have HL2 := Lib.hid (lit_k w1 [97, 32, 98] (by simp))
  have HG2 := Lib.hid (HG.out _ (below_next B1.out b2))
  have B2 := Lib.hid b2
  clear b2
  go_upto_region 3 with (go_at_call 23; refine (H2.out _ _ HG2.out HL2.out).mono ?_; rintro e w3 ⟨u3, rfl, _, b3⟩; have B3 := Lib.hid (below_next B2.out b3); clear b3)
  have HU3 := Lib.hid (HU1.out.later B3.out)
  have B13 := Lib.hid (below_next B1.out B3.out)
  go_wp2_with (go_at_call 20; have bl := (Below.refl w3.heap.size w3).alloc (Nat.le_refl _) (.cells #[.int .i64 97, .int .i64 45, .int .i64 98] 3); have h := same_any _ _ [97, 45, 98] [97, 45, 98] _ (HU3.out.later bl) (lit_k w3 [97, 45, 98] (by simp)); rw [decide_eq_true rfl] at h; refine h.mono ?_; rintro e w4 ⟨rfl, b4⟩; have B4 := Lib.hid (below_next (below_next B13.out bl) b4); clear bl h b4)
  go_ret
  exact ⟨rfl, B4.out⟩
end Go.Proofs.YtneinkpfhkojgaaDoor
/-
  The walk through the law MappingFull.
-/
namespace Go.Proofs.YtneinkpfhkojgaaDoor
open Go.RowKit ND

def fullTab : Tab := ⟨[], [], [], [], [], [(128512, 128512, 3)], [], [], [(128512, [97, 98])], [], [], []⟩
theorem fullTab_check : fullTab.check = 0 := by decide +kernel
theorem fullTab_one : mapOne fullTab 128512 = [97, 98] := by decide +kernel
theorem fullTab_st : fullTab.statusOf 128512 = 3 := by decide +kernel
theorem full_out (k : Nat) : (mapOut fullTab (List.replicate k 128512)).length = 2 * k := by
  induction k with
  | zero => rfl
  | succ k ih =>
    unfold mapOut at ih ⊢
    rw [List.replicate_succ, List.flatMap_cons, fullTab_one, List.length_append, ih]; simp; omega
theorem full_map (k : Nat) (hk : k ≤ 4096) : mapR fullTab (List.replicate k 128512) = if 4096 < 2 * k then ([], 0, 7) else (mapOut fullTab (List.replicate k 128512), 0, 0) := by
  have h1 : accE fullTab (List.replicate k 128512) = 0 := accE_ok fullTab_check (by simpa using hk) (by
    rw [List.all_eq_true]
    intro x hx
    rw [(List.mem_replicate.1 hx).2]; decide)
  have h2 : badAt fullTab 0 (List.replicate k 128512) = none := (badAt_none _ _).2 fun c hc => by
    rw [(List.mem_replicate.1 hc).2, fullTab_st]; decide
  have h3 := full_out k
  by_cases h : 4096 < 2 * k
  · rw [if_pos h, mapR_full h1 h2 (by omega)]
  · rw [if_neg h, mapR_ok h1 h2 (by omega)]

theorem set_rep {k j : Nat} (h : j < k) : (List.replicate j (128512 : Int) ++ List.replicate (k - j) 0).set j 128512 = List.replicate (j + 1) (128512 : Int) ++ List.replicate (k - (j + 1)) 0 := by
  obtain ⟨m, rfl⟩ : ∃ m, k = j + 1 + m := ⟨k - (j + 1), by omega⟩
  rw [show j + 1 + m - j = m + 1 by omega, show j + 1 + m - (j + 1) = m by omega, List.set_append_right _ _ (by simp), List.length_replicate, Nat.sub_self, List.replicate_succ, List.set_cons_zero, List.replicate_succ', List.append_assoc]; rfl

set_option maxRecDepth 100000 in
set_option maxHeartbeats 4000000 in
theorem MappingFull_go (W : World) (hg : Glob W) (n : Int) :
    Calls Tryd.prog 9 #[.int .i64 n] W fun e W' => e = .returned (.bool true) ∧ Below W.heap.size W W' := by
  have HG := Lib.hid hg
  clear hg
  go_enter Tryd.func9, Tryd.ntmps9
  go_upto_region 2 with fail
  have hS0 : (W.alloc (.cells #[.int .i64 128512, .int .i64 128512, .int .i64 3] 44)).ownsRow 0 44 3 (.slice (some ⟨W.heap.size, 0, none⟩) 1 1) 1 (spCells (128512, 128512, 3)) := World.ownsRow_lit (base := 0) (e := 44) (size := 3) W #[.int .i64 128512, .int .i64 128512, .int .i64 3] 1 (Nat.zero_le _) (by decide) rfl
  have b12 : Below (W.alloc (.cells #[.int .i64 128512, .int .i64 128512, .int .i64 3] 44)).heap.size (W.alloc (.cells #[.int .i64 128512, .int .i64 128512, .int .i64 3] 44)) ((W.alloc (.cells #[.int .i64 128512, .int .i64 128512, .int .i64 3] 44)).alloc (.cells #[.int .i64 97, .int .i64 98] 3)) := (Below.refl _ _).alloc (Nat.le_refl _) _
  have b23 : Below ((W.alloc (.cells #[.int .i64 128512, .int .i64 128512, .int .i64 3] 44)).alloc (.cells #[.int .i64 97, .int .i64 98] 3)).heap.size ((W.alloc (.cells #[.int .i64 128512, .int .i64 128512, .int .i64 3] 44)).alloc (.cells #[.int .i64 97, .int .i64 98] 3)) (((W.alloc (.cells #[.int .i64 128512, .int .i64 128512, .int .i64 3] 44)).alloc (.cells #[.int .i64 97, .int .i64 98] 3)).alloc (.cells #[.int .i64 128512, .slice (some ⟨W.heap.size + 1, 0, none⟩) 2 2] 46)) := (Below.refl _ _).alloc (Nat.le_refl _) _
  have b34 : Below (((W.alloc (.cells #[.int .i64 128512, .int .i64 128512, .int .i64 3] 44)).alloc (.cells #[.int .i64 97, .int .i64 98] 3)).alloc (.cells #[.int .i64 128512, .slice (some ⟨W.heap.size + 1, 0, none⟩) 2 2] 46)).heap.size (((W.alloc (.cells #[.int .i64 128512, .int .i64 128512, .int .i64 3] 44)).alloc (.cells #[.int .i64 97, .int .i64 98] 3)).alloc (.cells #[.int .i64 128512, .slice (some ⟨W.heap.size + 1, 0, none⟩) 2 2] 46)) ((((W.alloc (.cells #[.int .i64 128512, .int .i64 128512, .int .i64 3] 44)).alloc (.cells #[.int .i64 97, .int .i64 98] 3)).alloc (.cells #[.int .i64 128512, .slice (some ⟨W.heap.size + 1, 0, none⟩) 2 2] 46)).alloc (.cells #[.slice none 0 0, .slice none 0 0, .slice none 0 0, .slice none 0 0, .slice none 0 0, .slice (some ⟨W.heap.size, 0, none⟩) 1 1, .slice none 0 0, .slice none 0 0, .slice (some ⟨W.heap.size + 1 + 1, 0, none⟩) 1 1, .slice none 0 0, .slice none 0 0, .slice none 0 0] 26)) := (Below.refl _ _).alloc (Nat.le_refl _) _
  have hb4 : Below W.heap.size W ((((W.alloc (.cells #[.int .i64 128512, .int .i64 128512, .int .i64 3] 44)).alloc (.cells #[.int .i64 97, .int .i64 98] 3)).alloc (.cells #[.int .i64 128512, .slice (some ⟨W.heap.size + 1, 0, none⟩) 2 2] 46)).alloc (.cells #[.slice none 0 0, .slice none 0 0, .slice none 0 0, .slice none 0 0, .slice none 0 0, .slice (some ⟨W.heap.size, 0, none⟩) 1 1, .slice none 0 0, .slice none 0 0, .slice (some ⟨W.heap.size + 1 + 1, 0, none⟩) 1 1, .slice none 0 0, .slice none 0 0, .slice none 0 0] 26)) := below_next (below_next (below_next ((Below.refl _ _).alloc (Nat.le_refl _) _) b12) b23) b34
  have hI : Ints ((((W.alloc (.cells #[.int .i64 128512, .int .i64 128512, .int .i64 3] 44)).alloc (.cells #[.int .i64 97, .int .i64 98] 3)).alloc (.cells #[.int .i64 128512, .slice (some ⟨W.heap.size + 1, 0, none⟩) 2 2] 46)).alloc (.cells #[.slice none 0 0, .slice none 0 0, .slice none 0 0, .slice none 0 0, .slice none 0 0, .slice (some ⟨W.heap.size, 0, none⟩) 1 1, .slice none 0 0, .slice none 0 0, .slice (some ⟨W.heap.size + 1 + 1, 0, none⟩) 1 1, .slice none 0 0, .slice none 0 0, .slice none 0 0] 26)) ((((W.alloc (.cells #[.int .i64 128512, .int .i64 128512, .int .i64 3] 44)).alloc (.cells #[.int .i64 97, .int .i64 98] 3)).alloc (.cells #[.int .i64 128512, .slice (some ⟨W.heap.size + 1, 0, none⟩) 2 2] 46)).alloc (.cells #[.slice none 0 0, .slice none 0 0, .slice none 0 0, .slice none 0 0, .slice none 0 0, .slice (some ⟨W.heap.size, 0, none⟩) 1 1, .slice none 0 0, .slice none 0 0, .slice (some ⟨W.heap.size + 1 + 1, 0, none⟩) 1 1, .slice none 0 0, .slice none 0 0, .slice none 0 0] 26)).heap.size .i64 (.slice (some ⟨W.heap.size + 1, 0, none⟩) 2 2) [97, 98] := by
    have h := (lit_k (W.alloc (.cells #[.int .i64 128512, .int .i64 128512, .int .i64 3] 44)) [97, 98] (by simp)).later (below_next b23 b34)
    rw [show (W.alloc (.cells #[.int .i64 128512, .int .i64 128512, .int .i64 3] 44)).heap.size = W.heap.size + 1 by simp] at h
    exact h
  have hK : Blk ((((W.alloc (.cells #[.int .i64 128512, .int .i64 128512, .int .i64 3] 44)).alloc (.cells #[.int .i64 97, .int .i64 98] 3)).alloc (.cells #[.int .i64 128512, .slice (some ⟨W.heap.size + 1, 0, none⟩) 2 2] 46)).alloc (.cells #[.slice none 0 0, .slice none 0 0, .slice none 0 0, .slice none 0 0, .slice none 0 0, .slice (some ⟨W.heap.size, 0, none⟩) 1 1, .slice none 0 0, .slice none 0 0, .slice (some ⟨W.heap.size + 1 + 1, 0, none⟩) 1 1, .slice none 0 0, .slice none 0 0, .slice none 0 0] 26)) (W.heap.size + 1 + 1) 46 #[.int .i64 128512, .slice (some ⟨W.heap.size + 1, 0, none⟩) 2 2] := by
    have h := (Blk.new ((W.alloc (.cells #[.int .i64 128512, .int .i64 128512, .int .i64 3] 44)).alloc (.cells #[.int .i64 97, .int .i64 98] 3)) 46 #[.int .i64 128512, .slice (some ⟨W.heap.size + 1, 0, none⟩) 2 2]).later b34
    rw [show ((W.alloc (.cells #[.int .i64 128512, .int .i64 128512, .int .i64 3] 44)).alloc (.cells #[.int .i64 97, .int .i64 98] 3)).heap.size = W.heap.size + 1 + 1 by simp] at h
    exact h
  have hM : Mapps ((((W.alloc (.cells #[.int .i64 128512, .int .i64 128512, .int .i64 3] 44)).alloc (.cells #[.int .i64 97, .int .i64 98] 3)).alloc (.cells #[.int .i64 128512, .slice (some ⟨W.heap.size + 1, 0, none⟩) 2 2] 46)).alloc (.cells #[.slice none 0 0, .slice none 0 0, .slice none 0 0, .slice none 0 0, .slice none 0 0, .slice (some ⟨W.heap.size, 0, none⟩) 1 1, .slice none 0 0, .slice none 0 0, .slice (some ⟨W.heap.size + 1 + 1, 0, none⟩) 1 1, .slice none 0 0, .slice none 0 0, .slice none 0 0] 26)) ((((W.alloc (.cells #[.int .i64 128512, .int .i64 128512, .int .i64 3] 44)).alloc (.cells #[.int .i64 97, .int .i64 98] 3)).alloc (.cells #[.int .i64 128512, .slice (some ⟨W.heap.size + 1, 0, none⟩) 2 2] 46)).alloc (.cells #[.slice none 0 0, .slice none 0 0, .slice none 0 0, .slice none 0 0, .slice none 0 0, .slice (some ⟨W.heap.size, 0, none⟩) 1 1, .slice none 0 0, .slice none 0 0, .slice (some ⟨W.heap.size + 1 + 1, 0, none⟩) 1 1, .slice none 0 0, .slice none 0 0, .slice none 0 0] 26)).heap.size (.slice (some ⟨W.heap.size + 1 + 1, 0, none⟩) 1 1) fullTab.maps := ⟨_, 1, rfl, by decide, by decide, (by intro h; cases h), fun i x hx => by
    cases i with
    | zero => cases hx; exact ⟨_, _, rfl, hK.lt, hK.at_ (i := 0) rfl, hK.at_ (i := 1) rfl, hI⟩
    | succ i => simp [fullTab] at hx⟩
  have hT : TabR ((((W.alloc (.cells #[.int .i64 128512, .int .i64 128512, .int .i64 3] 44)).alloc (.cells #[.int .i64 97, .int .i64 98] 3)).alloc (.cells #[.int .i64 128512, .slice (some ⟨W.heap.size + 1, 0, none⟩) 2 2] 46)).alloc (.cells #[.slice none 0 0, .slice none 0 0, .slice none 0 0, .slice none 0 0, .slice none 0 0, .slice (some ⟨W.heap.size, 0, none⟩) 1 1, .slice none 0 0, .slice none 0 0, .slice (some ⟨W.heap.size + 1 + 1, 0, none⟩) 1 1, .slice none 0 0, .slice none 0 0, .slice none 0 0] 26)) ((((W.alloc (.cells #[.int .i64 128512, .int .i64 128512, .int .i64 3] 44)).alloc (.cells #[.int .i64 97, .int .i64 98] 3)).alloc (.cells #[.int .i64 128512, .slice (some ⟨W.heap.size + 1, 0, none⟩) 2 2] 46)).alloc (.cells #[.slice none 0 0, .slice none 0 0, .slice none 0 0, .slice none 0 0, .slice none 0 0, .slice (some ⟨W.heap.size, 0, none⟩) 1 1, .slice none 0 0, .slice none 0 0, .slice (some ⟨W.heap.size + 1 + 1, 0, none⟩) 1 1, .slice none 0 0, .slice none 0 0, .slice none 0 0] 26)).heap.size ⟨.slice none 0 0, .slice none 0 0, .slice none 0 0, .slice none 0 0, .slice none 0 0, .slice (some ⟨W.heap.size, 0, none⟩) 1 1, .slice none 0 0, .slice none 0 0, .slice (some ⟨W.heap.size + 1 + 1, 0, none⟩) 1 1, .slice none 0 0, .slice none 0 0, .slice none 0 0⟩ fullTab := ⟨Spans.none_, Spans.none_, Spans.none_, Spans.none_, Spans.none_, Spans.of_own (xs := [(128512, 128512, 3)]) (own_later hS0 (below_next (below_next b12 b23) b34)), Spans.none_, Mapps.none_, hM, Mapps.none_, Ints.none_, Mapps.none_⟩
  have hX : Blk ((((W.alloc (.cells #[.int .i64 128512, .int .i64 128512, .int .i64 3] 44)).alloc (.cells #[.int .i64 97, .int .i64 98] 3)).alloc (.cells #[.int .i64 128512, .slice (some ⟨W.heap.size + 1, 0, none⟩) 2 2] 46)).alloc (.cells #[.slice none 0 0, .slice none 0 0, .slice none 0 0, .slice none 0 0, .slice none 0 0, .slice (some ⟨W.heap.size, 0, none⟩) 1 1, .slice none 0 0, .slice none 0 0, .slice (some ⟨W.heap.size + 1 + 1, 0, none⟩) 1 1, .slice none 0 0, .slice none 0 0, .slice none 0 0] 26)) (W.heap.size + 1 + 1 + 1) 26 #[.slice none 0 0, .slice none 0 0, .slice none 0 0, .slice none 0 0, .slice none 0 0, .slice (some ⟨W.heap.size, 0, none⟩) 1 1, .slice none 0 0, .slice none 0 0, .slice (some ⟨W.heap.size + 1 + 1, 0, none⟩) 1 1, .slice none 0 0, .slice none 0 0, .slice none 0 0] := by
    have h := Blk.new (((W.alloc (.cells #[.int .i64 128512, .int .i64 128512, .int .i64 3] 44)).alloc (.cells #[.int .i64 97, .int .i64 98] 3)).alloc (.cells #[.int .i64 128512, .slice (some ⟨W.heap.size + 1, 0, none⟩) 2 2] 46)) 26 #[.slice none 0 0, .slice none 0 0, .slice none 0 0, .slice none 0 0, .slice none 0 0, .slice (some ⟨W.heap.size, 0, none⟩) 1 1, .slice none 0 0, .slice none 0 0, .slice (some ⟨W.heap.size + 1 + 1, 0, none⟩) 1 1, .slice none 0 0, .slice none 0 0, .slice none 0 0]
    rw [show (((W.alloc (.cells #[.int .i64 128512, .int .i64 128512, .int .i64 3] 44)).alloc (.cells #[.int .i64 97, .int .i64 98] 3)).alloc (.cells #[.int .i64 128512, .slice (some ⟨W.heap.size + 1, 0, none⟩) 2 2] 46)).heap.size = W.heap.size + 1 + 1 + 1 by simp] at h
    exact h
  obtain ⟨t, hte⟩ : ∃ t : Tv, t = ⟨.slice none 0 0, .slice none 0 0, .slice none 0 0, .slice none 0 0, .slice none 0 0, .slice (some ⟨W.heap.size, 0, none⟩) 1 1, .slice none 0 0, .slice none 0 0, .slice (some ⟨W.heap.size + 1 + 1, 0, none⟩) 1 1, .slice none 0 0, .slice none 0 0, .slice none 0 0⟩ := ⟨_, rfl⟩
  have HT : Hid (Tbl ((((W.alloc (.cells #[.int .i64 128512, .int .i64 128512, .int .i64 3] 44)).alloc (.cells #[.int .i64 97, .int .i64 98] 3)).alloc (.cells #[.int .i64 128512, .slice (some ⟨W.heap.size + 1, 0, none⟩) 2 2] 46)).alloc (.cells #[.slice none 0 0, .slice none 0 0, .slice none 0 0, .slice none 0 0, .slice none 0 0, .slice (some ⟨W.heap.size, 0, none⟩) 1 1, .slice none 0 0, .slice none 0 0, .slice (some ⟨W.heap.size + 1 + 1, 0, none⟩) 1 1, .slice none 0 0, .slice none 0 0, .slice none 0 0] 26)) (W.heap.size + 1 + 1 + 1) t fullTab) := Lib.hid (by subst hte; exact ⟨hX, hT⟩)
  have B4 := Lib.hid hb4
  clear hS0 b12 b23 b34 hb4 hI hK hM hT hX hte
  generalize ((((W.alloc (.cells #[.int .i64 128512, .int .i64 128512, .int .i64 3] 44)).alloc (.cells #[.int .i64 97, .int .i64 98] 3)).alloc (.cells #[.int .i64 128512, .slice (some ⟨W.heap.size + 1, 0, none⟩) 2 2] 46)).alloc (.cells #[.slice none 0 0, .slice none 0 0, .slice none 0 0, .slice none 0 0, .slice none 0 0, .slice (some ⟨W.heap.size, 0, none⟩) 1 1, .slice none 0 0, .slice none 0 0, .slice (some ⟨W.heap.size + 1 + 1, 0, none⟩) 1 1, .slice none 0 0, .slice none 0 0, .slice none 0 0] 26)) = w4 at *
  obtain ⟨tb, htb⟩ : ∃ tb, W.heap.size + 1 + 1 + 1 = tb := ⟨_, rfl⟩
  rw [htb] at HT
  simp only [htb]
  obtain ⟨p0, p1⟩ := pick_in n (n := 3) (by decide)
  obtain ⟨p, hp⟩ := Int.eq_ofNat_of_zero_le p0
  have HP := Lib.hid (fun w => pick_any n 3 w (by decide) (by decide))
  rw [hp] at HP p1
  clear p0 hp
  go_upto_region 3 with (go_at_call 17; refine (HP.out _).mono ?_; rintro e w5 ⟨rfl, rfl⟩)
  obtain ⟨k, hk⟩ : ∃ k : Nat, (2048 : Int) + (p : Int) - 1 = (k : Int) := ⟨2047 + p, by omega⟩
  have hk1 : 2047 ≤ k ∧ k ≤ 2049 := by omega
  simp only [hk]
  clear hk HP p1
  obtain ⟨i0, hi, hz0, hz1, hz2⟩ := info_parts Tryd.infoInt'
  obtain ⟨w5, hmk, hown, hgr⟩ := run_make_full w4 w4.heap.size 22 3 i0 (.int .i64 0) 1 Tryd.underlying22 hi hz0 hz1 .i64 .i64 k (by rw [hz2]; omega) (by unfold maxLen; omega) (Nat.le_refl _)
  have HO5 : Hid (w5.ownsRow w4.heap.size 3 1 (.slice (some ⟨w4.heap.size, 0, none⟩) k k) k ((List.replicate k (0 : Int)).map (Value.int .i64))) := Lib.hid (by
    have h := hown
    rw [show (Value.int .i64 0).cells = #[.int .i64 0] from rfl, toList_madeCells_one] at h
    simpa using h)
  have B5 := Lib.hid ((Below.refl _ _).grown hgr (Nat.le_refl _) (fun q hq => by cases hq) : Below w4.heap.size w4 w5)
  clear hown hgr
  obtain ⟨gb, hgb⟩ : ∃ gb, w4.heap.size = gb := ⟨_, rfl⟩
  rw [hgb] at hmk HO5
  go_wp2_with fail
  go_loopw [24] (fun i wr => ∃ (j : Nat), j ≤ k ∧ i = .int .i64 j ∧ Hid (wr.ownsRow gb 3 1 (.slice (some ⟨gb, 0, none⟩) k k) k ((List.replicate j (128512 : Int) ++ List.replicate (k - j) 0).map (Value.int .i64))) ∧ Hid (Below gb w4 wr)) (fun i _ => k - (intOf i).toNat)
  case atStart => exact ⟨0, by omega, rfl, by simpa using HO5, by rw [← hgb]; exact B5⟩
  case round =>
    obtain ⟨j, hj, rfl, HO, HB⟩ := hrel
    by_cases hlt : j < k
    · have e1 := (HO.out.cellAt j (by omega)).trans (by rw [List.getElem?_map, List.getElem?_append_right (by simp)]; simp [List.getElem?_replicate]; omega : ((List.replicate j (128512 : Int) ++ List.replicate (k - j) 0).map (Value.int .i64))[j]? = some (.int .i64 0))
      have f1 := HO.out.frozenAt j
      have q0 : (0 : Int) ≤ (j : Int) := by omega
      have q1 : (j : Int) < (k : Int) := by omega
      have HO' : Hid ((wr.setCell ⟨gb, j, none⟩ (.int .i64 128512)).ownsRow gb 3 1 (.slice (some ⟨gb, 0, none⟩) k k) k ((List.replicate (j + 1) (128512 : Int) ++ List.replicate (k - (j + 1)) 0).map (Value.int .i64))) := by
        have h := (HO.out.stored j (.int .i64 128512)).1
        rw [← List.map_set] at h
        rw [set_rep hlt] at h
        exact Lib.hid h
      have HB' : Hid (Below gb w4 (wr.setCell ⟨gb, j, none⟩ (.int .i64 128512))) := Lib.hid (HB.out.setCell (p := ⟨gb, j, none⟩) (Nat.le_refl _) _)
      go_wp2_with fail
      go_roundw
      case rel => exact ⟨j + 1, by omega, by go_num, HO', HB'⟩
      case measure => simp [intOf]; omega
    · have q1 : ¬ (j : Int) < (k : Int) := by omega
      have hmp := full_map k (by omega)
      have hou := full_out k
      obtain rfl : j = k := by omega
      rw [Nat.sub_self, List.replicate_zero, List.append_nil] at HO
      obtain ⟨ins, hins⟩ : ∃ ins, List.replicate j (128512 : Int) = ins := ⟨_, rfl⟩
      have hil : ins.length = j := by rw [← hins]; simp
      rw [hins] at HO hmp hou
      have HBw := HB.out
      rw [← hgb] at HBw
      have B6 := Lib.hid (below_next B4.out HBw)
      have HTr := Lib.hid (HT.out.later HBw)
      have HIk : Hid (Ints wr wr.heap.size .i64 (.slice (some ⟨gb, 0, none⟩) j j) ins) := by
        have h := HO.out
        rw [← hil] at h
        have h2 := Ints.of_own h
        rw [hil] at h2
        exact Lib.hid h2
      have H1 := Lib.hid (map_any t fullTab (.slice (some ⟨gb, 0, none⟩) j j) ins wr HTr.out.2 (HG.out.later B6.out) HIk.out)
      rw [hmp] at H1
      have HOU := Lib.hid hou
      clear hmp hou hil HBw hins
      obtain ⟨x0, x1, x2, x3, x4, x5, x6, x7, x8, x9, x10, x11⟩ := HTr.out.1.tab
      by_cases h2 : 4096 < 2 * j
      · rw [if_pos h2] at H1
        have r1 : (4096 : Int) < 2 * (j : Int) := by omega
        have r2 : ¬ 2 * (j : Int) ≤ 4096 := by omega
        go_wp2_with (first
          | (go_at_call 23; refine H1.out.mono ?_; rintro e w7 ⟨u7, rfl, ho7, b7⟩; obtain ⟨A9, c9, rfl, _⟩ := id (Ints.of_own ho7); have B7 := Lib.hid (below_next B6.out b7); clear ho7 b7 H1)
          | (go_at_call 24; refine (awake13 _ (HG.out.later B7.out)).mono ?_; rintro e w8 ⟨rfl, b8⟩; have B8 := Lib.hid (below_next B7.out b8); clear b8))
        go_ret
        refine ⟨?_, B8.out⟩
        simp; try omega
      · rw [if_neg h2] at H1
        have r1 : ¬ (4096 : Int) < 2 * (j : Int) := by omega
        have r2 : 2 * (j : Int) ≤ 4096 := by omega
        obtain ⟨os, hos⟩ : ∃ os, mapOut fullTab ins = os := ⟨_, rfl⟩
        rw [hos] at H1 HOU
        have r3 : (os.length : Int) = 2 * (j : Int) := by have := HOU.out; omega
        go_wp2_with (first
          | (go_at_call 23; refine H1.out.mono ?_; rintro e w7 ⟨u7, rfl, ho7, b7⟩; obtain ⟨A9, c9, rfl, _⟩ := id (Ints.of_own ho7); have B7 := Lib.hid (below_next B6.out b7); clear ho7 b7 H1)
          | (go_at_call 24; refine (awake13 _ (HG.out.later B7.out)).mono ?_; rintro e w8 ⟨rfl, b8⟩; have B8 := Lib.hid (below_next B7.out b8); clear b8))
        go_ret
        refine ⟨?_, B8.out⟩
        simp; try omega
theorem MappingFull_walk (W : World) (hg : Glob W) (n : Int) (_ : -9223372036854775808 ≤ n ∧ n ≤ 9223372036854775807) :
    Calls Tryd.prog 9 #[.int .i64 n] W fun e W' => e = .returned (.bool true) ∧ Below W.heap.size W W' := MappingFull_go W hg n
end Go.Proofs.YtneinkpfhkojgaaDoor
