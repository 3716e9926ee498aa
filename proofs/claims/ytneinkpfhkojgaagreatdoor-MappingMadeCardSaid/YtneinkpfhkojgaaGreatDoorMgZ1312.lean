/-
  Merged texts: lemmas and walks that the last text of this claim leans on.
-/
import Derived.Test.YtneinkpfhkojgaaGreatDoorMgZ133
import Derived.Test.YtneinkpfhkojgaaGreatDoorMgZ1311
import Derived.Test.YtneinkpfhkojgaaGreatDoorMgZ132
import Derived.Test.YtneinkpfhkojgaaGreatDoorMgZ137
import Derived.Test.YtneinkpfhkojgaaGreatDoorMgZ1310
import Derived.Test.YtneinkpfhkojgaaGreatDoorMgZ131
import Derived.Test.YtneinkpfhkojgaaGreatDoorMgZ138
/-
  A drawn region in which rows of the call's own are appended to, by what holds of each slot.
-/
namespace Go.Proofs.YtneinkpfhkojgaaGreatDoor
open Go.RowKit ND

/-- What is said of a slot: besides values, sequences that lie below B0, sequences, rows of the call's own. -/
inductive SpecK where
  | val (v : Value)
  | low (p : List Int → Prop)
  | lst (p : List Int → Prop)
  | own (ys : List Int)
  | tab (p : Tab → Prop)
  | two (n : Int) (p : List Int → Prop)
  | tri (i n : Int) (p : List Int → Prop)
def SpecK.ok (B0 : Nat) : SpecK → Value → World → Prop
  | .val u, v, _ => v = u
  | .low p, v, w => ∃ ys, Ints w B0 .i64 v ys ∧ p ys
  | .lst p, v, w => ∃ ys, Ints w w.heap.size .i64 v ys ∧ p ys
  | .own ys, v, w => w.ownsRow B0 3 1 v ys.length (ys.map (Value.int .i64))
  | .tab p, v, w => ∃ (t : Tv) (T : Tab), v = t.val ∧ TabR w w.heap.size t T ∧ p T
  | .two n p, v, w => ∃ u ys, v = .tuple #[u, .int .i64 n] ∧ Ints w w.heap.size .i64 u ys ∧ p ys
  | .tri i n p, v, w => ∃ u ys, v = .tuple #[u, .int .i64 i, .int .i64 n] ∧ Ints w w.heap.size .i64 u ys ∧ p ys
def SpecK.mem : SpecK → Bool
  | .val _ => false
  | .low _ => false
  | _ => true
def RK (B0 : Nat) (specs : List SpecK) (i : Nat) (v : Value) (w : World) : Prop := ∀ s, specs[i]? = some s → s.ok B0 v w
/-- The appends consume what lies in memory. -/
def killK (specs : List SpecK) (apps : List Nat) (i j : Nat) : Bool := apps.contains j && (decide (i < j) && match specs[i]? with | some s => s.mem | none => false)
theorem SpecK.later {B0 : Nat} {s : SpecK} {v : Value} {w w' : World} (h : s.ok B0 v w) (hb : Below w.heap.size w w') (hB : B0 ≤ w.heap.size) : s.ok B0 v w' := by
  cases s with
  | val u => exact h
  | low p => obtain ⟨ys, h1, h2⟩ := h; exact ⟨ys, h1.below (hb.mono hB), h2⟩
  | lst p => obtain ⟨ys, h1, h2⟩ := h; exact ⟨ys, h1.later hb, h2⟩
  | own ys => exact own_later h hb
  | tab p => obtain ⟨t, T, e, h1, h2⟩ := h; exact ⟨t, T, e, h1.later hb, h2⟩
  | two n p => obtain ⟨u, ys, e, h1, h2⟩ := h; exact ⟨u, ys, e, h1.later hb, h2⟩
  | tri i n p => obtain ⟨u, ys, e, h1, h2⟩ := h; exact ⟨u, ys, e, h1.later hb, h2⟩
theorem RK.later {B0 : Nat} {specs : List SpecK} {i : Nat} {v : Value} {w w' : World} (h : RK B0 specs i v w) (hb : Below w.heap.size w w') (hB : B0 ≤ w.heap.size) : RK B0 specs i v w' := fun s hs => SpecK.later (h s hs) hb hB
theorem rk_of {B0 : Nat} {specs : List SpecK} {i : Nat} {v : Value} {w : World} {s : SpecK} (hs : specs[i]? = some s) (h : s.ok B0 v w) : RK B0 specs i v w := fun s' hs' => by
  rw [hs] at hs'; cases hs'; exact h

/-- The edges that bind point back. -/
def lowA : Nat → List Oper → Bool
  | _, [] => true
  | k, o :: r => o.after.all (fun e => !Region.binds .any e || decide (e.on < k)) && lowA (k + 1) r
def checksA (ops : Array Oper) (n : Nat) (fx : List Tmp) : Bool :=
  lowA 0 ops.toList && nodupB (ops.toList.map (·.dst)) && ops.toList.all fun o => match o.dst with | some d => decide (d < n) && !fx.contains d | none => true
theorem lowA_at : ∀ {l : List Oper} {k i : Nat} {o : Oper}, lowA k l = true → l[i]? = some o → ∀ e ∈ o.after, Region.binds .any e = true → e.on < k + i := by
  intro l
  induction l with
  | nil => intro k i o _ h; simp at h
  | cons a r ih =>
    intro k i o h hi e he hb
    rw [lowA, Bool.and_eq_true] at h
    cases i with
    | zero =>
      simp only [List.getElem?_cons_zero, Option.some.injEq] at hi
      subst hi
      have := Array.all_eq_true'.1 h.1 e he
      simpa [hb] using this
    | succ i =>
      rw [List.getElem?_cons_succ] at hi
      have := ih h.2 hi e he hb
      omega

/-- The obligation of one operation. -/
def ObL (P : Program) (ops : Array Oper) (n : Nat) (ds : List Deferred) (fixed : List (Tmp × Value)) (kill : Nat → Nat → Bool) (C : Array Bool → World → Prop) (R : Nat → Value → World → Prop) (Q : Exit → Act → World → Prop) (i : Nat) (o : Oper) : Prop :=
  ∀ listed a w, C listed w → listed.size = ops.size → listed.getD i true = false → (∀ (j : Nat) (o : Oper), ops[j]? = some o → listed.getD j false = true → ∀ e ∈ o.after, Region.binds .any e = true → listed.getD e.on false = true) → FS n ds fixed a → DepsK ops kill R listed o a w → ∀ K : Act → World → Prop, (∀ v w', (∀ d, o.dst = some d → R i v w') → C (listed.setIfInBounds i true) w' → (∀ j u, j ≠ i → listed.getD j false = true → kill j i = false → R j u w → R j u w') → K (a.put o.dst v) w') →
    if Region.wanted o (yielded ops a.tmps) = true then o.wp P a w K Q else K (a.put o.dst undef) w

theorem wp_region_killL {P : Program} {id n : Nat} {ops : Array Oper} {Q : Exit → Act → World → Prop} {a : Act} {w : World} {ds : List Deferred} {fixed : List (Tmp × Value)} {kill : Nat → Nat → Bool} {C : Array Bool → World → Prop} {R : Nat → Value → World → Prop} (hm : P.follows .mixedOrders = true)
    (hck : checksA ops n (fixed.map (·.1)) = true) (hf : FS n ds fixed a) (hc : C (Array.replicate ops.size false) w.drew)
    (hob : ∀ (i : Nat) (o : Oper), ops[i]? = some o → ObL P ops n ds fixed kill C R Q i o)
    (hend : ∀ listed a w, (∀ i, i < ops.size → listed.getD i false = true) → C listed w → FS n ds fixed a → (∀ (i : Nat) (o : Oper) (d : Tmp), ops[i]? = some o → (∀ j, kill i j = false) → o.dst = some d → ∃ v, a.tmps[d]? = some v ∧ R i v w) → Q .normal a w) : (Code.region id ops true).wp P Q a w := by
  unfold checksA at hck
  rw [Bool.and_eq_true, Bool.and_eq_true, List.all_eq_true] at hck
  obtain ⟨⟨h1, h2⟩, h3⟩ := hck
  have hat : ∀ {i : Nat} {o : Oper}, ops[i]? = some o → ops.toList[i]? = some o := fun h => by simpa using h
  have hin : ∀ {i : Nat} {o : Oper} {d : Tmp}, ops[i]? = some o → o.dst = some d → d < n ∧ d ∉ fixed.map (·.1) := fun h hd => by
    have := h3 _ (List.mem_of_getElem? (hat h))
    rw [hd] at this
    simpa using this
  have hlow : ∀ (i : Nat) (o : Oper), ops[i]? = some o → ∀ e ∈ o.after, Region.binds .any e = true → e.on < i := fun i o ho e he hb => by
    have := lowA_at h1 (hat ho) e he hb
    omega
  have hdst : ∀ (i j : Nat) (o o' : Oper) (d : Tmp), ops[i]? = some o → ops[j]? = some o' → i ≠ j → o.dst = some d → o'.dst ≠ some d := fun i j o o' d hi hj hij hd hd' => by
    have hi' : (ops.toList.map (·.dst))[i]? = some (some d) := by rw [List.getElem?_map, hat hi]; simp [hd]
    have hj' : (ops.toList.map (·.dst))[j]? = some (some d) := by rw [List.getElem?_map, hat hj]; simp [hd']
    rcases Nat.lt_or_gt_of_ne hij with h | h
    · exact nodupB_at h2 h hi' hj'
    · exact nodupB_at h2 h hj' hi'
  have hF : ∀ (i : Nat) (o : Oper) (a : Act) (v : Value), ops[i]? = some o → FS n ds fixed a → FS n ds fixed (a.put o.dst v) := fun i o a v ho ⟨q1, q2, q3⟩ => by
    cases hd : o.dst with
    | none => exact ⟨q1, q2, q3⟩
    | some d =>
      obtain ⟨_, hn⟩ := hin ho hd
      refine ⟨by simpa [Act.put] using q1, q2, fun p hp => ?_⟩
      have hne : d ≠ p.1 := fun e => hn (e ▸ List.mem_map_of_mem hp)
      simp [Act.put, hne, q3 p hp]
  refine wp_region_any hm (wpAny_ind (I := InvK ops (FS n ds fixed) kill C R) (fun _ _ _ h => h.size) ?_ ?_ _ _ _ _ ⟨by simp, hc, hf, fun j o _ hl => ?_, fun i o d _ hl _ _ => ?_⟩ ?_)
  · intro listed a w h hr
    have hall := ready_nil h.size hlow hr
    refine hend listed a w hall h.c h.f fun i o d ho hk hd => h.r i o d ho (hall i (Array.getElem?_eq_some_iff.1 ho).1) (fun j hj => ?_) hd
    rw [hk j] at hj; cases hj
  · intro listed a w h i hi o ho K hK
    obtain ⟨g1, g2, o', ho', hdep⟩ := ready_spec hi
    rw [ho] at ho'; cases ho'
    refine hob i o ho listed a w h.c h.size g2 h.closed h.f (fun e he hb hk oe d hoe hd => h.r e.on oe d hoe (hdep e he hb) hk hd) K fun v w' hv hc' hst => hK _ _ ⟨by simpa using h.size, hc', hF i o a v ho h.f, fun j oj hj hlj e he hb => ?_, fun j oj d hj hlj hkj hdj => ?_⟩
    · have up : listed.getD e.on false = true → (listed.setIfInBounds i true).getD e.on false = true := fun hl => by
        rw [Array.getD_eq_getD_getElem?, Array.getElem?_setIfInBounds]
        split
        · split <;> simp_all
        · rw [← Array.getD_eq_getD_getElem?]; exact hl
      by_cases hji : j = i
      · subst hji
        rw [ho] at hj; cases hj
        exact up (hdep e he hb)
      · rw [Array.getD_eq_getD_getElem?, Array.getElem?_setIfInBounds, if_neg (Ne.symm hji)] at hlj
        exact up (h.closed j oj hj (by rw [Array.getD_eq_getD_getElem?]; exact hlj) e he hb)
    by_cases hji : j = i
    · subst hji
      rw [ho] at hj; cases hj
      refine ⟨v, ?_, hv d hdj⟩
      rw [hdj]
      simp [Act.put, h.f.1, (hin ho hdj).1]
    · have hlj' : listed.getD j false = true := by
        rw [Array.getD_eq_getD_getElem?, Array.getElem?_setIfInBounds, if_neg (Ne.symm hji)] at hlj
        rw [Array.getD_eq_getD_getElem?]; exact hlj
      have hset : ∀ m, (listed.setIfInBounds i true).getD m true = false → m ≠ i ∧ listed.getD m true = false := fun m hm => by
        rw [Array.getD_eq_getD_getElem?, Array.getElem?_setIfInBounds] at hm
        by_cases e : m = i
        · subst e
          simp [h.size, g1] at hm
        · rw [if_neg (Ne.symm e)] at hm
          exact ⟨e, by rw [Array.getD_eq_getD_getElem?]; exact hm⟩
      obtain ⟨u, hu1, hu2⟩ := h.r j oj d hj hlj' (fun m hm => (hset m (hkj m hm)).2) hdj
      refine ⟨u, ?_, hst j u hji hlj' (by cases hki : kill j i with | false => rfl | true => exact absurd rfl (hset i (hkj i hki)).1) hu2⟩
      cases hod : o.dst with
      | none => exact hu1
      | some d' =>
        have hne : d' ≠ d := fun e => hdst j i oj o d hj ho hji hdj (by rw [hod, e])
        simp [Act.put, hne, hu1]
  · rw [Array.getD_eq_getD_getElem?, Array.getElem?_replicate] at hl
    split at hl <;> simp at hl
  · rw [Array.getD_eq_getD_getElem?, Array.getElem?_replicate] at hl
    split at hl <;> simp at hl
  · unfold unl
    exact Nat.le_trans List.countP_le_length (by simp)


/-- What an operation may lean on: what no append can have consumed. -/
def DepsF (F : Nat) (ops : Array Oper) (kill : Nat → Nat → Bool) (R : Nat → Value → World → Prop) (i : Nat) (o : Oper) (a : Act) (w : World) : Prop :=
  ∀ e ∈ o.after, Region.binds .any e = true → (∀ j, kill e.on j = true → ancB ops F i j = true) → ∀ (oe : Oper) (d : Tmp), ops[e.on]? = some oe → oe.dst = some d → ∃ v, a.tmps[d]? = some v ∧ R e.on v w
/-- The obligation of one operation. -/
def ObR (F : Nat) (P : Program) (ops : Array Oper) (n : Nat) (ds : List Deferred) (fixed : List (Tmp × Value)) (w0 : World) (specs : List SpecK) (apps : List Nat) (Q : Exit → Act → World → Prop) (i : Nat) : Prop :=
  ∀ o, ops[i]? = some o → ∀ a w, Below w0.heap.size w0 w → FS n ds fixed a → DepsF F ops (killK specs apps) (RK w0.heap.size specs) i o a w → ∀ K : Act → World → Prop,
    (∀ v w', RK w0.heap.size specs i v w' → (Below w.heap.size w w' ∨ apps.contains i = true ∧ Below w0.heap.size w w') → K (a.put o.dst v) w') →
    if Region.wanted o (yielded ops a.tmps) = true then o.wp P a w K Q else K (a.put o.dst undef) w

theorem dep_k {F : Nat} {ops : Array Oper} {specs : List SpecK} {apps : List Nat} {B0 i : Nat} {o : Oper} {a : Act} {w : World} (ho : ops[i]? = some o) (hd : DepsF F ops (killK specs apps) (RK B0 specs) i o a w) (j : Nat) (d : Tmp) (s : SpecK)
    (h1 : ((ops[i]?).map fun o => o.after.any fun e => Region.binds .any e && e.on == j) = some true) (h2 : ((ops[j]?).map (·.dst)) = some (some d)) (h3 : specs[j]? = some s) (h4 : (!s.mem || apps.all fun q => decide (q ≤ j) || ancB ops F i q) = true) : ∃ v, a.tmps[d]? = some v ∧ s.ok B0 v w := by
  have h5 := get_op (fun o => o.after.any fun e => Region.binds .any e && e.on == j) ho h1
  obtain ⟨e, he, hb⟩ := Array.any_eq_true'.1 h5
  rw [Bool.and_eq_true, beq_iff_eq] at hb
  cases hj : ops[j]? with
  | none => rw [hj] at h2; cases h2
  | some oj =>
    rw [hj] at h2
    obtain ⟨v, hv, hr⟩ := hd e he hb.1 (fun q hk => by
      unfold killK at hk
      rw [hb.2, h3, Bool.and_eq_true, Bool.and_eq_true, decide_eq_true_eq] at hk
      obtain ⟨hk1, hk2, hk3⟩ := hk
      rcases Bool.or_eq_true_iff.1 h4 with h | h
      · simp only at hk3
        rw [hk3] at h; cases h
      · rw [List.all_eq_true] at h
        have h6 := h q (by simpa using hk1)
        rcases Bool.or_eq_true_iff.1 h6 with h7 | h7
        · rw [decide_eq_true_eq] at h7; omega
        · exact h7) oj d (by rw [hb.2, hj]) (by simpa using h2)
    exact ⟨v, hv, hr s (by rw [hb.2]; exact h3)⟩
theorem end_k {ops : Array Oper} {specs : List SpecK} {apps : List Nat} {B0 : Nat} {a : Act} {w : World} (hr : ∀ (i : Nat) (o : Oper) (d : Tmp), ops[i]? = some o → (∀ j, killK specs apps i j = false) → o.dst = some d → ∃ v, a.tmps[d]? = some v ∧ RK B0 specs i v w) (i : Nat) (d : Tmp) (s : SpecK)
    (h2 : ((ops[i]?).map (·.dst)) = some (some d)) (h3 : specs[i]? = some s) (h4 : (!s.mem || apps.all fun q => decide (q ≤ i)) = true) : ∃ v, a.tmps[d]? = some v ∧ s.ok B0 v w := by
  cases hj : ops[i]? with
  | none => rw [hj] at h2; cases h2
  | some oj =>
    rw [hj] at h2
    obtain ⟨v, hv, h⟩ := hr i oj d hj (fun j => by
      unfold killK
      rw [h3]
      rcases Bool.or_eq_true_iff.1 h4 with h | h
      · cases hm : s.mem with
        | false => simp [hm]
        | true => rw [hm] at h; cases h
      · cases hc : apps.contains j with
        | false => rfl
        | true =>
          rw [List.all_eq_true] at h
          have h6 := h j (by simpa using hc)
          rw [decide_eq_true_eq] at h6
          rw [decide_eq_false (by omega)]; rfl) (by simpa using h2)
    exact ⟨v, hv, h s h3⟩

/-- A drawn region by obligations, its appends named. -/
theorem wp_region_k (F : Nat) {P : Program} {id n : Nat} {ops : Array Oper} {Q : Exit → Act → World → Prop} {a : Act} {w0 : World} {ds : List Deferred} {fixed : List (Tmp × Value)} {specs : List SpecK} {apps : List Nat} (hm : P.follows .mixedOrders = true)
    (hck : checksA ops n (fixed.map (·.1)) = true) (hap : apps.all (fun q => decide (q < ops.size) && (List.range ops.size).all fun j => decide (j ≤ q) || ancB ops F q j || match specs[j]? with | some s => !s.mem | none => true) = true) (hsp : specs.length = ops.size) (hf : FS n ds fixed a)
    (hob : ∀ i, i < ops.size → ObR F P ops n ds fixed w0 specs apps Q i)
    (hend : ∀ a w, Below w0.heap.size w0 w → FS n ds fixed a → (∀ (i : Nat) (o : Oper) (d : Tmp), ops[i]? = some o → (∀ j, killK specs apps i j = false) → o.dst = some d → ∃ v, a.tmps[d]? = some v ∧ RK w0.heap.size specs i v w) → Q .normal a w) : (Code.region id ops true).wp P Q a w0 := by
  rw [List.all_eq_true] at hap
  refine wp_region_killL (n := n) (ds := ds) (fixed := fixed) (kill := killK specs apps) (C := fun _ w => Below w0.heap.size w0 w) (R := RK w0.heap.size specs) hm hck hf ((Below.refl _ _).drew) (fun i o ho => ?_) ?_
  · intro listed a w hC hsl hl hcl hfs hd K hK
    have hi : i < ops.size := (Array.getElem?_eq_some_iff.1 ho).1
    refine hob i hi o ho a w hC hfs (fun e he hb hk oe d hoe hde => hd e he hb (fun j hj => ?_) oe d hoe hde) K fun v w' hR hw => ?_
    · cases hlj : listed.getD j true with
      | false => rfl
      | true =>
        have hj2 := hj
        unfold killK at hj2
        rw [Bool.and_eq_true] at hj2
        have h6 := hap j (by simpa using hj2.1)
        rw [Bool.and_eq_true, decide_eq_true_eq] at h6
        have h3 := ancB_listed hcl F i j (hk j hj) (by rw [getD_any (by omega) false true]; exact hlj)
        rw [getD_any (by omega) false true, hl] at h3
        cases h3
    · rcases hw with hw | ⟨hap', hw⟩
      · exact hK v w' (fun _ _ => hR) (below_then hC (Nat.le_refl _) hw) fun j u _ _ _ hr => hr.later hw hC.size
      · refine hK v w' (fun _ _ => hR) (hC.trans hw) fun j u hji hlj hkj hr => ?_
        intro s hs
        have h1 := hr s hs
        cases hmem : s.mem with
        | false =>
          cases s with
          | val u => exact h1
          | low p => obtain ⟨ys, h1, h2⟩ := h1; exact ⟨ys, h1.below hw, h2⟩
          | lst p => cases hmem
          | own ys => cases hmem
          | tab p => cases hmem
          | two n p => cases hmem
          | tri i n p => cases hmem
        | true =>
          exfalso
          have h6 := hap i (by simpa using hap')
          rw [Bool.and_eq_true, decide_eq_true_eq, List.all_eq_true] at h6
          have hjs : j < ops.size := by
            have := (List.getElem?_eq_some_iff.1 hs).1
            omega
          have h7 := h6.2 j (List.mem_range.2 hjs)
          rw [hs] at h7
          simp only [hmem, Bool.not_true, Bool.or_false] at h7
          rcases Bool.or_eq_true_iff.1 h7 with h8 | h8
          · rw [decide_eq_true_eq] at h8
            have : j < i := by omega
            unfold killK at hkj
            rw [hs, hap', decide_eq_true this] at hkj
            simp only [hmem] at hkj
            cases hkj
          · have h3 := ancB_listed hcl F i j h8 hlj
            rw [getD_any (by omega) false true, hl] at h3
            cases h3
  · intro listed a w _ hC hfs hr
    exact hend a w hC hfs hr

/-- An act, written out. -/
theorem act_fun {a : Act} {n : Nat} (hs : a.tmps.size = n) (hd : a.defers = []) : ∃ f : Nat → Value, (∀ i, i < n → a.tmps[i]? = some (f i)) ∧ a = ⟨((List.range n).map f).toArray, []⟩ := by
  refine ⟨fun i => (a.tmps[i]?).getD undef, fun i hi => by show _ = some ((a.tmps[i]?).getD undef); rw [Array.getElem?_eq_getElem (by omega)]; rfl, ?_⟩
  obtain ⟨ts, ds⟩ := a
  simp only at hs hd ⊢
  subst hd
  congr 1
  rw [← ts.toArray_toList]
  congr 1
  refine List.ext_getElem? fun i => ?_
  by_cases hi : i < n
  · rw [List.getElem?_map, List.getElem?_range hi, List.getElem?_eq_getElem (by simpa [hs] using hi)]
    simp [hs, hi]
  · rw [List.getElem?_eq_none (by simpa [hs] using hi), List.getElem?_eq_none (by simpa using hi)]
/-- A literal of integers. -/
theorem lit_k (w : World) (xs : List Int) (hl : xs.length ≤ 1000000) : Ints (w.alloc (.cells (xs.map (Value.int .i64)).toArray 3)) (w.alloc (.cells (xs.map (Value.int .i64)).toArray 3)).heap.size .i64 (.slice (some ⟨w.heap.size, 0, none⟩) xs.length xs.length) xs :=
  Ints.of_own (own_new w 3 xs hl)
section
variable {P : Program} {o : Oper} {a : Act} {X : World} {K : Act → World → Prop} {Q : Exit → Act → World → Prop}
/-- append(v, u..) behind a row of the call's own. -/
theorem ob_app_ints {T e : TypeId} {i0 : TypeInfo} (s x : Operand)
    (ho : o.op = .call { callee := .builtin .append, args := #[s, x], argTypes := #[T, T] }) (ht : P.underlying T = some (.slice e)) (hi : P.info? e = some i0) (hz : i0.zero = some (.int .i64 0)) (h1 : i0.size = 1) (h2 : i0.bytes = 8)
    (B base : Nat) (v : Value) (acc : List Int) (u : Value) (ys : List Int) (hs : a.eval s = v) (hown : X.ownsRow base e 1 v acc.length (acc.map (Value.int .i64))) (hx : a.eval x = u) (hu : Ints X B .i64 u ys) (hl : acc.length + ys.length ≤ 1000000) (hb : base ≤ X.heap.size)
    (h : ∀ v' w', w'.ownsRow base e 1 v' (acc ++ ys).length ((acc ++ ys).map (Value.int .i64)) → X.grownBy w' v.ownBlock → K (a.put o.dst v') w') : o.wp P a X K Q := by
  obtain ⟨A, c, rfl, hc1, hc2, hA, hcell⟩ := hu
  cases A with
  | none =>
    obtain rfl : c = 0 := hA rfl
    obtain rfl : ys = [] := List.eq_nil_of_length_eq_zero (by omega)
    have hr := run_append_none (P := P) (ty := o.type) ht hi hown
    have h3 := h v X (by simpa using hown) (grown_refl X _)
    unfold Oper.wp execOp
    simp only [ho, resolve, invoke, builtin, Sem.run_bind, Sem.run_pure, Result.andThen_ok, List.map_toArray, List.map_cons, List.map_nil, hs, hx, List.length_nil, hr]
    exact h3
  | some ad =>
    refine wp_append_own X s x T ho base e i0 (.int .i64 0) 1 8 ht hi hz h1 h2 rfl (by omega) v acc.length _ hs hown ad ys.length c (ys.map (Value.int .i64)) hx (by simp) ?_ ?_ (by unfold maxLen; omega) (by omega) hb ?_
    · intro i y hi
      rw [List.getElem?_map] at hi
      cases hy : ys[i]? with
      | none => rw [hy] at hi; cases hi
      | some z =>
        rw [hy] at hi
        cases hi
        obtain ⟨ad', e1, _, e2⟩ := hcell i z hy
        cases e1; exact e2
    · intro q hq
      obtain ⟨y, _, rfl⟩ := List.mem_map.1 hq
      rfl
    · intro v' w' p q r
      exact h v' w' (by simpa using p) q
theorem ob_run5 {v : Value} {w' : World} (hr : (execOp a.eval o).run P X = .ok (.value v) w') (h : K (a.put o.dst v) w') : o.wp P a X K Q := by
  unfold Oper.wp
  rw [hr]
  exact h
theorem ob_extract {x : Operand} {k : Nat} {vs : Array Value} {u : Value} (ho : o.op = .extract x k) (hx : a.eval x = .tuple vs) (hu : vs[k]? = some u) (h : K (a.put o.dst u) X) : o.wp P a X K Q := by
  unfold Oper.wp execOp
  rw [ho]
  simp only [hx, Instr.extract, hu]
  exact h
end
end Go.Proofs.YtneinkpfhkojgaaGreatDoor
/-
  The walk through agrees of the laws of layer 13: for whatever tables and sequence.
-/
namespace Go.Proofs.YtneinkpfhkojgaaGreatDoor
open Go.RowKit ND

theorem same_of (v u : Value) (xs ys : List Int) (w : World) (hv : Ints w w.heap.size .i64 v xs) (hu : Ints w w.heap.size .i64 u ys) (h : xs = ys) :
    Calls Tryz.prog 21 #[v, u] w fun e w' => e = .returned (.bool true) ∧ Below w.heap.size w w' := by
  have h2 := same_any v u xs ys w hv hu
  rw [decide_eq_true h] at h2; exact h2

/-- What holds ahead of region 3. -/
structure ag13Ctx (w0 : World) (b : Nat) (t : Tv) (T : Tab) (va : Value) (xs : List Int) (vx : Value) (vy : Value) (ys : List Int) (ai : Int) (er : Int) : Prop where
  tb : Tbl w0 b t T
  g : Glob w0
  v : Ints w0 w0.heap.size .i64 va xs
  x : Ints w0 w0.heap.size .i64 vx ys
  y : Ints w0 w0.heap.size .i64 vy ys
def ag13Specs (t : Tv) (T : Tab) (va : Value) (xs : List Int) (vx : Value) (vy : Value) (ai : Int) (er : Int) : List SpecK := [.val vx, .val vy, .val (.bool true), .val (.bool true), .val (.int .i64 ai), .val (.int .i64 ai), .val (.bool true), .val (.bool true), .val (.bool true), .val (.int .i64 er), .val (.int .i64 er), .val (.bool true), .val (.bool true), .val (.bool true), .val t.val, .val va, .val (.bool (stableB T xs)), .val t.val, .val va, .val (.bool (stableB T xs)), .val (.bool true), .val (.bool true), .val (.bool true), .val t.val, .val va, .lst (· = devL T xs), .val t.val, .val va, .lst (· = devL T xs), .val (.bool true), .val (.bool true), .val (.bool true)]
def ag13Fixed (b : Nat) (va : Value) (vx : Value) (vy : Value) (ai : Int) (er : Int) : List (Tmp × Value) := [(1, va), (2, .pointer (some ⟨b, 0, none⟩)), (5, vx), (6, .int .i64 ai), (7, .int .i64 er), (8, vy), (9, .int .i64 ai), (10, .int .i64 er)]
def ag13Ob (w0 : World) (b : Nat) (t : Tv) (T : Tab) (va : Value) (xs : List Int) (vx : Value) (vy : Value) (ai : Int) (er : Int) (Q : Exit → Act → World → Prop) (k : Nat) : Prop := ObR 24 Tryz.prog (opsAt Tryz.f7 3) 56 [] (ag13Fixed b va vx vy ai er) w0 (ag13Specs t T va xs vx vy ai er) [] Q k
section
variable {w0 : World} {b : Nat} {t : Tv} {T : Tab} {va : Value} {xs : List Int} {vx : Value} {vy : Value} {ys : List Int} {ai : Int} {er : Int} {Q : Exit → Act → World → Prop}
theorem ag13_ob0 : ag13Ob w0 b t T va xs vx vy ai er Q 0 := by
  intro o ho a w hb hf hd K hK
  rw [if_pos (wanted_none _ (get_op (·.guard) ho (by kernel_rfl)))]
  exact ob_move (get_op (·.op) ho (by kernel_rfl)) (eval_tmp (hf.2.2 (5, _) (by simp [ag13Fixed]))) (hK _ _ (rk_of rfl rfl) (.inl (Below.refl _ _)))
theorem ag13_ob1 : ag13Ob w0 b t T va xs vx vy ai er Q 1 := by
  intro o ho a w hb hf hd K hK
  rw [if_pos (wanted_none _ (get_op (·.guard) ho (by kernel_rfl)))]
  exact ob_move (get_op (·.op) ho (by kernel_rfl)) (eval_tmp (hf.2.2 (8, _) (by simp [ag13Fixed]))) (hK _ _ (rk_of rfl rfl) (.inl (Below.refl _ _)))
theorem ag13_ob2 (H : ag13Ctx w0 b t T va xs vx vy ys ai er) : ag13Ob w0 b t T va xs vx vy ai er Q 2 := by
  intro o ho a w hb hf hd K hK
  rw [if_pos (wanted_none _ (get_op (·.guard) ho (by kernel_rfl)))]
  obtain ⟨v0, h0, e0⟩ := dep_k (F := 24) ho hd 0 25 (.val vx) (by kernel_rfl) (by kernel_rfl) rfl (by kernel_rfl)
  obtain rfl : v0 = _ := e0
  obtain ⟨v1, h1, e1⟩ := dep_k (F := 24) ho hd 1 26 (.val vy) (by kernel_rfl) (by kernel_rfl) rfl (by kernel_rfl)
  obtain rfl : v1 = _ := e1
  refine ob_enter (enter2 (tys := #[22, 22]) (x := .tmp 25) (y := .tmp 26) (get_op (·.op) ho (by kernel_rfl)) (eval_tmp h0) (eval_tmp h1) (fun args w => enters_of Tryz.func21 (by kernel_rfl) rfl args w)) (same_of _ _ _ _ w (H.x.later hb) (H.y.later hb) rfl) fun e w' ⟨he, h1⟩ => ⟨_, he, ?_⟩
  exact hK _ _ (rk_of rfl rfl) (.inl h1)
theorem ag13_ob3 : ag13Ob w0 b t T va xs vx vy ai er Q 3 := by
  intro o ho a w hb hf hd K hK
  rw [if_pos (wanted_none _ (get_op (·.guard) ho (by kernel_rfl)))]
  obtain ⟨v2, h2, e2⟩ := dep_k (F := 24) ho hd 2 27 (.val (.bool true)) (by kernel_rfl) (by kernel_rfl) rfl (by kernel_rfl)
  obtain rfl : v2 = _ := e2
  exact ob_move (get_op (·.op) ho (by kernel_rfl)) (eval_tmp h2) (hK _ _ (rk_of rfl rfl) (.inl (Below.refl _ _)))
theorem ag13_ob4 : ag13Ob w0 b t T va xs vx vy ai er Q 4 := by
  intro o ho a w hb hf hd K hK
  obtain ⟨v3, h3, e3⟩ := dep_k (F := 24) ho hd 3 28 (.val (.bool true)) (by kernel_rfl) (by kernel_rfl) rfl (by kernel_rfl)
  obtain rfl : v3 = _ := e3
  rw [if_pos (wanted_at (g := 3) (b := true) ho (by kernel_rfl) (by kernel_rfl) h3 rfl)]
  exact ob_move (get_op (·.op) ho (by kernel_rfl)) (eval_tmp (hf.2.2 (6, _) (by simp [ag13Fixed]))) (hK _ _ (rk_of rfl rfl) (.inl (Below.refl _ _)))
theorem ag13_ob5 : ag13Ob w0 b t T va xs vx vy ai er Q 5 := by
  intro o ho a w hb hf hd K hK
  obtain ⟨v3, h3, e3⟩ := dep_k (F := 24) ho hd 3 28 (.val (.bool true)) (by kernel_rfl) (by kernel_rfl) rfl (by kernel_rfl)
  obtain rfl : v3 = _ := e3
  rw [if_pos (wanted_at (g := 3) (b := true) ho (by kernel_rfl) (by kernel_rfl) h3 rfl)]
  exact ob_move (get_op (·.op) ho (by kernel_rfl)) (eval_tmp (hf.2.2 (9, _) (by simp [ag13Fixed]))) (hK _ _ (rk_of rfl rfl) (.inl (Below.refl _ _)))
theorem ag13_ob6 : ag13Ob w0 b t T va xs vx vy ai er Q 6 := by
  intro o ho a w hb hf hd K hK
  obtain ⟨v3, h3, e3⟩ := dep_k (F := 24) ho hd 3 28 (.val (.bool true)) (by kernel_rfl) (by kernel_rfl) rfl (by kernel_rfl)
  obtain rfl : v3 = _ := e3
  rw [if_pos (wanted_at (g := 3) (b := true) ho (by kernel_rfl) (by kernel_rfl) h3 rfl)]
  obtain ⟨v4, h4, e4⟩ := dep_k (F := 24) ho hd 4 29 (.val (.int .i64 ai)) (by kernel_rfl) (by kernel_rfl) rfl (by kernel_rfl)
  obtain rfl : v4 = _ := e4
  obtain ⟨v5, h5, e5⟩ := dep_k (F := 24) ho hd 5 30 (.val (.int .i64 ai)) (by kernel_rfl) (by kernel_rfl) rfl (by kernel_rfl)
  obtain rfl : v5 = _ := e5
  have hr : (execOp a.eval o).run Tryz.prog w = .ok (.value (.bool true)) w := by
    have hop : o.op = .binOp .eql 3 (.tmp 29) (.tmp 30) 3 := get_op (·.op) ho (by kernel_rfl)
    unfold execOp
    rw [hop]
    go_simp
  exact ob_run5 hr (hK _ _ (rk_of rfl rfl) (.inl (Below.refl _ _)))
theorem ag13_ob7 : ag13Ob w0 b t T va xs vx vy ai er Q 7 := by
  intro o ho a w hb hf hd K hK
  rw [if_pos (wanted_none _ (get_op (·.guard) ho (by kernel_rfl)))]
  obtain ⟨v3, h3, e3⟩ := dep_k (F := 24) ho hd 3 28 (.val (.bool true)) (by kernel_rfl) (by kernel_rfl) rfl (by kernel_rfl)
  obtain rfl : v3 = _ := e3
  obtain ⟨v6, h6, e6⟩ := dep_k (F := 24) ho hd 6 31 (.val (.bool true)) (by kernel_rfl) (by kernel_rfl) rfl (by kernel_rfl)
  obtain rfl : v6 = _ := e6
  exact ob_pick (c := .tmp 28) (x := .tmp 31) (y := .const (.bool false)) (b := true) (get_op (·.op) ho (by kernel_rfl)) (eval_tmp h3) (eval_tmp h6) (hK _ _ (rk_of rfl rfl) (.inl (Below.refl _ _)))
theorem ag13_ob8 : ag13Ob w0 b t T va xs vx vy ai er Q 8 := by
  intro o ho a w hb hf hd K hK
  rw [if_pos (wanted_none _ (get_op (·.guard) ho (by kernel_rfl)))]
  obtain ⟨v7, h7, e7⟩ := dep_k (F := 24) ho hd 7 32 (.val (.bool true)) (by kernel_rfl) (by kernel_rfl) rfl (by kernel_rfl)
  obtain rfl : v7 = _ := e7
  exact ob_move (get_op (·.op) ho (by kernel_rfl)) (eval_tmp h7) (hK _ _ (rk_of rfl rfl) (.inl (Below.refl _ _)))
theorem ag13_ob9 : ag13Ob w0 b t T va xs vx vy ai er Q 9 := by
  intro o ho a w hb hf hd K hK
  obtain ⟨v8, h8, e8⟩ := dep_k (F := 24) ho hd 8 33 (.val (.bool true)) (by kernel_rfl) (by kernel_rfl) rfl (by kernel_rfl)
  obtain rfl : v8 = _ := e8
  rw [if_pos (wanted_at (g := 8) (b := true) ho (by kernel_rfl) (by kernel_rfl) h8 rfl)]
  exact ob_move (get_op (·.op) ho (by kernel_rfl)) (eval_tmp (hf.2.2 (7, _) (by simp [ag13Fixed]))) (hK _ _ (rk_of rfl rfl) (.inl (Below.refl _ _)))
theorem ag13_ob10 : ag13Ob w0 b t T va xs vx vy ai er Q 10 := by
  intro o ho a w hb hf hd K hK
  obtain ⟨v8, h8, e8⟩ := dep_k (F := 24) ho hd 8 33 (.val (.bool true)) (by kernel_rfl) (by kernel_rfl) rfl (by kernel_rfl)
  obtain rfl : v8 = _ := e8
  rw [if_pos (wanted_at (g := 8) (b := true) ho (by kernel_rfl) (by kernel_rfl) h8 rfl)]
  exact ob_move (get_op (·.op) ho (by kernel_rfl)) (eval_tmp (hf.2.2 (10, _) (by simp [ag13Fixed]))) (hK _ _ (rk_of rfl rfl) (.inl (Below.refl _ _)))
theorem ag13_ob11 : ag13Ob w0 b t T va xs vx vy ai er Q 11 := by
  intro o ho a w hb hf hd K hK
  obtain ⟨v8, h8, e8⟩ := dep_k (F := 24) ho hd 8 33 (.val (.bool true)) (by kernel_rfl) (by kernel_rfl) rfl (by kernel_rfl)
  obtain rfl : v8 = _ := e8
  rw [if_pos (wanted_at (g := 8) (b := true) ho (by kernel_rfl) (by kernel_rfl) h8 rfl)]
  obtain ⟨v9, h9, e9⟩ := dep_k (F := 24) ho hd 9 34 (.val (.int .i64 er)) (by kernel_rfl) (by kernel_rfl) rfl (by kernel_rfl)
  obtain rfl : v9 = _ := e9
  obtain ⟨v10, h10, e10⟩ := dep_k (F := 24) ho hd 10 35 (.val (.int .i64 er)) (by kernel_rfl) (by kernel_rfl) rfl (by kernel_rfl)
  obtain rfl : v10 = _ := e10
  have hr : (execOp a.eval o).run Tryz.prog w = .ok (.value (.bool true)) w := by
    have hop : o.op = .binOp .eql 50 (.tmp 34) (.tmp 35) 50 := get_op (·.op) ho (by kernel_rfl)
    unfold execOp
    rw [hop]
    go_simp
  exact ob_run5 hr (hK _ _ (rk_of rfl rfl) (.inl (Below.refl _ _)))
theorem ag13_ob12 : ag13Ob w0 b t T va xs vx vy ai er Q 12 := by
  intro o ho a w hb hf hd K hK
  rw [if_pos (wanted_none _ (get_op (·.guard) ho (by kernel_rfl)))]
  obtain ⟨v8, h8, e8⟩ := dep_k (F := 24) ho hd 8 33 (.val (.bool true)) (by kernel_rfl) (by kernel_rfl) rfl (by kernel_rfl)
  obtain rfl : v8 = _ := e8
  obtain ⟨v11, h11, e11⟩ := dep_k (F := 24) ho hd 11 36 (.val (.bool true)) (by kernel_rfl) (by kernel_rfl) rfl (by kernel_rfl)
  obtain rfl : v11 = _ := e11
  exact ob_pick (c := .tmp 33) (x := .tmp 36) (y := .const (.bool false)) (b := true) (get_op (·.op) ho (by kernel_rfl)) (eval_tmp h8) (eval_tmp h11) (hK _ _ (rk_of rfl rfl) (.inl (Below.refl _ _)))
theorem ag13_ob13 : ag13Ob w0 b t T va xs vx vy ai er Q 13 := by
  intro o ho a w hb hf hd K hK
  rw [if_pos (wanted_none _ (get_op (·.guard) ho (by kernel_rfl)))]
  obtain ⟨v12, h12, e12⟩ := dep_k (F := 24) ho hd 12 37 (.val (.bool true)) (by kernel_rfl) (by kernel_rfl) rfl (by kernel_rfl)
  obtain rfl : v12 = _ := e12
  exact ob_move (get_op (·.op) ho (by kernel_rfl)) (eval_tmp h12) (hK _ _ (rk_of rfl rfl) (.inl (Below.refl _ _)))
theorem ag13_ob14 (H : ag13Ctx w0 b t T va xs vx vy ys ai er) : ag13Ob w0 b t T va xs vx vy ai er Q 14 := by
  intro o ho a w hb hf hd K hK
  obtain ⟨v13, h13, e13⟩ := dep_k (F := 24) ho hd 13 38 (.val (.bool true)) (by kernel_rfl) (by kernel_rfl) rfl (by kernel_rfl)
  obtain rfl : v13 = _ := e13
  rw [if_pos (wanted_at (g := 13) (b := true) ho (by kernel_rfl) (by kernel_rfl) h13 rfl)]
  exact ob_value (load_tab (H.tb.later hb) (get_op (·.op) ho (by kernel_rfl)) (eval_tmp (hf.2.2 (2, _) (by simp [ag13Fixed])))) (hK _ _ (rk_of rfl rfl) (.inl (Below.refl _ _)))
theorem ag13_ob15 : ag13Ob w0 b t T va xs vx vy ai er Q 15 := by
  intro o ho a w hb hf hd K hK
  obtain ⟨v13, h13, e13⟩ := dep_k (F := 24) ho hd 13 38 (.val (.bool true)) (by kernel_rfl) (by kernel_rfl) rfl (by kernel_rfl)
  obtain rfl : v13 = _ := e13
  rw [if_pos (wanted_at (g := 13) (b := true) ho (by kernel_rfl) (by kernel_rfl) h13 rfl)]
  exact ob_move (get_op (·.op) ho (by kernel_rfl)) (eval_tmp (hf.2.2 (1, _) (by simp [ag13Fixed]))) (hK _ _ (rk_of rfl rfl) (.inl (Below.refl _ _)))
theorem ag13_ob16 (H : ag13Ctx w0 b t T va xs vx vy ys ai er) : ag13Ob w0 b t T va xs vx vy ai er Q 16 := by
  intro o ho a w hb hf hd K hK
  obtain ⟨v13, h13, e13⟩ := dep_k (F := 24) ho hd 13 38 (.val (.bool true)) (by kernel_rfl) (by kernel_rfl) rfl (by kernel_rfl)
  obtain rfl : v13 = _ := e13
  rw [if_pos (wanted_at (g := 13) (b := true) ho (by kernel_rfl) (by kernel_rfl) h13 rfl)]
  obtain ⟨v14, h14, e14⟩ := dep_k (F := 24) ho hd 14 39 (.val t.val) (by kernel_rfl) (by kernel_rfl) rfl (by kernel_rfl)
  obtain rfl : v14 = _ := e14
  obtain ⟨v15, h15, e15⟩ := dep_k (F := 24) ho hd 15 40 (.val va) (by kernel_rfl) (by kernel_rfl) rfl (by kernel_rfl)
  obtain rfl : v15 = _ := e15
  refine ob_enter (enter2 (tys := #[26, 22]) (x := .tmp 39) (y := .tmp 40) (get_op (·.op) ho (by kernel_rfl)) (eval_tmp h14) (eval_tmp h15) (fun args w => enters_of Tryz.func23 (by kernel_rfl) rfl args w)) (stable_any t T _ xs w (H.tb.later hb).2 (H.g.later hb) (H.v.later hb)) fun e w' ⟨he, h1⟩ => ⟨_, he, ?_⟩
  exact hK _ _ (rk_of rfl rfl) (.inl h1)
theorem ag13_ob17 (H : ag13Ctx w0 b t T va xs vx vy ys ai er) : ag13Ob w0 b t T va xs vx vy ai er Q 17 := by
  intro o ho a w hb hf hd K hK
  obtain ⟨v13, h13, e13⟩ := dep_k (F := 24) ho hd 13 38 (.val (.bool true)) (by kernel_rfl) (by kernel_rfl) rfl (by kernel_rfl)
  obtain rfl : v13 = _ := e13
  rw [if_pos (wanted_at (g := 13) (b := true) ho (by kernel_rfl) (by kernel_rfl) h13 rfl)]
  exact ob_value (load_tab (H.tb.later hb) (get_op (·.op) ho (by kernel_rfl)) (eval_tmp (hf.2.2 (2, _) (by simp [ag13Fixed])))) (hK _ _ (rk_of rfl rfl) (.inl (Below.refl _ _)))
theorem ag13_ob18 : ag13Ob w0 b t T va xs vx vy ai er Q 18 := by
  intro o ho a w hb hf hd K hK
  obtain ⟨v13, h13, e13⟩ := dep_k (F := 24) ho hd 13 38 (.val (.bool true)) (by kernel_rfl) (by kernel_rfl) rfl (by kernel_rfl)
  obtain rfl : v13 = _ := e13
  rw [if_pos (wanted_at (g := 13) (b := true) ho (by kernel_rfl) (by kernel_rfl) h13 rfl)]
  exact ob_move (get_op (·.op) ho (by kernel_rfl)) (eval_tmp (hf.2.2 (1, _) (by simp [ag13Fixed]))) (hK _ _ (rk_of rfl rfl) (.inl (Below.refl _ _)))
theorem ag13_ob19 (H : ag13Ctx w0 b t T va xs vx vy ys ai er) : ag13Ob w0 b t T va xs vx vy ai er Q 19 := by
  intro o ho a w hb hf hd K hK
  obtain ⟨v13, h13, e13⟩ := dep_k (F := 24) ho hd 13 38 (.val (.bool true)) (by kernel_rfl) (by kernel_rfl) rfl (by kernel_rfl)
  obtain rfl : v13 = _ := e13
  rw [if_pos (wanted_at (g := 13) (b := true) ho (by kernel_rfl) (by kernel_rfl) h13 rfl)]
  obtain ⟨v17, h17, e17⟩ := dep_k (F := 24) ho hd 17 42 (.val t.val) (by kernel_rfl) (by kernel_rfl) rfl (by kernel_rfl)
  obtain rfl : v17 = _ := e17
  obtain ⟨v18, h18, e18⟩ := dep_k (F := 24) ho hd 18 43 (.val va) (by kernel_rfl) (by kernel_rfl) rfl (by kernel_rfl)
  obtain rfl : v18 = _ := e18
  refine ob_enter (enter2 (tys := #[26, 22]) (x := .tmp 42) (y := .tmp 43) (get_op (·.op) ho (by kernel_rfl)) (eval_tmp h17) (eval_tmp h18) (fun args w => enters_of Tryz.func24 (by kernel_rfl) rfl args w)) (refStable_any t T _ xs w (H.tb.later hb).2 (H.v.later hb)) fun e w' ⟨he, h1⟩ => ⟨_, he, ?_⟩
  exact hK _ _ (rk_of rfl rfl) (.inl h1)
theorem ag13_ob20 : ag13Ob w0 b t T va xs vx vy ai er Q 20 := by
  intro o ho a w hb hf hd K hK
  obtain ⟨v13, h13, e13⟩ := dep_k (F := 24) ho hd 13 38 (.val (.bool true)) (by kernel_rfl) (by kernel_rfl) rfl (by kernel_rfl)
  obtain rfl : v13 = _ := e13
  rw [if_pos (wanted_at (g := 13) (b := true) ho (by kernel_rfl) (by kernel_rfl) h13 rfl)]
  obtain ⟨v16, h16, e16⟩ := dep_k (F := 24) ho hd 16 41 (.val (.bool (stableB T xs))) (by kernel_rfl) (by kernel_rfl) rfl (by kernel_rfl)
  obtain rfl : v16 = _ := e16
  obtain ⟨v19, h19, e19⟩ := dep_k (F := 24) ho hd 19 44 (.val (.bool (stableB T xs))) (by kernel_rfl) (by kernel_rfl) rfl (by kernel_rfl)
  obtain rfl : v19 = _ := e19
  have hr : (execOp a.eval o).run Tryz.prog w = .ok (.value (.bool true)) w := by
    have hop : o.op = .binOp .eql 4 (.tmp 41) (.tmp 44) 4 := get_op (·.op) ho (by kernel_rfl)
    unfold execOp
    rw [hop]
    go_simp
  exact ob_run5 hr (hK _ _ (rk_of rfl rfl) (.inl (Below.refl _ _)))
theorem ag13_ob21 : ag13Ob w0 b t T va xs vx vy ai er Q 21 := by
  intro o ho a w hb hf hd K hK
  rw [if_pos (wanted_none _ (get_op (·.guard) ho (by kernel_rfl)))]
  obtain ⟨v13, h13, e13⟩ := dep_k (F := 24) ho hd 13 38 (.val (.bool true)) (by kernel_rfl) (by kernel_rfl) rfl (by kernel_rfl)
  obtain rfl : v13 = _ := e13
  obtain ⟨v20, h20, e20⟩ := dep_k (F := 24) ho hd 20 45 (.val (.bool true)) (by kernel_rfl) (by kernel_rfl) rfl (by kernel_rfl)
  obtain rfl : v20 = _ := e20
  exact ob_pick (c := .tmp 38) (x := .tmp 45) (y := .const (.bool false)) (b := true) (get_op (·.op) ho (by kernel_rfl)) (eval_tmp h13) (eval_tmp h20) (hK _ _ (rk_of rfl rfl) (.inl (Below.refl _ _)))
theorem ag13_ob22 : ag13Ob w0 b t T va xs vx vy ai er Q 22 := by
  intro o ho a w hb hf hd K hK
  rw [if_pos (wanted_none _ (get_op (·.guard) ho (by kernel_rfl)))]
  obtain ⟨v21, h21, e21⟩ := dep_k (F := 24) ho hd 21 46 (.val (.bool true)) (by kernel_rfl) (by kernel_rfl) rfl (by kernel_rfl)
  obtain rfl : v21 = _ := e21
  exact ob_move (get_op (·.op) ho (by kernel_rfl)) (eval_tmp h21) (hK _ _ (rk_of rfl rfl) (.inl (Below.refl _ _)))
theorem ag13_ob23 (H : ag13Ctx w0 b t T va xs vx vy ys ai er) : ag13Ob w0 b t T va xs vx vy ai er Q 23 := by
  intro o ho a w hb hf hd K hK
  obtain ⟨v22, h22, e22⟩ := dep_k (F := 24) ho hd 22 47 (.val (.bool true)) (by kernel_rfl) (by kernel_rfl) rfl (by kernel_rfl)
  obtain rfl : v22 = _ := e22
  rw [if_pos (wanted_at (g := 22) (b := true) ho (by kernel_rfl) (by kernel_rfl) h22 rfl)]
  exact ob_value (load_tab (H.tb.later hb) (get_op (·.op) ho (by kernel_rfl)) (eval_tmp (hf.2.2 (2, _) (by simp [ag13Fixed])))) (hK _ _ (rk_of rfl rfl) (.inl (Below.refl _ _)))
theorem ag13_ob24 : ag13Ob w0 b t T va xs vx vy ai er Q 24 := by
  intro o ho a w hb hf hd K hK
  obtain ⟨v22, h22, e22⟩ := dep_k (F := 24) ho hd 22 47 (.val (.bool true)) (by kernel_rfl) (by kernel_rfl) rfl (by kernel_rfl)
  obtain rfl : v22 = _ := e22
  rw [if_pos (wanted_at (g := 22) (b := true) ho (by kernel_rfl) (by kernel_rfl) h22 rfl)]
  exact ob_move (get_op (·.op) ho (by kernel_rfl)) (eval_tmp (hf.2.2 (1, _) (by simp [ag13Fixed]))) (hK _ _ (rk_of rfl rfl) (.inl (Below.refl _ _)))
theorem ag13_ob25 (H : ag13Ctx w0 b t T va xs vx vy ys ai er) : ag13Ob w0 b t T va xs vx vy ai er Q 25 := by
  intro o ho a w hb hf hd K hK
  obtain ⟨v22, h22, e22⟩ := dep_k (F := 24) ho hd 22 47 (.val (.bool true)) (by kernel_rfl) (by kernel_rfl) rfl (by kernel_rfl)
  obtain rfl : v22 = _ := e22
  rw [if_pos (wanted_at (g := 22) (b := true) ho (by kernel_rfl) (by kernel_rfl) h22 rfl)]
  obtain ⟨v23, h23, e23⟩ := dep_k (F := 24) ho hd 23 48 (.val t.val) (by kernel_rfl) (by kernel_rfl) rfl (by kernel_rfl)
  obtain rfl : v23 = _ := e23
  obtain ⟨v24, h24, e24⟩ := dep_k (F := 24) ho hd 24 49 (.val va) (by kernel_rfl) (by kernel_rfl) rfl (by kernel_rfl)
  obtain rfl : v24 = _ := e24
  refine ob_enter (enter2 (tys := #[26, 22]) (x := .tmp 48) (y := .tmp 49) (get_op (·.op) ho (by kernel_rfl)) (eval_tmp h23) (eval_tmp h24) (fun args w => enters_of Tryz.func25 (by kernel_rfl) rfl args w)) (deviations_any t T _ xs w (H.tb.later hb).2 (H.g.later hb) (H.v.later hb)) fun e w' ⟨v, he, h2, h1⟩ => ⟨v, he, ?_⟩
  exact hK _ _ (rk_of rfl ⟨_, Ints.of_own h2, rfl⟩) (.inl h1)
theorem ag13_ob26 (H : ag13Ctx w0 b t T va xs vx vy ys ai er) : ag13Ob w0 b t T va xs vx vy ai er Q 26 := by
  intro o ho a w hb hf hd K hK
  obtain ⟨v22, h22, e22⟩ := dep_k (F := 24) ho hd 22 47 (.val (.bool true)) (by kernel_rfl) (by kernel_rfl) rfl (by kernel_rfl)
  obtain rfl : v22 = _ := e22
  rw [if_pos (wanted_at (g := 22) (b := true) ho (by kernel_rfl) (by kernel_rfl) h22 rfl)]
  exact ob_value (load_tab (H.tb.later hb) (get_op (·.op) ho (by kernel_rfl)) (eval_tmp (hf.2.2 (2, _) (by simp [ag13Fixed])))) (hK _ _ (rk_of rfl rfl) (.inl (Below.refl _ _)))
theorem ag13_ob27 : ag13Ob w0 b t T va xs vx vy ai er Q 27 := by
  intro o ho a w hb hf hd K hK
  obtain ⟨v22, h22, e22⟩ := dep_k (F := 24) ho hd 22 47 (.val (.bool true)) (by kernel_rfl) (by kernel_rfl) rfl (by kernel_rfl)
  obtain rfl : v22 = _ := e22
  rw [if_pos (wanted_at (g := 22) (b := true) ho (by kernel_rfl) (by kernel_rfl) h22 rfl)]
  exact ob_move (get_op (·.op) ho (by kernel_rfl)) (eval_tmp (hf.2.2 (1, _) (by simp [ag13Fixed]))) (hK _ _ (rk_of rfl rfl) (.inl (Below.refl _ _)))
theorem ag13_ob28 (H : ag13Ctx w0 b t T va xs vx vy ys ai er) : ag13Ob w0 b t T va xs vx vy ai er Q 28 := by
  intro o ho a w hb hf hd K hK
  obtain ⟨v22, h22, e22⟩ := dep_k (F := 24) ho hd 22 47 (.val (.bool true)) (by kernel_rfl) (by kernel_rfl) rfl (by kernel_rfl)
  obtain rfl : v22 = _ := e22
  rw [if_pos (wanted_at (g := 22) (b := true) ho (by kernel_rfl) (by kernel_rfl) h22 rfl)]
  obtain ⟨v26, h26, e26⟩ := dep_k (F := 24) ho hd 26 51 (.val t.val) (by kernel_rfl) (by kernel_rfl) rfl (by kernel_rfl)
  obtain rfl : v26 = _ := e26
  obtain ⟨v27, h27, e27⟩ := dep_k (F := 24) ho hd 27 52 (.val va) (by kernel_rfl) (by kernel_rfl) rfl (by kernel_rfl)
  obtain rfl : v27 = _ := e27
  refine ob_enter (enter2 (tys := #[26, 22]) (x := .tmp 51) (y := .tmp 52) (get_op (·.op) ho (by kernel_rfl)) (eval_tmp h26) (eval_tmp h27) (fun args w => enters_of Tryz.func26 (by kernel_rfl) rfl args w)) (refDeviations_any t T _ xs w (H.tb.later hb).2 (H.v.later hb)) fun e w' ⟨v, he, h2, h1⟩ => ⟨v, he, ?_⟩
  exact hK _ _ (rk_of rfl ⟨_, Ints.of_own h2, rfl⟩) (.inl h1)
theorem ag13_ob29 : ag13Ob w0 b t T va xs vx vy ai er Q 29 := by
  intro o ho a w hb hf hd K hK
  obtain ⟨v22, h22, e22⟩ := dep_k (F := 24) ho hd 22 47 (.val (.bool true)) (by kernel_rfl) (by kernel_rfl) rfl (by kernel_rfl)
  obtain rfl : v22 = _ := e22
  rw [if_pos (wanted_at (g := 22) (b := true) ho (by kernel_rfl) (by kernel_rfl) h22 rfl)]
  obtain ⟨v25, h25, e25⟩ := dep_k (F := 24) ho hd 25 50 (.lst (· = devL T xs)) (by kernel_rfl) (by kernel_rfl) rfl (by kernel_rfl)
  obtain ⟨v28, h28, e28⟩ := dep_k (F := 24) ho hd 28 53 (.lst (· = devL T xs)) (by kernel_rfl) (by kernel_rfl) rfl (by kernel_rfl)
  obtain ⟨ys25, hi25, hp25⟩ := e25
  obtain ⟨ys28, hi28, hp28⟩ := e28
  refine ob_enter (enter2 (tys := #[22, 22]) (x := .tmp 50) (y := .tmp 53) (get_op (·.op) ho (by kernel_rfl)) (eval_tmp h25) (eval_tmp h28) (fun args w => enters_of Tryz.func21 (by kernel_rfl) rfl args w)) (same_of _ _ _ _ w hi25 hi28 (hp25.trans hp28.symm)) fun e w' ⟨he, h1⟩ => ⟨_, he, ?_⟩
  exact hK _ _ (rk_of rfl rfl) (.inl h1)
theorem ag13_ob30 : ag13Ob w0 b t T va xs vx vy ai er Q 30 := by
  intro o ho a w hb hf hd K hK
  rw [if_pos (wanted_none _ (get_op (·.guard) ho (by kernel_rfl)))]
  obtain ⟨v22, h22, e22⟩ := dep_k (F := 24) ho hd 22 47 (.val (.bool true)) (by kernel_rfl) (by kernel_rfl) rfl (by kernel_rfl)
  obtain rfl : v22 = _ := e22
  obtain ⟨v29, h29, e29⟩ := dep_k (F := 24) ho hd 29 54 (.val (.bool true)) (by kernel_rfl) (by kernel_rfl) rfl (by kernel_rfl)
  obtain rfl : v29 = _ := e29
  exact ob_pick (c := .tmp 47) (x := .tmp 54) (y := .const (.bool false)) (b := true) (get_op (·.op) ho (by kernel_rfl)) (eval_tmp h22) (eval_tmp h29) (hK _ _ (rk_of rfl rfl) (.inl (Below.refl _ _)))
theorem ag13_ob31 : ag13Ob w0 b t T va xs vx vy ai er Q 31 := by
  intro o ho a w hb hf hd K hK
  rw [if_pos (wanted_none _ (get_op (·.guard) ho (by kernel_rfl)))]
  obtain ⟨v30, h30, e30⟩ := dep_k (F := 24) ho hd 30 55 (.val (.bool true)) (by kernel_rfl) (by kernel_rfl) rfl (by kernel_rfl)
  obtain rfl : v30 = _ := e30
  exact ob_assign (get_op (·.op) ho (by kernel_rfl)) (eval_tmp h30) (hK _ _ (rk_of rfl rfl) (.inl (Below.refl _ _)))
theorem ag13_obs (H : ag13Ctx w0 b t T va xs vx vy ys ai er) (k : Nat) (hk : k < 32) : ag13Ob w0 b t T va xs vx vy ai er Q k := by
  match k, hk with
  | 0, _ => exact ag13_ob0
  | 1, _ => exact ag13_ob1
  | 2, _ => exact ag13_ob2 H
  | 3, _ => exact ag13_ob3
  | 4, _ => exact ag13_ob4
  | 5, _ => exact ag13_ob5
  | 6, _ => exact ag13_ob6
  | 7, _ => exact ag13_ob7
  | 8, _ => exact ag13_ob8
  | 9, _ => exact ag13_ob9
  | 10, _ => exact ag13_ob10
  | 11, _ => exact ag13_ob11
  | 12, _ => exact ag13_ob12
  | 13, _ => exact ag13_ob13
  | 14, _ => exact ag13_ob14 H
  | 15, _ => exact ag13_ob15
  | 16, _ => exact ag13_ob16 H
  | 17, _ => exact ag13_ob17 H
  | 18, _ => exact ag13_ob18
  | 19, _ => exact ag13_ob19 H
  | 20, _ => exact ag13_ob20
  | 21, _ => exact ag13_ob21
  | 22, _ => exact ag13_ob22
  | 23, _ => exact ag13_ob23 H
  | 24, _ => exact ag13_ob24
  | 25, _ => exact ag13_ob25 H
  | 26, _ => exact ag13_ob26 H
  | 27, _ => exact ag13_ob27
  | 28, _ => exact ag13_ob28 H
  | 29, _ => exact ag13_ob29
  | 30, _ => exact ag13_ob30
  | 31, _ => exact ag13_ob31
  | m + 32, h => exact absurd h (by omega)
theorem ag13_region {a : Act} (H : ag13Ctx w0 b t T va xs vx vy ys ai er) (hf : FS 56 [] (ag13Fixed b va vx vy ai er) a)
    (hend : ∀ a w, Below w0.heap.size w0 w → FS 56 [] (ag13Fixed b va vx vy ai er) a → (∀ (i : Nat) (o : Oper) (d : Tmp), (opsAt Tryz.f7 3)[i]? = some o → (∀ j, killK (ag13Specs t T va xs vx vy ai er) [] i j = false) → o.dst = some d → ∃ v, a.tmps[d]? = some v ∧ RK w0.heap.size (ag13Specs t T va xs vx vy ai er) i v w) → Q .normal a w) : (Code.region 3 (opsAt Tryz.f7 3) true).wp Tryz.prog Q a w0 := by
  refine wp_region_k 24 (n := 56) (ds := []) (fixed := ag13Fixed b va vx vy ai er) (specs := ag13Specs t T va xs vx vy ai er) (apps := []) (by kernel_rfl) (by kernel_rfl) (by kernel_rfl) (by kernel_rfl) hf (fun i hi => ag13_obs H i ?_) hend
  have hn : (opsAt Tryz.f7 3).size = 32 := by kernel_rfl
  omega
end

set_option maxRecDepth 100000 in
set_option maxHeartbeats 2000000 in
theorem agrees13_any (t : Tv) (T : Tab) (v : Value) (xs : List Int) (w : World) (ht : TabR w w.heap.size t T) (hg : Glob w) (hv : Ints w w.heap.size .i64 v xs) :
    Calls Tryz.prog 7 #[t.val, v] w fun e w' => e = .returned (.bool true) ∧ Below w.heap.size w w' := by
  obtain ⟨A, c, rfl, _⟩ := id hv
  have HB0 : Hid (Below w.heap.size w (w.alloc (.cells t.cells 26))) := Lib.hid ((Below.refl _ _).alloc (Nat.le_refl _) _)
  have HT : Hid (Tbl (w.alloc (.cells t.cells 26)) w.heap.size t T) := Lib.hid ⟨Blk.new _ _ _, ht.later HB0.out⟩
  have HV := Lib.hid (hv.later HB0.out)
  have HG := Lib.hid (hg.later HB0.out)
  clear ht hv hg
  go_enter Tryz.func7, Tryz.ntmps7
  go_upto_region 1 with fail
  generalize w.alloc (.cells t.cells 26) = w1 at *
  obtain ⟨tb, htb⟩ : ∃ tb, w.heap.size = tb := ⟨_, rfl⟩
  rw [htb] at HT
  simp only [htb]
  have H1 := Lib.hid (fun W (h : Below w1.heap.size w1 W) => map_any t T _ xs W (HT.out.later h).2 (HG.out.later h) (HV.out.later h))
  have H2 := Lib.hid (fun W (h : Below w1.heap.size w1 W) => refMap_any t T _ xs W (HT.out.later h).2 (HV.out.later h))
  obtain ⟨ys, ai, er, hr⟩ : ∃ ys ai er, mapR T xs = (ys, ai, er) := ⟨_, _, _, rfl⟩
  rw [hr] at H1 H2
  clear hr
  obtain ⟨x0, x1, x2, x3, x4, x5, x6, x7, x8, x9, x10, x11⟩ := HT.out.1.tab
  go_upto_region 2 with (go_at_call 20; refine (H1.out _ (Below.refl _ _)).mono ?_; rintro e w2 ⟨u2, rfl, ho2, b2⟩; obtain ⟨A2, c2, rfl, _⟩ := id (Ints.of_own ho2); have HU2 := Lib.hid (Ints.of_own ho2); have B2 := Lib.hid b2; clear ho2 b2)
  clear x0 x1 x2 x3 x4 x5 x6 x7 x8 x9 x10 x11
  obtain ⟨x0, x1, x2, x3, x4, x5, x6, x7, x8, x9, x10, x11⟩ := (HT.out.later B2.out).1.tab
  go_upto_region 3 with (go_at_call 22; refine (H2.out _ B2.out).mono ?_; rintro e w3 ⟨u3, rfl, ho3, b3⟩; obtain ⟨A3, c3, rfl, _⟩ := id (Ints.of_own ho3); have HU3 := Lib.hid (Ints.of_own ho3); have HU2' := Lib.hid (HU2.out.later b3); have B3 := Lib.hid (below_next B2.out b3); clear ho3 b3)
  clear x0 x1 x2 x3 x4 x5 x6 x7 x8 x9 x10 x11
  refine wp_region_as (ops := (opsAt Tryz.f7 3)) (by kernel_rfl) ?_
  refine ag13_region (b := tb) (t := t) (T := T) (va := .slice A xs.length c) (xs := xs) (vx := .slice A2 ys.length c2) (vy := .slice A3 ys.length c3) (ys := ys) (ai := ai) (er := er) ⟨HT.out.later B3.out, HG.out.later B3.out, HV.out.later B3.out, HU2'.out, HU3.out⟩ ⟨rfl, rfl, by intro p hp; simp [ag13Fixed] at hp; rcases hp with rfl | rfl | rfl | rfl | rfl | rfl | rfl | rfl <;> rfl⟩ ?_
  intro a w9 hc hf hr
  obtain ⟨v9, hv9, e9⟩ := end_k hr 31 4 (.val (.bool true)) (by kernel_rfl) rfl (by kernel_rfl)
  obtain rfl : v9 = .bool true := e9
  rename_i K hK
  refine hK a w9 ?_
  go_wp2
  exact bodyPost_ret (v := .bool true) (by simp [results, Tryz.results7, hv9]) hf.2.1 ⟨rfl, below_next HB0.out (below_next B3.out hc)⟩
end Go.Proofs.YtneinkpfhkojgaaGreatDoor
/-
  The walk through awake of the laws of layer 13: the example of its chapter.
-/
namespace Go.Proofs.YtneinkpfhkojgaaGreatDoor
open Go.RowKit ND

def mtTab : Tab := ⟨[], [], [], [], [], [], [], [], [], [], [], []⟩
def mtTv : Tv := ⟨.slice none 0 0, .slice none 0 0, .slice none 0 0, .slice none 0 0, .slice none 0 0, .slice none 0 0, .slice none 0 0, .slice none 0 0, .slice none 0 0, .slice none 0 0, .slice none 0 0, .slice none 0 0⟩
theorem mtTabR (w : World) (B : Nat) : TabR w B mtTv mtTab :=
  ⟨Spans.none_, Spans.none_, Spans.none_, Spans.none_, Spans.none_, Spans.none_, Spans.none_, Mapps.none_, Mapps.none_, Mapps.none_, Ints.none_, Mapps.none_⟩
theorem mt_map1 : mapR mtTab [65, 45, 98] = ([97, 45, 98], 0, 0) := by decide +kernel
theorem mt_map2 : mapR mtTab [97, 32, 98] = ([], 1, 16) := by decide +kernel

set_option maxRecDepth 100000 in
set_option maxHeartbeats 2000000 in
theorem awake13 (w : World) (hg : Glob w) : Calls Tryz.prog 6 #[] w fun e w' => e = .returned (.bool true) ∧ Below w.heap.size w w' := by
  have HG := Lib.hid (fun W (h : Below w.heap.size w W) => hg.later h)
  clear hg
  have H1 := Lib.hid (fun v W h h3 => map_any mtTv mtTab v [65, 45, 98] W (mtTabR W _) h h3)
  have H2 := Lib.hid (fun v W h h3 => map_any mtTv mtTab v [97, 32, 98] W (mtTabR W _) h h3)
  rw [mt_map1] at H1
  rw [mt_map2] at H2
  go_enter Tryz.func6, Tryz.ntmps6
  have b0 := (Below.refl w.heap.size w).alloc (Nat.le_refl _) (.cells #[.int .i64 65, .int .i64 45, .int .i64 98] 3)
  have HL0 := Lib.hid (lit_k w [65, 45, 98] (by simp))
  have HG0 := Lib.hid (HG.out _ b0)
  have B0 := Lib.hid b0
  clear b0
  go_upto_region 2 with (go_at_call 20; refine (H1.out _ _ HG0.out HL0.out).mono ?_; rintro e w1 ⟨u1, rfl, ho1, b1⟩; obtain ⟨A1, c1, rfl, _⟩ := id (Ints.of_own ho1); have HU1 := Lib.hid (Ints.of_own ho1); have B1 := Lib.hid (below_next B0.out b1); clear ho1 b1)
  have b2 := (Below.refl w1.heap.size w1).alloc (Nat.le_refl _) (.cells #[.int .i64 97, .int .i64 32, .int .i64 98] 3)
  have HL2 := Lib.hid (lit_k w1 [97, 32, 98] (by simp))
  have HG2 := Lib.hid (HG.out _ (below_next B1.out b2))
  have B2 := Lib.hid b2
  clear b2
  go_upto_region 3 with (go_at_call 20; refine (H2.out _ _ HG2.out HL2.out).mono ?_; rintro e w3 ⟨u3, rfl, _, b3⟩; have B3 := Lib.hid (below_next B2.out b3); clear b3)
  have HU3 := Lib.hid (HU1.out.later B3.out)
  have B13 := Lib.hid (below_next B1.out B3.out)
  go_wp2_with (go_at_call 21; have bl := (Below.refl w3.heap.size w3).alloc (Nat.le_refl _) (.cells #[.int .i64 97, .int .i64 45, .int .i64 98] 3); have h := same_any _ _ [97, 45, 98] [97, 45, 98] _ (HU3.out.later bl) (lit_k w3 [97, 45, 98] (by simp)); rw [decide_eq_true rfl] at h; refine h.mono ?_; rintro e w4 ⟨rfl, b4⟩; have B4 := Lib.hid (below_next (below_next B13.out bl) b4); clear bl h b4)
  go_ret
  exact ⟨rfl, B4.out⟩
end Go.Proofs.YtneinkpfhkojgaaGreatDoor
/-
  The walk through keep.Points.
-/
namespace Go.Proofs.YtneinkpfhkojgaaGreatDoor
open Go.RowKit ND

theorem all_snoc {f : Int → Bool} {acc : List Int} {y : Int} (h : ∀ x ∈ acc, f x = true) (h0 : f y = true) : ∀ x ∈ acc ++ [y], f x = true := by
  intro x hx
  rcases List.mem_append.1 hx with h2 | h2
  · exact h x h2
  · rw [List.mem_singleton] at h2; subst h2; exact h0

/-- At most ten scalar values come back. -/
def RetPoints (w : World) (e : Ending) (w' : World) : Prop :=
  ∃ v ys, e = .returned v ∧ Ints w' w'.heap.size .i64 v ys ∧ ys.length ≤ 10 ∧ (∀ c ∈ ys, scalarB c = true) ∧ Below w.heap.size w w'

/-- At most ten scalar values come back, in a row of the call's own. -/
def RetPointsO (w : World) (e : Ending) (w' : World) : Prop :=
  ∃ (v : Value) (ys : List Int), e = .returned v ∧ w'.ownsRow (w.heap.size + 1) 3 1 v ys.length (ys.map (Value.int .i64)) ∧ ys.length ≤ 10 ∧ (∀ c ∈ ys, scalarB c = true) ∧ Below w.heap.size w w' ∧ w.heap.size + 1 ≤ w'.heap.size

set_option maxRecDepth 100000 in
set_option maxHeartbeats 1000000 in
theorem pointsO_any (w : World) (v : Value) (xs : List Int) (hv : Ints w w.heap.size .i64 v xs) : Calls Tryz.prog 8 #[v] w (RetPointsO w) := by
  obtain ⟨i0, hi, hz0, hz1, hz2⟩ := info_parts Tryz.infoInt'
  obtain ⟨A, c, rfl⟩ : ∃ A c, v = .slice A xs.length c := by obtain ⟨A, c, h, _⟩ := hv; exact ⟨A, c, h⟩
  go_enter Tryz.func8, Tryz.ntmps8
  go_wp2_with fail
  refine (from_any A xs.length c w).mono ?_
  rintro e w1 ⟨rfl, rfl⟩
  have hs1 : Src (w.alloc (.cells #[.slice A xs.length c, .int .i64 0] 58)) w.heap.size (.slice A xs.length c) xs.length := ⟨0, Nat.zero_le _, Blk.new w _ _⟩
  have hbel1 : Below w.heap.size w (w.alloc (.cells #[.slice A xs.length c, .int .i64 0] 58)) := (Below.refl _ _).alloc (Nat.le_refl _) _
  have hsz1 : w.heap.size + 1 ≤ (w.alloc (.cells #[.slice A xs.length c, .int .i64 0] 58)).heap.size := by simp
  generalize w.alloc (.cells #[.slice A xs.length c, .int .i64 0] 58) = w1 at *
  have hv1 := hv.below hbel1
  go_wp2_with fail
  refine (next_src w1 w.heap.size _ xs 11 hv1 hs1 (by decide) (by decide)).mono ?_
  rintro e w2 ⟨r, rfl, hr0, hr1, hs2, hg2⟩
  have hbel2 := below_of_grown hbel1 hg2 (Nat.le_refl _) (by omega)
  have hsz2 := Nat.le_trans hsz1 hg2.size
  obtain ⟨m0, rfl⟩ := Int.eq_ofNat_of_zero_le hr0
  have hm0 : m0 ≤ 10 := by omega
  have HS2 := Lib.hid hs2
  have HV := Lib.hid hv
  clear hs2 hs1 hbel1 hsz1 hv1 hg2 hr0 hr1 hv
  go_wp2_with fail
  go_loopw [4, 5] (fun l n wr => ∃ (m : Nat) (acc : List Int), n = .int .i64 m ∧ acc.length + m ≤ 10 ∧ wr.ownsRow (w.heap.size + 1) 3 1 l acc.length (acc.map (Value.int .i64)) ∧ Hid (∀ x ∈ acc, scalarB x = true) ∧ Hid (Src wr w.heap.size (.slice A xs.length c) xs.length) ∧ Below w.heap.size w wr ∧ w.heap.size + 1 ≤ wr.heap.size) (fun _ n _ => (intOf n).toNat)
  case atStart => exact ⟨m0, [], rfl, by simpa using hm0, World.ownsRow_nil _ _ _ _, Lib.hid (by simp), HS2, hbel2, hsz2⟩
  case round =>
    obtain ⟨m, acc, rfl, hm, hown, HF, HS, hbel, hsz⟩ := hrel
    by_cases hlt : 0 < m
    · have hv' := HV.out.below hbel
      go_wp2_with fail
      refine (point_src wr w.heap.size _ xs hv' HS.out).mono ?_
      rintro e w3 ⟨x, rfl, hx, hs3, hg3⟩
      have hbel3 := below_of_grown hbel hg3 (Nat.le_refl _) (by omega)
      have hsz3 := Nat.le_trans hsz hg3.size
      have hown3 := own_grown hown hg3 (by omega)
      have HF' := Lib.hid (all_snoc HF.out hx)
      clear hv' hown hbel hsz hg3 HS HF hx
      have HS3 := Lib.hid hs3; clear hs3
      go_wp2_with (at_builtin; refine wpList_append_own _ rfl _ _ 22 rfl (w.heap.size + 1) 3 i0 (.int .i64 0) 1 8 Tryz.underlying22 hi hz0 hz1 hz2 rfl (by decide) _ _ _ rfl (hown3.alloc _) ⟨w3.heap.size, 0, none⟩ 1 1 [.int .i64 x] rfl rfl (cell_one_new _ _ _) ?c1 ?c2 ?c3 ?c4 ?_)
      case c1 => intro u hu; simp at hu; subst hu; rfl
      case c2 => unfold maxLen; omega
      case c3 => omega
      case c4 => simp; omega
      intro v' w4 hown4 hgrow _
      have hbel4 : Below w.heap.size w w4 := (hbel3.alloc hbel3.size _).grown hgrow (by have := hbel3.size; simp; omega) (fun k hk => by have := (hown3.lt k hk).1; omega)
      have hsz4 : w.heap.size + 1 ≤ w4.heap.size := by have := hgrow.size; simp at this; omega
      have HS4 := Lib.hid ((HS3.out.alloc _).grown hgrow (fun hk => by have := (hown3.lt _ hk.symm).1; omega))
      clear hgrow hown3 hbel3 hsz3 HS3
      go_wp2_with fail
      go_roundw
      case rel => exact ⟨m - 1, acc ++ [x], by go_num, by simp; omega, by simpa using hown4, HF', HS4, hbel4, hsz4⟩
      case measure => simp [intOf]; omega
    · go_wp2_with fail
      go_ret
      exact ⟨_, acc, rfl, hown, by omega, HF.out, hbel, hsz⟩

theorem points_any (w : World) (v : Value) (xs : List Int) (hv : Ints w w.heap.size .i64 v xs) : Calls Tryz.prog 8 #[v] w (RetPoints w) :=
  (pointsO_any w v xs hv).mono fun _ _ ⟨v, ys, h1, h2, h3, h4, h5, _⟩ => ⟨v, ys, h1, Ints.of_own h2, h3, h4, h5⟩
end Go.Proofs.YtneinkpfhkojgaaGreatDoor
/-
  The walks through keep.word and keep.Word.
-/
namespace Go.Proofs.YtneinkpfhkojgaaGreatDoor
open Go.RowKit ND

def wlitL : List Int := [769, 803, 945, 946, 1072, 1488, 1576, 1632, 7680, 7681, 7682, 19968, 44032, 8204, 2381]
def wordL : List Int := [97, 98, 109, 110, 111, 114, 48, 120, 121] ++ wlitL
def wordB (c : Int) : Bool := wordL.contains c
theorem wlit_mem : ∀ c ∈ wlitL, wordB c = true := by decide
theorem word_scal : ∀ c ∈ wordL, scalarB c = true := by decide
theorem words_scal {ys : List Int} (h : ∀ c ∈ ys, wordB c = true) : ys.all scalarB = true := by
  rw [List.all_eq_true]
  exact fun c hc => word_scal c (by have := h c hc; unfold wordB at this; simpa using this)
theorem wall_snoc {acc : List Int} {y : Int} (h : ∀ x ∈ acc, wordB x = true) (h0 : wordB y = true) : ∀ x ∈ acc ++ [y], wordB x = true := by
  intro x hx
  rcases List.mem_append.1 hx with h2 | h2
  · exact h x h2
  · rw [List.mem_singleton] at h2; subst h2; exact h0

def RetWord1 (w : World) (g : Nat) (v : Value) (n : Nat) (e : Ending) (w' : World) : Prop :=
  ∃ r : Int, e = .returned (.int .i64 r) ∧ wordB r = true ∧ Src w' g v n ∧ w.grownBy w' (some g)

set_option maxRecDepth 100000 in
set_option maxHeartbeats 1000000 in
theorem word_src (w : World) (g : Nat) (v : Value) (xs : List Int) (hv : Ints w g .i64 v xs) (hs : Src w g v xs.length) :
    Calls Tryz.prog 28 #[.pointer (some ⟨g, 0, none⟩)] w (RetWord1 w g v xs.length) := by
  have hlt := hs.lt
  go_enter Tryz.func28, Tryz.ntmps28
  go_wp2_with fail
  refine (next_src w g v xs 2 hv hs (by decide) (by decide)).mono ?_
  rintro e w2 ⟨r, rfl, hr0, hr1, hs2, hg2⟩
  have hv2 := hv.grown hg2 hlt
  have hc2 : r = 0 ∨ 1 ≤ r ∧ (r == 0) = false := by
    have : r = 0 ∨ 1 ≤ r := by omega
    rcases this with h | h
    · exact .inl h
    · exact .inr ⟨h, beq_eq_false_iff_ne.2 (by omega)⟩
  rcases hc2 with rfl | ⟨h5, q0⟩
  · go_wp2_with fail
    refine (next_src w2 g v xs 9 hv2 hs2 (by decide) (by decide)).mono ?_
    rintro e w3 ⟨s, rfl, hs0, hs1', hs3, hg3⟩
    have hG3 := grown_trans hg2 hg3
    have h12 : s = 0 ∨ s = 1 ∨ s = 2 ∨ s = 3 ∨ s = 4 ∨ s = 5 ∨ s = 6 ∨ s = 7 ∨ s = 8 := by omega
    clear hs0 hs1' hg3 hv2 hs2 hg2 hv hs
    rcases h12 with rfl | rfl | rfl | rfl | rfl | rfl | rfl | rfl | rfl
    all_goals
      go_wp2_with fail
      go_ret
      exact ⟨_, rfl, by first | decide +kernel | kernel_rfl | rfl, hs3, hG3⟩
  · go_wp2_with fail
    have hg' := grown_alloc w2 (.cells #[.int .i64 769, .int .i64 803, .int .i64 945, .int .i64 946, .int .i64 1072, .int .i64 1488, .int .i64 1576, .int .i64 1632, .int .i64 7680, .int .i64 7681, .int .i64 7682, .int .i64 19968, .int .i64 44032, .int .i64 8204, .int .i64 2381] 3) (some g)
    refine (next_src _ g v xs 15 (hv2.grown hg' hs2.lt) (hs2.alloc _) (by decide) (by decide)).mono ?_
    rintro e w3 ⟨s, rfl, hs0, hs1', hs3, hg3⟩
    have hG3 := grown_trans hg2 (grown_trans hg' hg3)
    have hk := cell_kept w2.heap.size (cells_new w2 [.int .i64 769, .int .i64 803, .int .i64 945, .int .i64 946, .int .i64 1072, .int .i64 1488, .int .i64 1576, .int .i64 1632, .int .i64 7680, .int .i64 7681, .int .i64 7682, .int .i64 19968, .int .i64 44032, .int .i64 8204, .int .i64 2381] 3) hg3 (by simp) (by have := hs2.lt; omega)
    obtain ⟨m, rfl⟩ := Int.eq_ofNat_of_zero_le hs0
    have hm : m < wlitL.length := by show m < 15; omega
    obtain ⟨x, hx, hxm⟩ := get_of hm
    have k0 := hk m (.int .i64 x) (by
      have h : (wlitL.map (Value.int .i64))[m]? = some (.int .i64 x) := by rw [List.getElem?_map, hx]; rfl
      exact h)
    have hsx := Lib.hid (wlit_mem x hxm)
    clear hk hx hxm hg3 hg'
    go_wp2_with fail
    go_ret
    exact ⟨_, rfl, hsx.out, hs3, hG3⟩

/-- One to six code points of a word come back, in a row of the call's own. -/
def RetWords (w : World) (e : Ending) (w' : World) : Prop :=
  ∃ (v : Value) (ys : List Int), e = .returned v ∧ w'.ownsRow (w.heap.size + 1) 3 1 v ys.length (ys.map (Value.int .i64)) ∧ ys.length ≤ 6 ∧ (∀ c ∈ ys, wordB c = true) ∧ Below w.heap.size w w' ∧ w.heap.size + 1 ≤ w'.heap.size

set_option maxRecDepth 100000 in
set_option maxHeartbeats 1000000 in
theorem word_any (w : World) (v : Value) (xs : List Int) (hv : Ints w w.heap.size .i64 v xs) : Calls Tryz.prog 9 #[v] w (RetWords w) := by
  obtain ⟨i0, hi, hz0, hz1, hz2⟩ := info_parts Tryz.infoInt'
  obtain ⟨A, c, rfl⟩ : ∃ A c, v = .slice A xs.length c := by obtain ⟨A, c, h, _⟩ := hv; exact ⟨A, c, h⟩
  go_enter Tryz.func9, Tryz.ntmps9
  go_wp2_with fail
  refine (from_any A xs.length c w).mono ?_
  rintro e w1 ⟨rfl, rfl⟩
  have hs1 : Src (w.alloc (.cells #[.slice A xs.length c, .int .i64 0] 58)) w.heap.size (.slice A xs.length c) xs.length := ⟨0, Nat.zero_le _, Blk.new w _ _⟩
  have hbel1 : Below w.heap.size w (w.alloc (.cells #[.slice A xs.length c, .int .i64 0] 58)) := (Below.refl _ _).alloc (Nat.le_refl _) _
  have hsz1 : w.heap.size + 1 ≤ (w.alloc (.cells #[.slice A xs.length c, .int .i64 0] 58)).heap.size := by simp
  generalize w.alloc (.cells #[.slice A xs.length c, .int .i64 0] 58) = w1 at *
  have hv1 := hv.below hbel1
  go_wp2_with fail
  refine (next_src w1 w.heap.size _ xs 6 hv1 hs1 (by decide) (by decide)).mono ?_
  rintro e w2 ⟨r, rfl, hr0, hr1, hs2, hg2⟩
  have hbel2 := below_of_grown hbel1 hg2 (Nat.le_refl _) (by omega)
  have hsz2 := Nat.le_trans hsz1 hg2.size
  obtain ⟨m9, hm9⟩ := Int.eq_ofNat_of_zero_le hr0
  obtain ⟨m0, hm00⟩ : ∃ m0, m0 = m9 + 1 := ⟨_, rfl⟩
  have hm0 : m0 ≤ 6 := by omega
  have hme : 1 + r = (m0 : Int) := by omega
  clear hm9 hm00
  have HS2 := Lib.hid hs2
  have HV := Lib.hid hv
  clear hs2 hs1 hbel1 hsz1 hv1 hg2 hr0 hr1 hv
  go_wp2_with fail
  go_loopw [4, 5] (fun l n wr => ∃ (m : Nat) (acc : List Int), n = .int .i64 m ∧ acc.length + m ≤ 6 ∧ wr.ownsRow (w.heap.size + 1) 3 1 l acc.length (acc.map (Value.int .i64)) ∧ Hid (∀ x ∈ acc, wordB x = true) ∧ Hid (Src wr w.heap.size (.slice A xs.length c) xs.length) ∧ Below w.heap.size w wr ∧ w.heap.size + 1 ≤ wr.heap.size) (fun _ n _ => (intOf n).toNat)
  case atStart => exact ⟨m0, [], rfl, by simpa using hm0, World.ownsRow_nil _ _ _ _, Lib.hid (by simp), HS2, hbel2, hsz2⟩
  case round =>
    obtain ⟨m, acc, rfl, hm, hown, HF, HS, hbel, hsz⟩ := hrel
    by_cases hlt : 0 < m
    · have hv' := HV.out.below hbel
      go_wp2_with fail
      refine (word_src wr w.heap.size _ xs hv' HS.out).mono ?_
      rintro e w3 ⟨x, rfl, hx, hs3, hg3⟩
      have hbel3 := below_of_grown hbel hg3 (Nat.le_refl _) (by omega)
      have hsz3 := Nat.le_trans hsz hg3.size
      have hown3 := own_grown hown hg3 (by omega)
      have HF' := Lib.hid (wall_snoc HF.out hx)
      clear hv' hown hbel hsz hg3 HS HF hx
      have HS3 := Lib.hid hs3; clear hs3
      go_wp2_with (at_builtin; refine wpList_append_own _ rfl _ _ 22 rfl (w.heap.size + 1) 3 i0 (.int .i64 0) 1 8 Tryz.underlying22 hi hz0 hz1 hz2 rfl (by decide) _ _ _ rfl (hown3.alloc _) ⟨w3.heap.size, 0, none⟩ 1 1 [.int .i64 x] rfl rfl (cell_one_new _ _ _) ?c1 ?c2 ?c3 ?c4 ?_)
      case c1 => intro u hu; simp at hu; subst hu; rfl
      case c2 => unfold maxLen; omega
      case c3 => omega
      case c4 => simp; omega
      intro v' w4 hown4 hgrow _
      have hbel4 : Below w.heap.size w w4 := (hbel3.alloc hbel3.size _).grown hgrow (by have := hbel3.size; simp; omega) (fun k hk => by have := (hown3.lt k hk).1; omega)
      have hsz4 : w.heap.size + 1 ≤ w4.heap.size := by have := hgrow.size; simp at this; omega
      have HS4 := Lib.hid ((HS3.out.alloc _).grown hgrow (fun hk => by have := (hown3.lt _ hk.symm).1; omega))
      clear hgrow hown3 hbel3 hsz3 HS3
      go_wp2_with fail
      go_roundw
      case rel => exact ⟨m - 1, acc ++ [x], by go_num, by simp; omega, by simpa using hown4, HF', HS4, hbel4, hsz4⟩
      case measure => simp [intOf]; omega
    · go_wp2_with fail
      go_ret
      exact ⟨_, acc, rfl, hown, by omega, HF.out, hbel, hsz⟩

end Go.Proofs.YtneinkpfhkojgaaGreatDoor
/-
  The walk through the law MappingErrors.
-/
namespace Go.Proofs.YtneinkpfhkojgaaGreatDoor
open Go.RowKit ND

set_option maxRecDepth 100000 in
set_option maxHeartbeats 4000000 in
theorem MappingErrors_go (W : World) (hg : Glob W) (v : Value) (xs : List Int) (hv : Ints W W.heap.size .i64 v xs) (u : Value) (ms : List Int) (hu : Ints W W.heap.size .i64 u ms) (a1 a2 a3 : Int) (t : Tv) (T : Tab) (ht : TabR W W.heap.size t T) :
    Calls Tryz.prog 4 #[v, u, .int .i64 a1, .int .i64 a2, .int .i64 a3, t.val] W fun e W' => e = .returned (.bool true) ∧ Below W.heap.size W W' := by
  obtain ⟨A, c, rfl, _⟩ := id hv
  obtain ⟨Au, cu, rfl, _⟩ := id hu
  have HB0 : Hid (Below W.heap.size W (W.alloc (.cells t.cells 26))) := Lib.hid ((Below.refl _ _).alloc (Nat.le_refl _) _)
  have HT : Hid (Tbl (W.alloc (.cells t.cells 26)) W.heap.size t T) := Lib.hid ⟨Blk.new _ _ _, ht.later HB0.out⟩
  have HV := Lib.hid (hv.later HB0.out)
  have HU := Lib.hid (hu.later HB0.out)
  have HG := Lib.hid (hg.later HB0.out)
  clear hv hu ht hg
  go_enter Tryz.func4, Tryz.ntmps4
  go_upto_region 1 with fail
  generalize W.alloc (.cells t.cells 26) = w1 at *
  obtain ⟨tb, htb⟩ : ∃ tb, W.heap.size = tb := ⟨_, rfl⟩
  rw [htb] at HT
  simp only [htb]
  have HX : Hid (∀ V, Below w1.heap.size w1 V → V.cell? ⟨tb, 0, none⟩ = some t.c0 ∧ V.cell? ⟨tb, 1, none⟩ = some t.c1 ∧ V.cell? ⟨tb, 2, none⟩ = some t.c2 ∧ V.cell? ⟨tb, 3, none⟩ = some t.c3 ∧ V.cell? ⟨tb, 4, none⟩ = some t.c4 ∧ V.cell? ⟨tb, 5, none⟩ = some t.c5 ∧ V.cell? ⟨tb, 6, none⟩ = some t.c6 ∧ V.cell? ⟨tb, 7, none⟩ = some t.c7 ∧ V.cell? ⟨tb, 8, none⟩ = some t.c8 ∧ V.cell? ⟨tb, 9, none⟩ = some t.c9 ∧ V.cell? ⟨tb, 10, none⟩ = some t.c10 ∧ V.cell? ⟨tb, 11, none⟩ = some t.c11) := Lib.hid fun V hV => (HT.out.later hV).1.tab
  go_wp2_with (first
    | (go_at_call 6; refine (awake13 _ HG.out).mono ?_; rintro e w2 ⟨rfl, b2⟩)
    | (go_at_call 5; refine (keepTables_any _ _ xs (HV.out.later b2)).mono ?_; rintro e w3 ⟨t3, T3, rfl, ht3, hm3, b3⟩; have B3 := Lib.hid (below_next b2 b3))
    | (go_at_call 10; refine (other_any _ t3 T3 a1 a2 a3 256 ht3 (short_wf hm3.shape) (by omega)).mono ?_; rintro e w4 ⟨t4, T4, rfl, ht4, hs4, b4⟩; have B4 := Lib.hid (below_next B3.out b4); clear hm3 hs4)
    | (go_at_call 9; refine (word_any _ _ ms (HU.out.later B4.out)).mono ?_; rintro e w5 ⟨u5, ys, rfl, ho5, hyl, hys, b5, _⟩; have B5 := Lib.hid (below_next B4.out b5))
    | (go_at_call 7; refine (agrees13_any t4 T4 u5 ys _ (ht4.later b5) (HG.out.later B5.out) (Ints.of_own ho5)).mono ?_; rintro e w6 ⟨rfl, b6⟩; have B6 := Lib.hid (below_next B5.out b6); obtain ⟨x0, x1, x2, x3, x4, x5, x6, x7, x8, x9, x10, x11⟩ := HX.out _ B6.out; clear ht4 ho5 ht3)
    | (go_at_call 7; refine (agrees13_any t T _ ms _ (HT.out.later B6.out).2 (HG.out.later B6.out) (HU.out.later B6.out)).mono ?_; rintro e w7 ⟨rfl, b7⟩; have B7 := Lib.hid (below_next B6.out b7)))
  go_ret
  exact ⟨rfl, below_next HB0.out B7.out⟩
theorem MappingErrors_walk (W : World) (hg : Glob W) (v : Value) (xs : List Int) (hv : Ints W W.heap.size .i64 v xs) (_ : ∀ x ∈ xs, -9223372036854775808 ≤ x ∧ x ≤ 9223372036854775807) (_ : xs.length * 8 ≤ 140737488351232) (u : Value) (ms : List Int) (hu : Ints W W.heap.size .i64 u ms) (_ : ∀ x ∈ ms, -9223372036854775808 ≤ x ∧ x ≤ 9223372036854775807) (_ : ms.length * 8 ≤ 140737488351232) (a1 : Int) (_ : -9223372036854775808 ≤ a1 ∧ a1 ≤ 9223372036854775807) (a2 : Int) (_ : -9223372036854775808 ≤ a2 ∧ a2 ≤ 9223372036854775807) (a3 : Int) (_ : -9223372036854775808 ≤ a3 ∧ a3 ≤ 9223372036854775807) (t : Tv) (T : Tab) (ht : TabR W W.heap.size t T) :
    Calls Tryz.prog 4 #[v, u, .int .i64 a1, .int .i64 a2, .int .i64 a3, t.val] W fun e W' => e = .returned (.bool true) ∧ Below W.heap.size W W' := MappingErrors_go W hg v xs hv u ms hu a1 a2 a3 t T ht
end Go.Proofs.YtneinkpfhkojgaaGreatDoor
/-
  The walk through the law MappingMade.
-/
namespace Go.Proofs.YtneinkpfhkojgaaGreatDoor
open Go.RowKit ND

/-- What holds ahead of region 2. -/
structure made13Ctx (w0 : World) (b : Nat) (t : Tv) (T : Tab) (vm : Value) (ms : List Int) (vo : Value) (os_ : List Int) (vr : Value) (rs : List Int) : Prop where
  tb : Tbl w0 b t T
  g : Glob w0
  m : Ints w0 w0.heap.size .i64 vm ms
  o : Ints w0 w0.heap.size .i64 vo os_
  r : Ints w0 w0.heap.size .i64 vr rs
def made13Specs (t : Tv) (vm : Value) (vo : Value) (vr : Value) : List SpecK := [.val (.bool true), .val (.bool true), .val t.val, .val vm, .lst (fun _ => True), .val (.bool true), .val (.bool true), .val (.bool true), .val t.val, .val vo, .lst (fun _ => True), .val (.bool true), .val (.bool true), .val (.bool true), .val t.val, .val vr, .val (.bool true), .val (.bool true), .val (.bool true)]
def made13Fixed (b : Nat) (vm : Value) (vo : Value) (vr : Value) : List (Tmp × Value) := [(1, vm), (2, vo), (3, vr), (9, .pointer (some ⟨b, 0, none⟩))]
def made13Ob (w0 : World) (b : Nat) (t : Tv) (vm : Value) (vo : Value) (vr : Value) (Q : Exit → Act → World → Prop) (k : Nat) : Prop := ObR 24 Tryz.prog (opsAt Tryz.f3 2) 30 [] (made13Fixed b vm vo vr) w0 (made13Specs t vm vo vr) [] Q k
section
variable {w0 : World} {b : Nat} {t : Tv} {T : Tab} {vm : Value} {ms : List Int} {vo : Value} {os_ : List Int} {vr : Value} {rs : List Int} {Q : Exit → Act → World → Prop}
theorem made13_ob0 (H : made13Ctx w0 b t T vm ms vo os_ vr rs) : made13Ob w0 b t vm vo vr Q 0 := by
  intro o ho a w hb hf hd K hK
  rw [if_pos (wanted_none _ (get_op (·.guard) ho (by kernel_rfl)))]
  refine ob_enter (enter0 (tys := #[]) (get_op (·.op) ho (by kernel_rfl)) (fun args w => enters_of Tryz.func6 (by kernel_rfl) rfl args w)) (awake13 w (H.g.later hb)) fun e w' ⟨he, h1⟩ => ⟨_, he, ?_⟩
  exact hK _ _ (rk_of rfl rfl) (.inl h1)
theorem made13_ob1 : made13Ob w0 b t vm vo vr Q 1 := by
  intro o ho a w hb hf hd K hK
  rw [if_pos (wanted_none _ (get_op (·.guard) ho (by kernel_rfl)))]
  obtain ⟨v0, h0, e0⟩ := dep_k (F := 24) ho hd 0 12 (.val (.bool true)) (by kernel_rfl) (by kernel_rfl) rfl (by kernel_rfl)
  obtain rfl : v0 = _ := e0
  exact ob_move (get_op (·.op) ho (by kernel_rfl)) (eval_tmp h0) (hK _ _ (rk_of rfl rfl) (.inl (Below.refl _ _)))
theorem made13_ob2 (H : made13Ctx w0 b t T vm ms vo os_ vr rs) : made13Ob w0 b t vm vo vr Q 2 := by
  intro o ho a w hb hf hd K hK
  obtain ⟨v1, h1, e1⟩ := dep_k (F := 24) ho hd 1 13 (.val (.bool true)) (by kernel_rfl) (by kernel_rfl) rfl (by kernel_rfl)
  obtain rfl : v1 = _ := e1
  rw [if_pos (wanted_at (g := 1) (b := true) ho (by kernel_rfl) (by kernel_rfl) h1 rfl)]
  exact ob_value (load_tab (H.tb.later hb) (get_op (·.op) ho (by kernel_rfl)) (eval_tmp (hf.2.2 (9, _) (by simp [made13Fixed])))) (hK _ _ (rk_of rfl rfl) (.inl (Below.refl _ _)))
theorem made13_ob3 : made13Ob w0 b t vm vo vr Q 3 := by
  intro o ho a w hb hf hd K hK
  obtain ⟨v1, h1, e1⟩ := dep_k (F := 24) ho hd 1 13 (.val (.bool true)) (by kernel_rfl) (by kernel_rfl) rfl (by kernel_rfl)
  obtain rfl : v1 = _ := e1
  rw [if_pos (wanted_at (g := 1) (b := true) ho (by kernel_rfl) (by kernel_rfl) h1 rfl)]
  exact ob_move (get_op (·.op) ho (by kernel_rfl)) (eval_tmp (hf.2.2 (1, _) (by simp [made13Fixed]))) (hK _ _ (rk_of rfl rfl) (.inl (Below.refl _ _)))
theorem made13_ob4 (H : made13Ctx w0 b t T vm ms vo os_ vr rs) : made13Ob w0 b t vm vo vr Q 4 := by
  intro o ho a w hb hf hd K hK
  obtain ⟨v1, h1, e1⟩ := dep_k (F := 24) ho hd 1 13 (.val (.bool true)) (by kernel_rfl) (by kernel_rfl) rfl (by kernel_rfl)
  obtain rfl : v1 = _ := e1
  rw [if_pos (wanted_at (g := 1) (b := true) ho (by kernel_rfl) (by kernel_rfl) h1 rfl)]
  obtain ⟨v3, h3, e3⟩ := dep_k (F := 24) ho hd 3 15 (.val vm) (by kernel_rfl) (by kernel_rfl) rfl (by kernel_rfl)
  obtain rfl : v3 = _ := e3
  refine ob_enter (enter1 (tys := #[22]) (x := .tmp 15) (get_op (·.op) ho (by kernel_rfl)) (eval_tmp h3) (fun args w => enters_of Tryz.func8 (by kernel_rfl) rfl args w)) (points_any w _ ms (H.m.later hb)) fun e w' ⟨v, ys, he, h2, _, _, h1⟩ => ⟨v, he, ?_⟩
  exact hK _ _ (rk_of rfl ⟨ys, h2, trivial⟩) (.inl h1)
theorem made13_ob5 (H : made13Ctx w0 b t T vm ms vo os_ vr rs) : made13Ob w0 b t vm vo vr Q 5 := by
  intro o ho a w hb hf hd K hK
  obtain ⟨v1, h1, e1⟩ := dep_k (F := 24) ho hd 1 13 (.val (.bool true)) (by kernel_rfl) (by kernel_rfl) rfl (by kernel_rfl)
  obtain rfl : v1 = _ := e1
  rw [if_pos (wanted_at (g := 1) (b := true) ho (by kernel_rfl) (by kernel_rfl) h1 rfl)]
  obtain ⟨v2, h2, e2⟩ := dep_k (F := 24) ho hd 2 14 (.val t.val) (by kernel_rfl) (by kernel_rfl) rfl (by kernel_rfl)
  obtain rfl : v2 = _ := e2
  obtain ⟨v4, h4, e4⟩ := dep_k (F := 24) ho hd 4 16 (.lst (fun _ => True)) (by kernel_rfl) (by kernel_rfl) rfl (by kernel_rfl)
  obtain ⟨ys4, hi4, _⟩ := e4
  refine ob_enter (enter2 (tys := #[26, 22]) (x := .tmp 14) (y := .tmp 16) (get_op (·.op) ho (by kernel_rfl)) (eval_tmp h2) (eval_tmp h4) (fun args w => enters_of Tryz.func7 (by kernel_rfl) rfl args w)) (agrees13_any t T _ _ w (H.tb.later hb).2 (H.g.later hb) hi4) fun e w' ⟨he, h1⟩ => ⟨_, he, ?_⟩
  exact hK _ _ (rk_of rfl rfl) (.inl h1)
theorem made13_ob6 : made13Ob w0 b t vm vo vr Q 6 := by
  intro o ho a w hb hf hd K hK
  rw [if_pos (wanted_none _ (get_op (·.guard) ho (by kernel_rfl)))]
  obtain ⟨v1, h1, e1⟩ := dep_k (F := 24) ho hd 1 13 (.val (.bool true)) (by kernel_rfl) (by kernel_rfl) rfl (by kernel_rfl)
  obtain rfl : v1 = _ := e1
  obtain ⟨v5, h5, e5⟩ := dep_k (F := 24) ho hd 5 17 (.val (.bool true)) (by kernel_rfl) (by kernel_rfl) rfl (by kernel_rfl)
  obtain rfl : v5 = _ := e5
  exact ob_pick (c := .tmp 13) (x := .tmp 17) (y := .const (.bool false)) (b := true) (get_op (·.op) ho (by kernel_rfl)) (eval_tmp h1) (eval_tmp h5) (hK _ _ (rk_of rfl rfl) (.inl (Below.refl _ _)))
theorem made13_ob7 : made13Ob w0 b t vm vo vr Q 7 := by
  intro o ho a w hb hf hd K hK
  rw [if_pos (wanted_none _ (get_op (·.guard) ho (by kernel_rfl)))]
  obtain ⟨v6, h6, e6⟩ := dep_k (F := 24) ho hd 6 18 (.val (.bool true)) (by kernel_rfl) (by kernel_rfl) rfl (by kernel_rfl)
  obtain rfl : v6 = _ := e6
  exact ob_move (get_op (·.op) ho (by kernel_rfl)) (eval_tmp h6) (hK _ _ (rk_of rfl rfl) (.inl (Below.refl _ _)))
theorem made13_ob8 (H : made13Ctx w0 b t T vm ms vo os_ vr rs) : made13Ob w0 b t vm vo vr Q 8 := by
  intro o ho a w hb hf hd K hK
  obtain ⟨v7, h7, e7⟩ := dep_k (F := 24) ho hd 7 19 (.val (.bool true)) (by kernel_rfl) (by kernel_rfl) rfl (by kernel_rfl)
  obtain rfl : v7 = _ := e7
  rw [if_pos (wanted_at (g := 7) (b := true) ho (by kernel_rfl) (by kernel_rfl) h7 rfl)]
  exact ob_value (load_tab (H.tb.later hb) (get_op (·.op) ho (by kernel_rfl)) (eval_tmp (hf.2.2 (9, _) (by simp [made13Fixed])))) (hK _ _ (rk_of rfl rfl) (.inl (Below.refl _ _)))
theorem made13_ob9 : made13Ob w0 b t vm vo vr Q 9 := by
  intro o ho a w hb hf hd K hK
  obtain ⟨v7, h7, e7⟩ := dep_k (F := 24) ho hd 7 19 (.val (.bool true)) (by kernel_rfl) (by kernel_rfl) rfl (by kernel_rfl)
  obtain rfl : v7 = _ := e7
  rw [if_pos (wanted_at (g := 7) (b := true) ho (by kernel_rfl) (by kernel_rfl) h7 rfl)]
  exact ob_move (get_op (·.op) ho (by kernel_rfl)) (eval_tmp (hf.2.2 (2, _) (by simp [made13Fixed]))) (hK _ _ (rk_of rfl rfl) (.inl (Below.refl _ _)))
theorem made13_ob10 (H : made13Ctx w0 b t T vm ms vo os_ vr rs) : made13Ob w0 b t vm vo vr Q 10 := by
  intro o ho a w hb hf hd K hK
  obtain ⟨v7, h7, e7⟩ := dep_k (F := 24) ho hd 7 19 (.val (.bool true)) (by kernel_rfl) (by kernel_rfl) rfl (by kernel_rfl)
  obtain rfl : v7 = _ := e7
  rw [if_pos (wanted_at (g := 7) (b := true) ho (by kernel_rfl) (by kernel_rfl) h7 rfl)]
  obtain ⟨v9, h9, e9⟩ := dep_k (F := 24) ho hd 9 21 (.val vo) (by kernel_rfl) (by kernel_rfl) rfl (by kernel_rfl)
  obtain rfl : v9 = _ := e9
  refine ob_enter (enter1 (tys := #[22]) (x := .tmp 21) (get_op (·.op) ho (by kernel_rfl)) (eval_tmp h9) (fun args w => enters_of Tryz.func9 (by kernel_rfl) rfl args w)) (word_any w _ os_ (H.o.later hb)) fun e w' ⟨v, ys, he, h2, _, _, h1, _⟩ => ⟨v, he, ?_⟩
  exact hK _ _ (rk_of rfl ⟨ys, Ints.of_own h2, trivial⟩) (.inl h1)
theorem made13_ob11 (H : made13Ctx w0 b t T vm ms vo os_ vr rs) : made13Ob w0 b t vm vo vr Q 11 := by
  intro o ho a w hb hf hd K hK
  obtain ⟨v7, h7, e7⟩ := dep_k (F := 24) ho hd 7 19 (.val (.bool true)) (by kernel_rfl) (by kernel_rfl) rfl (by kernel_rfl)
  obtain rfl : v7 = _ := e7
  rw [if_pos (wanted_at (g := 7) (b := true) ho (by kernel_rfl) (by kernel_rfl) h7 rfl)]
  obtain ⟨v8, h8, e8⟩ := dep_k (F := 24) ho hd 8 20 (.val t.val) (by kernel_rfl) (by kernel_rfl) rfl (by kernel_rfl)
  obtain rfl : v8 = _ := e8
  obtain ⟨v10, h10, e10⟩ := dep_k (F := 24) ho hd 10 22 (.lst (fun _ => True)) (by kernel_rfl) (by kernel_rfl) rfl (by kernel_rfl)
  obtain ⟨ys10, hi10, _⟩ := e10
  refine ob_enter (enter2 (tys := #[26, 22]) (x := .tmp 20) (y := .tmp 22) (get_op (·.op) ho (by kernel_rfl)) (eval_tmp h8) (eval_tmp h10) (fun args w => enters_of Tryz.func7 (by kernel_rfl) rfl args w)) (agrees13_any t T _ _ w (H.tb.later hb).2 (H.g.later hb) hi10) fun e w' ⟨he, h1⟩ => ⟨_, he, ?_⟩
  exact hK _ _ (rk_of rfl rfl) (.inl h1)
theorem made13_ob12 : made13Ob w0 b t vm vo vr Q 12 := by
  intro o ho a w hb hf hd K hK
  rw [if_pos (wanted_none _ (get_op (·.guard) ho (by kernel_rfl)))]
  obtain ⟨v7, h7, e7⟩ := dep_k (F := 24) ho hd 7 19 (.val (.bool true)) (by kernel_rfl) (by kernel_rfl) rfl (by kernel_rfl)
  obtain rfl : v7 = _ := e7
  obtain ⟨v11, h11, e11⟩ := dep_k (F := 24) ho hd 11 23 (.val (.bool true)) (by kernel_rfl) (by kernel_rfl) rfl (by kernel_rfl)
  obtain rfl : v11 = _ := e11
  exact ob_pick (c := .tmp 19) (x := .tmp 23) (y := .const (.bool false)) (b := true) (get_op (·.op) ho (by kernel_rfl)) (eval_tmp h7) (eval_tmp h11) (hK _ _ (rk_of rfl rfl) (.inl (Below.refl _ _)))
theorem made13_ob13 : made13Ob w0 b t vm vo vr Q 13 := by
  intro o ho a w hb hf hd K hK
  rw [if_pos (wanted_none _ (get_op (·.guard) ho (by kernel_rfl)))]
  obtain ⟨v12, h12, e12⟩ := dep_k (F := 24) ho hd 12 24 (.val (.bool true)) (by kernel_rfl) (by kernel_rfl) rfl (by kernel_rfl)
  obtain rfl : v12 = _ := e12
  exact ob_move (get_op (·.op) ho (by kernel_rfl)) (eval_tmp h12) (hK _ _ (rk_of rfl rfl) (.inl (Below.refl _ _)))
theorem made13_ob14 (H : made13Ctx w0 b t T vm ms vo os_ vr rs) : made13Ob w0 b t vm vo vr Q 14 := by
  intro o ho a w hb hf hd K hK
  obtain ⟨v13, h13, e13⟩ := dep_k (F := 24) ho hd 13 25 (.val (.bool true)) (by kernel_rfl) (by kernel_rfl) rfl (by kernel_rfl)
  obtain rfl : v13 = _ := e13
  rw [if_pos (wanted_at (g := 13) (b := true) ho (by kernel_rfl) (by kernel_rfl) h13 rfl)]
  exact ob_value (load_tab (H.tb.later hb) (get_op (·.op) ho (by kernel_rfl)) (eval_tmp (hf.2.2 (9, _) (by simp [made13Fixed])))) (hK _ _ (rk_of rfl rfl) (.inl (Below.refl _ _)))
theorem made13_ob15 : made13Ob w0 b t vm vo vr Q 15 := by
  intro o ho a w hb hf hd K hK
  obtain ⟨v13, h13, e13⟩ := dep_k (F := 24) ho hd 13 25 (.val (.bool true)) (by kernel_rfl) (by kernel_rfl) rfl (by kernel_rfl)
  obtain rfl : v13 = _ := e13
  rw [if_pos (wanted_at (g := 13) (b := true) ho (by kernel_rfl) (by kernel_rfl) h13 rfl)]
  exact ob_move (get_op (·.op) ho (by kernel_rfl)) (eval_tmp (hf.2.2 (3, _) (by simp [made13Fixed]))) (hK _ _ (rk_of rfl rfl) (.inl (Below.refl _ _)))
theorem made13_ob16 (H : made13Ctx w0 b t T vm ms vo os_ vr rs) : made13Ob w0 b t vm vo vr Q 16 := by
  intro o ho a w hb hf hd K hK
  obtain ⟨v13, h13, e13⟩ := dep_k (F := 24) ho hd 13 25 (.val (.bool true)) (by kernel_rfl) (by kernel_rfl) rfl (by kernel_rfl)
  obtain rfl : v13 = _ := e13
  rw [if_pos (wanted_at (g := 13) (b := true) ho (by kernel_rfl) (by kernel_rfl) h13 rfl)]
  obtain ⟨v14, h14, e14⟩ := dep_k (F := 24) ho hd 14 26 (.val t.val) (by kernel_rfl) (by kernel_rfl) rfl (by kernel_rfl)
  obtain rfl : v14 = _ := e14
  obtain ⟨v15, h15, e15⟩ := dep_k (F := 24) ho hd 15 27 (.val vr) (by kernel_rfl) (by kernel_rfl) rfl (by kernel_rfl)
  obtain rfl : v15 = _ := e15
  refine ob_enter (enter2 (tys := #[26, 22]) (x := .tmp 26) (y := .tmp 27) (get_op (·.op) ho (by kernel_rfl)) (eval_tmp h14) (eval_tmp h15) (fun args w => enters_of Tryz.func7 (by kernel_rfl) rfl args w)) (agrees13_any t T _ _ w (H.tb.later hb).2 (H.g.later hb) (H.r.later hb)) fun e w' ⟨he, h1⟩ => ⟨_, he, ?_⟩
  exact hK _ _ (rk_of rfl rfl) (.inl h1)
theorem made13_ob17 : made13Ob w0 b t vm vo vr Q 17 := by
  intro o ho a w hb hf hd K hK
  rw [if_pos (wanted_none _ (get_op (·.guard) ho (by kernel_rfl)))]
  obtain ⟨v13, h13, e13⟩ := dep_k (F := 24) ho hd 13 25 (.val (.bool true)) (by kernel_rfl) (by kernel_rfl) rfl (by kernel_rfl)
  obtain rfl : v13 = _ := e13
  obtain ⟨v16, h16, e16⟩ := dep_k (F := 24) ho hd 16 28 (.val (.bool true)) (by kernel_rfl) (by kernel_rfl) rfl (by kernel_rfl)
  obtain rfl : v16 = _ := e16
  exact ob_pick (c := .tmp 25) (x := .tmp 28) (y := .const (.bool false)) (b := true) (get_op (·.op) ho (by kernel_rfl)) (eval_tmp h13) (eval_tmp h16) (hK _ _ (rk_of rfl rfl) (.inl (Below.refl _ _)))
theorem made13_ob18 : made13Ob w0 b t vm vo vr Q 18 := by
  intro o ho a w hb hf hd K hK
  rw [if_pos (wanted_none _ (get_op (·.guard) ho (by kernel_rfl)))]
  obtain ⟨v17, h17, e17⟩ := dep_k (F := 24) ho hd 17 29 (.val (.bool true)) (by kernel_rfl) (by kernel_rfl) rfl (by kernel_rfl)
  obtain rfl : v17 = _ := e17
  exact ob_assign (get_op (·.op) ho (by kernel_rfl)) (eval_tmp h17) (hK _ _ (rk_of rfl rfl) (.inl (Below.refl _ _)))
theorem made13_obs (H : made13Ctx w0 b t T vm ms vo os_ vr rs) (k : Nat) (hk : k < 19) : made13Ob w0 b t vm vo vr Q k := by
  match k, hk with
  | 0, _ => exact made13_ob0 H
  | 1, _ => exact made13_ob1
  | 2, _ => exact made13_ob2 H
  | 3, _ => exact made13_ob3
  | 4, _ => exact made13_ob4 H
  | 5, _ => exact made13_ob5 H
  | 6, _ => exact made13_ob6
  | 7, _ => exact made13_ob7
  | 8, _ => exact made13_ob8 H
  | 9, _ => exact made13_ob9
  | 10, _ => exact made13_ob10 H
  | 11, _ => exact made13_ob11 H
  | 12, _ => exact made13_ob12
  | 13, _ => exact made13_ob13
  | 14, _ => exact made13_ob14 H
  | 15, _ => exact made13_ob15
  | 16, _ => exact made13_ob16 H
  | 17, _ => exact made13_ob17
  | 18, _ => exact made13_ob18
  | m + 19, h => exact absurd h (by omega)
theorem made13_region {a : Act} (H : made13Ctx w0 b t T vm ms vo os_ vr rs) (hf : FS 30 [] (made13Fixed b vm vo vr) a)
    (hend : ∀ a w, Below w0.heap.size w0 w → FS 30 [] (made13Fixed b vm vo vr) a → (∀ (i : Nat) (o : Oper) (d : Tmp), (opsAt Tryz.f3 2)[i]? = some o → (∀ j, killK (made13Specs t vm vo vr) [] i j = false) → o.dst = some d → ∃ v, a.tmps[d]? = some v ∧ RK w0.heap.size (made13Specs t vm vo vr) i v w) → Q .normal a w) : (Code.region 2 (opsAt Tryz.f3 2) true).wp Tryz.prog Q a w0 := by
  refine wp_region_k 24 (n := 30) (ds := []) (fixed := made13Fixed b vm vo vr) (specs := made13Specs t vm vo vr) (apps := []) (by kernel_rfl) (by kernel_rfl) (by kernel_rfl) (by kernel_rfl) hf (fun i hi => made13_obs H i ?_) hend
  have hn : (opsAt Tryz.f3 2).size = 19 := by kernel_rfl
  omega
end

set_option maxRecDepth 100000 in
set_option maxHeartbeats 4000000 in
theorem MappingMade_go (W : World) (hg : Glob W) (v : Value) (xs : List Int) (hv : Ints W W.heap.size .i64 v xs) (vm : Value) (ms : List Int) (hvm : Ints W W.heap.size .i64 vm ms) (vo : Value) (os_ : List Int) (hvo : Ints W W.heap.size .i64 vo os_) (vr : Value) (rs : List Int) (hvr : Ints W W.heap.size .i64 vr rs) :
    Calls Tryz.prog 3 #[v, vm, vo, vr] W fun e W' => e = .returned (.bool true) ∧ Below W.heap.size W W' := by
  have HG := Lib.hid hg
  have HM := Lib.hid hvm
  have HO := Lib.hid hvo
  have HR := Lib.hid hvr
  obtain ⟨Ax, cx, rfl, _⟩ := id hv
  have HT := Lib.hid (keepTables_any W _ xs hv)
  clear hv hg hvm hvo hvr
  go_enter Tryz.func3, Tryz.ntmps3
  go_upto_region 2 with (go_at_call 5; refine HT.out.mono ?_; rintro e w1 ⟨t, T, rfl, ht1, _, hb1⟩; obtain ⟨A0, A1, A2, A3, A4, A5, A6, A7, A8, A9, A10, A11, k0, k1, k2, k3, k4, k5, k6, k7, k8, k9, k10, k11, rfl⟩ := ht1.shape; have HT1 := Lib.hid ht1; have HB1 := Lib.hid hb1; clear ht1 hb1)
  obtain ⟨t, ht, htb⟩ := Tbl.new HT1.out
  have HT2 := Lib.hid htb
  have HB2 := Lib.hid (HB1.out.alloc HB1.out.size (.cells #[.slice A0 T.category.length k0, .slice A1 T.cls.length k1, .slice A2 T.joining.length k2, .slice A3 T.bidi.length k3, .slice A4 T.script.length k4, .slice A5 T.status.length k5, .slice A6 T.ignorable.length k6, .slice A7 T.extensions.length k7, .slice A8 T.maps.length k8, .slice A9 T.decomps.length k9, .slice A10 T.excluded.length k10, .slice A11 T.prototypes.length k11] 26))
  clear htb HT1 HT
  generalize w1.alloc (.cells #[.slice A0 T.category.length k0, .slice A1 T.cls.length k1, .slice A2 T.joining.length k2, .slice A3 T.bidi.length k3, .slice A4 T.script.length k4, .slice A5 T.status.length k5, .slice A6 T.ignorable.length k6, .slice A7 T.extensions.length k7, .slice A8 T.maps.length k8, .slice A9 T.decomps.length k9, .slice A10 T.excluded.length k10, .slice A11 T.prototypes.length k11] 26) = w2 at *
  generalize w1.heap.size = tb at *
  clear ht
  refine wp_region_as (ops := (opsAt Tryz.f3 2)) (by kernel_rfl) ?_
  refine made13_region (b := tb) (t := t) (T := T) (vm := vm) (ms := ms) (vo := vo) (os_ := os_) (vr := vr) (rs := rs) ⟨HT2.out, HG.out.later HB2.out, HM.out.later HB2.out, HO.out.later HB2.out, HR.out.later HB2.out⟩ ⟨rfl, rfl, by intro p hp; simp [made13Fixed] at hp; rcases hp with rfl | rfl | rfl | rfl <;> rfl⟩ ?_
  intro a w9 hc hf hr
  obtain ⟨v9, hv9, e9⟩ := end_k hr 18 8 (.val (.bool true)) (by kernel_rfl) rfl (by kernel_rfl)
  obtain rfl : v9 = .bool true := e9
  rename_i K hK
  refine hK a w9 ?_
  go_wp2
  exact bodyPost_ret (v := .bool true) (by simp [results, Tryz.results3, hv9]) hf.2.1 ⟨rfl, below_next HB2.out hc⟩
theorem MappingMade_walk (W : World) (hg : Glob W) (v : Value) (xs : List Int) (hv : Ints W W.heap.size .i64 v xs) (_ : ∀ x ∈ xs, -9223372036854775808 ≤ x ∧ x ≤ 9223372036854775807) (_ : xs.length * 8 ≤ 140737488351232) (vm : Value) (ms : List Int) (hvm : Ints W W.heap.size .i64 vm ms) (_ : ∀ x ∈ ms, -9223372036854775808 ≤ x ∧ x ≤ 9223372036854775807) (_ : ms.length * 8 ≤ 140737488351232) (vo : Value) (os_ : List Int) (hvo : Ints W W.heap.size .i64 vo os_) (_ : ∀ x ∈ os_, -9223372036854775808 ≤ x ∧ x ≤ 9223372036854775807) (_ : os_.length * 8 ≤ 140737488351232) (vr : Value) (rs : List Int) (hvr : Ints W W.heap.size .i64 vr rs) (_ : ∀ x ∈ rs, -9223372036854775808 ≤ x ∧ x ≤ 9223372036854775807) (_ : rs.length * 8 ≤ 140737488351232) :
    Calls Tryz.prog 3 #[v, vm, vo, vr] W fun e W' => e = .returned (.bool true) ∧ Below W.heap.size W W' := MappingMade_go W hg v xs hv vm ms hvm vo os_ hvo vr rs hvr
end Go.Proofs.YtneinkpfhkojgaaGreatDoor
