/-
  Merged texts: lemmas and walks that the last text of this claim leans on.
-/
import Derived.Test.YtikcfoobfobmnaaGreatDoorMgB717
import Derived.Test.YtikcfoobfobmnaaGreatDoorMgB731
import Derived.Test.YtikcfoobfobmnaaGreatDoorMgB73
import Derived.Test.YtikcfoobfobmnaaGreatDoorMgB75
import Derived.Laws.Slices
import Derived.ArgAppend
/-
  A drawn region in which rows of the call's own are appended to, by what holds of each slot.
-/
namespace Go.Proofs.YtikcfoobfobmnaaGreatDoor
open Go.RowKit ND

/-- What is said of a slot: besides values, sequences that lie below B0, sequences, rows of the call's own. -/
inductive SpecK where
  | val (v : Value)
  | low (p : List Int → Prop)
  | lst (p : List Int → Prop)
  | own (ys : List Int)
  | tab (p : Tab → Prop)
  | two (n : Int) (p : List Int → Prop)
  | tri (i n : Int) (p : List Int → Prop)
  | oth (P : Value → World → Prop) (hP : ∀ v w w', P v w → Below w.heap.size w w' → P v w')
def SpecK.ok (B0 : Nat) : SpecK → Value → World → Prop
  | .val u, v, _ => v = u
  | .low p, v, w => ∃ ys, Ints w B0 .i64 v ys ∧ p ys
  | .lst p, v, w => ∃ ys, Ints w w.heap.size .i64 v ys ∧ p ys
  | .own ys, v, w => w.ownsRow B0 3 1 v ys.length (ys.map (Value.int .i64))
  | .tab p, v, w => ∃ (t : Tv) (T : Tab), v = t.val ∧ TabR w w.heap.size t T ∧ p T
  | .two n p, v, w => ∃ u ys, v = .tuple #[u, .int .i64 n] ∧ Ints w w.heap.size .i64 u ys ∧ p ys
  | .tri i n p, v, w => ∃ u ys, v = .tuple #[u, .int .i64 i, .int .i64 n] ∧ Ints w w.heap.size .i64 u ys ∧ p ys
  | .oth P _, v, w => P v w
def SpecK.mem : SpecK → Bool
  | .val _ => false
  | .low _ => false
  | _ => true
def RK (B0 : Nat) (specs : List SpecK) (i : Nat) (v : Value) (w : World) : Prop := ∀ s, specs[i]? = some s → s.ok B0 v w
/-- The appends consume what lies in memory. -/
def killK (specs : List SpecK) (apps : List Nat) (i j : Nat) : Bool := apps.contains j && (decide (i < j) && match specs[i]? with | some s => s.mem | none => false)
theorem SpecK.later {B0 : Nat} {s : SpecK} {v : Value} {w w' : World} (h : s.ok B0 v w) (hb : Below w.heap.size w w') (hB : B0 ≤ w.heap.size) : s.ok B0 v w' := by
  cases s with
  | val u => exact h
  | low p => obtain ⟨ys, h1, h2⟩ := h; exact ⟨ys, h1.below (hb.mono hB), h2⟩
  | lst p => obtain ⟨ys, h1, h2⟩ := h; exact ⟨ys, h1.later hb, h2⟩
  | own ys => exact own_later h hb
  | tab p => obtain ⟨t, T, e, h1, h2⟩ := h; exact ⟨t, T, e, h1.later hb, h2⟩
  | two n p => obtain ⟨u, ys, e, h1, h2⟩ := h; exact ⟨u, ys, e, h1.later hb, h2⟩
  | tri i n p => obtain ⟨u, ys, e, h1, h2⟩ := h; exact ⟨u, ys, e, h1.later hb, h2⟩
  | oth P hP => exact hP _ _ _ h hb
theorem RK.later {B0 : Nat} {specs : List SpecK} {i : Nat} {v : Value} {w w' : World} (h : RK B0 specs i v w) (hb : Below w.heap.size w w') (hB : B0 ≤ w.heap.size) : RK B0 specs i v w' := fun s hs => SpecK.later (h s hs) hb hB
theorem rk_of {B0 : Nat} {specs : List SpecK} {i : Nat} {v : Value} {w : World} {s : SpecK} (hs : specs[i]? = some s) (h : s.ok B0 v w) : RK B0 specs i v w := fun s' hs' => by
  rw [hs] at hs'; cases hs'; exact h

/-- The edges that bind point back. -/
def lowA : Nat → List Oper → Bool
  | _, [] => true
  | k, o :: r => o.after.all (fun e => !Region.binds .any e || decide (e.on < k)) && lowA (k + 1) r
def checksA (ops : Array Oper) (n : Nat) (fx : List Tmp) : Bool :=
  lowA 0 ops.toList && nodupB (ops.toList.map (·.dst)) && ops.toList.all fun o => match o.dst with | some d => decide (d < n) && !fx.contains d | none => true
theorem lowA_at : ∀ {l : List Oper} {k i : Nat} {o : Oper}, lowA k l = true → l[i]? = some o → ∀ e ∈ o.after, Region.binds .any e = true → e.on < k + i := by
  intro l
  induction l with
  | nil => intro k i o _ h; simp at h
  | cons a r ih =>
    intro k i o h hi e he hb
    rw [lowA, Bool.and_eq_true] at h
    cases i with
    | zero =>
      simp only [List.getElem?_cons_zero, Option.some.injEq] at hi
      subst hi
      have := Array.all_eq_true'.1 h.1 e he
      simpa [hb] using this
    | succ i =>
      rw [List.getElem?_cons_succ] at hi
      have := ih h.2 hi e he hb
      omega

/-- The obligation of one operation. -/
def ObL (P : Program) (ops : Array Oper) (n : Nat) (ds : List Deferred) (fixed : List (Tmp × Value)) (kill : Nat → Nat → Bool) (C : Array Bool → World → Prop) (R : Nat → Value → World → Prop) (Q : Exit → Act → World → Prop) (i : Nat) (o : Oper) : Prop :=
  ∀ listed a w, C listed w → listed.size = ops.size → listed.getD i true = false → (∀ (j : Nat) (o : Oper), ops[j]? = some o → listed.getD j false = true → ∀ e ∈ o.after, Region.binds .any e = true → listed.getD e.on false = true) → FS n ds fixed a → DepsK ops kill R listed o a w → ∀ K : Act → World → Prop, (∀ v w', (∀ d, o.dst = some d → R i v w') → C (listed.setIfInBounds i true) w' → (∀ j u, j ≠ i → listed.getD j false = true → kill j i = false → R j u w → R j u w') → K (a.put o.dst v) w') →
    if Region.wanted o (yielded ops a.tmps) = true then o.wp P a w K Q else K (a.put o.dst undef) w

theorem wp_region_killL {P : Program} {id n : Nat} {ops : Array Oper} {Q : Exit → Act → World → Prop} {a : Act} {w : World} {ds : List Deferred} {fixed : List (Tmp × Value)} {kill : Nat → Nat → Bool} {C : Array Bool → World → Prop} {R : Nat → Value → World → Prop} (hm : P.follows .mixedOrders = true)
    (hck : checksA ops n (fixed.map (·.1)) = true) (hf : FS n ds fixed a) (hc : C (Array.replicate ops.size false) w.drew)
    (hob : ∀ (i : Nat) (o : Oper), ops[i]? = some o → ObL P ops n ds fixed kill C R Q i o)
    (hend : ∀ listed a w, (∀ i, i < ops.size → listed.getD i false = true) → C listed w → FS n ds fixed a → (∀ (i : Nat) (o : Oper) (d : Tmp), ops[i]? = some o → (∀ j, kill i j = false) → o.dst = some d → ∃ v, a.tmps[d]? = some v ∧ R i v w) → Q .normal a w) : (Code.region id ops true).wp P Q a w := by
  unfold checksA at hck
  rw [Bool.and_eq_true, Bool.and_eq_true, List.all_eq_true] at hck
  obtain ⟨⟨h1, h2⟩, h3⟩ := hck
  have hat : ∀ {i : Nat} {o : Oper}, ops[i]? = some o → ops.toList[i]? = some o := fun h => by simpa using h
  have hin : ∀ {i : Nat} {o : Oper} {d : Tmp}, ops[i]? = some o → o.dst = some d → d < n ∧ d ∉ fixed.map (·.1) := fun h hd => by
    have := h3 _ (List.mem_of_getElem? (hat h))
    rw [hd] at this
    simpa using this
  have hlow : ∀ (i : Nat) (o : Oper), ops[i]? = some o → ∀ e ∈ o.after, Region.binds .any e = true → e.on < i := fun i o ho e he hb => by
    have := lowA_at h1 (hat ho) e he hb
    omega
  have hdst : ∀ (i j : Nat) (o o' : Oper) (d : Tmp), ops[i]? = some o → ops[j]? = some o' → i ≠ j → o.dst = some d → o'.dst ≠ some d := fun i j o o' d hi hj hij hd hd' => by
    have hi' : (ops.toList.map (·.dst))[i]? = some (some d) := by rw [List.getElem?_map, hat hi]; simp [hd]
    have hj' : (ops.toList.map (·.dst))[j]? = some (some d) := by rw [List.getElem?_map, hat hj]; simp [hd']
    rcases Nat.lt_or_gt_of_ne hij with h | h
    · exact nodupB_at h2 h hi' hj'
    · exact nodupB_at h2 h hj' hi'
  have hF : ∀ (i : Nat) (o : Oper) (a : Act) (v : Value), ops[i]? = some o → FS n ds fixed a → FS n ds fixed (a.put o.dst v) := fun i o a v ho ⟨q1, q2, q3⟩ => by
    cases hd : o.dst with
    | none => exact ⟨q1, q2, q3⟩
    | some d =>
      obtain ⟨_, hn⟩ := hin ho hd
      refine ⟨by simpa [Act.put] using q1, q2, fun p hp => ?_⟩
      have hne : d ≠ p.1 := fun e => hn (e ▸ List.mem_map_of_mem hp)
      simp [Act.put, hne, q3 p hp]
  refine wp_region_any hm (wpAny_ind (I := InvK ops (FS n ds fixed) kill C R) (fun _ _ _ h => h.size) ?_ ?_ _ _ _ _ ⟨by simp, hc, hf, fun j o _ hl => ?_, fun i o d _ hl _ _ => ?_⟩ ?_)
  · intro listed a w h hr
    have hall := ready_nil h.size hlow hr
    refine hend listed a w hall h.c h.f fun i o d ho hk hd => h.r i o d ho (hall i (Array.getElem?_eq_some_iff.1 ho).1) (fun j hj => ?_) hd
    rw [hk j] at hj; cases hj
  · intro listed a w h i hi o ho K hK
    obtain ⟨g1, g2, o', ho', hdep⟩ := ready_spec hi
    rw [ho] at ho'; cases ho'
    refine hob i o ho listed a w h.c h.size g2 h.closed h.f (fun e he hb hk oe d hoe hd => h.r e.on oe d hoe (hdep e he hb) hk hd) K fun v w' hv hc' hst => hK _ _ ⟨by simpa using h.size, hc', hF i o a v ho h.f, fun j oj hj hlj e he hb => ?_, fun j oj d hj hlj hkj hdj => ?_⟩
    · have up : listed.getD e.on false = true → (listed.setIfInBounds i true).getD e.on false = true := fun hl => by
        rw [Array.getD_eq_getD_getElem?, Array.getElem?_setIfInBounds]
        split
        · split <;> simp_all
        · rw [← Array.getD_eq_getD_getElem?]; exact hl
      by_cases hji : j = i
      · subst hji
        rw [ho] at hj; cases hj
        exact up (hdep e he hb)
      · rw [Array.getD_eq_getD_getElem?, Array.getElem?_setIfInBounds, if_neg (Ne.symm hji)] at hlj
        exact up (h.closed j oj hj (by rw [Array.getD_eq_getD_getElem?]; exact hlj) e he hb)
    by_cases hji : j = i
    · subst hji
      rw [ho] at hj; cases hj
      refine ⟨v, ?_, hv d hdj⟩
      rw [hdj]
      simp [Act.put, h.f.1, (hin ho hdj).1]
    · have hlj' : listed.getD j false = true := by
        rw [Array.getD_eq_getD_getElem?, Array.getElem?_setIfInBounds, if_neg (Ne.symm hji)] at hlj
        rw [Array.getD_eq_getD_getElem?]; exact hlj
      have hset : ∀ m, (listed.setIfInBounds i true).getD m true = false → m ≠ i ∧ listed.getD m true = false := fun m hm => by
        rw [Array.getD_eq_getD_getElem?, Array.getElem?_setIfInBounds] at hm
        by_cases e : m = i
        · subst e
          simp [h.size, g1] at hm
        · rw [if_neg (Ne.symm e)] at hm
          exact ⟨e, by rw [Array.getD_eq_getD_getElem?]; exact hm⟩
      obtain ⟨u, hu1, hu2⟩ := h.r j oj d hj hlj' (fun m hm => (hset m (hkj m hm)).2) hdj
      refine ⟨u, ?_, hst j u hji hlj' (by cases hki : kill j i with | false => rfl | true => exact absurd rfl (hset i (hkj i hki)).1) hu2⟩
      cases hod : o.dst with
      | none => exact hu1
      | some d' =>
        have hne : d' ≠ d := fun e => hdst j i oj o d hj ho hji hdj (by rw [hod, e])
        simp [Act.put, hne, hu1]
  · rw [Array.getD_eq_getD_getElem?, Array.getElem?_replicate] at hl
    split at hl <;> simp at hl
  · rw [Array.getD_eq_getD_getElem?, Array.getElem?_replicate] at hl
    split at hl <;> simp at hl
  · unfold unl
    exact Nat.le_trans List.countP_le_length (by simp)


/-- What an operation may lean on: what no append can have consumed. -/
def DepsF (F : Nat) (ops : Array Oper) (kill : Nat → Nat → Bool) (R : Nat → Value → World → Prop) (i : Nat) (o : Oper) (a : Act) (w : World) : Prop :=
  ∀ e ∈ o.after, Region.binds .any e = true → (∀ j, kill e.on j = true → ancB ops F i j = true) → ∀ (oe : Oper) (d : Tmp), ops[e.on]? = some oe → oe.dst = some d → ∃ v, a.tmps[d]? = some v ∧ R e.on v w
/-- The obligation of one operation. -/
def ObR (F : Nat) (P : Program) (ops : Array Oper) (n : Nat) (ds : List Deferred) (fixed : List (Tmp × Value)) (w0 : World) (specs : List SpecK) (apps : List Nat) (Q : Exit → Act → World → Prop) (i : Nat) : Prop :=
  ∀ o, ops[i]? = some o → ∀ a w, Below w0.heap.size w0 w → FS n ds fixed a → DepsF F ops (killK specs apps) (RK w0.heap.size specs) i o a w → ∀ K : Act → World → Prop,
    (∀ v w', RK w0.heap.size specs i v w' → (Below w.heap.size w w' ∨ apps.contains i = true ∧ Below w0.heap.size w w') → K (a.put o.dst v) w') →
    if Region.wanted o (yielded ops a.tmps) = true then o.wp P a w K Q else K (a.put o.dst undef) w

theorem dep_k {F : Nat} {ops : Array Oper} {specs : List SpecK} {apps : List Nat} {B0 i : Nat} {o : Oper} {a : Act} {w : World} (ho : ops[i]? = some o) (hd : DepsF F ops (killK specs apps) (RK B0 specs) i o a w) (j : Nat) (d : Tmp) (s : SpecK)
    (h1 : ((ops[i]?).map fun o => o.after.any fun e => Region.binds .any e && e.on == j) = some true) (h2 : ((ops[j]?).map (·.dst)) = some (some d)) (h3 : specs[j]? = some s) (h4 : (!s.mem || apps.all fun q => decide (q ≤ j) || ancB ops F i q) = true) : ∃ v, a.tmps[d]? = some v ∧ s.ok B0 v w := by
  have h5 := get_op (fun o => o.after.any fun e => Region.binds .any e && e.on == j) ho h1
  obtain ⟨e, he, hb⟩ := Array.any_eq_true'.1 h5
  rw [Bool.and_eq_true, beq_iff_eq] at hb
  cases hj : ops[j]? with
  | none => rw [hj] at h2; cases h2
  | some oj =>
    rw [hj] at h2
    obtain ⟨v, hv, hr⟩ := hd e he hb.1 (fun q hk => by
      unfold killK at hk
      rw [hb.2, h3, Bool.and_eq_true, Bool.and_eq_true, decide_eq_true_eq] at hk
      obtain ⟨hk1, hk2, hk3⟩ := hk
      rcases Bool.or_eq_true_iff.1 h4 with h | h
      · simp only at hk3
        rw [hk3] at h; cases h
      · rw [List.all_eq_true] at h
        have h6 := h q (by simpa using hk1)
        rcases Bool.or_eq_true_iff.1 h6 with h7 | h7
        · rw [decide_eq_true_eq] at h7; omega
        · exact h7) oj d (by rw [hb.2, hj]) (by simpa using h2)
    exact ⟨v, hv, hr s (by rw [hb.2]; exact h3)⟩
theorem end_k {ops : Array Oper} {specs : List SpecK} {apps : List Nat} {B0 : Nat} {a : Act} {w : World} (hr : ∀ (i : Nat) (o : Oper) (d : Tmp), ops[i]? = some o → (∀ j, killK specs apps i j = false) → o.dst = some d → ∃ v, a.tmps[d]? = some v ∧ RK B0 specs i v w) (i : Nat) (d : Tmp) (s : SpecK)
    (h2 : ((ops[i]?).map (·.dst)) = some (some d)) (h3 : specs[i]? = some s) (h4 : (!s.mem || apps.all fun q => decide (q ≤ i)) = true) : ∃ v, a.tmps[d]? = some v ∧ s.ok B0 v w := by
  cases hj : ops[i]? with
  | none => rw [hj] at h2; cases h2
  | some oj =>
    rw [hj] at h2
    obtain ⟨v, hv, h⟩ := hr i oj d hj (fun j => by
      unfold killK
      rw [h3]
      rcases Bool.or_eq_true_iff.1 h4 with h | h
      · cases hm : s.mem with
        | false => simp [hm]
        | true => rw [hm] at h; cases h
      · cases hc : apps.contains j with
        | false => rfl
        | true =>
          rw [List.all_eq_true] at h
          have h6 := h j (by simpa using hc)
          rw [decide_eq_true_eq] at h6
          rw [decide_eq_false (by omega)]; rfl) (by simpa using h2)
    exact ⟨v, hv, h s h3⟩

/-- A drawn region by obligations, its appends named. -/
theorem wp_region_k (F : Nat) {P : Program} {id n : Nat} {ops : Array Oper} {Q : Exit → Act → World → Prop} {a : Act} {w0 : World} {ds : List Deferred} {fixed : List (Tmp × Value)} {specs : List SpecK} {apps : List Nat} (hm : P.follows .mixedOrders = true)
    (hck : checksA ops n (fixed.map (·.1)) = true) (hap : apps.all (fun q => decide (q < ops.size) && (List.range ops.size).all fun j => decide (j ≤ q) || ancB ops F q j || match specs[j]? with | some s => !s.mem | none => true) = true) (hsp : specs.length = ops.size) (hf : FS n ds fixed a)
    (hob : ∀ i, i < ops.size → ObR F P ops n ds fixed w0 specs apps Q i)
    (hend : ∀ a w, Below w0.heap.size w0 w → FS n ds fixed a → (∀ (i : Nat) (o : Oper) (d : Tmp), ops[i]? = some o → (∀ j, killK specs apps i j = false) → o.dst = some d → ∃ v, a.tmps[d]? = some v ∧ RK w0.heap.size specs i v w) → Q .normal a w) : (Code.region id ops true).wp P Q a w0 := by
  rw [List.all_eq_true] at hap
  refine wp_region_killL (n := n) (ds := ds) (fixed := fixed) (kill := killK specs apps) (C := fun _ w => Below w0.heap.size w0 w) (R := RK w0.heap.size specs) hm hck hf ((Below.refl _ _).drew) (fun i o ho => ?_) ?_
  · intro listed a w hC hsl hl hcl hfs hd K hK
    have hi : i < ops.size := (Array.getElem?_eq_some_iff.1 ho).1
    refine hob i hi o ho a w hC hfs (fun e he hb hk oe d hoe hde => hd e he hb (fun j hj => ?_) oe d hoe hde) K fun v w' hR hw => ?_
    · cases hlj : listed.getD j true with
      | false => rfl
      | true =>
        have hj2 := hj
        unfold killK at hj2
        rw [Bool.and_eq_true] at hj2
        have h6 := hap j (by simpa using hj2.1)
        rw [Bool.and_eq_true, decide_eq_true_eq] at h6
        have h3 := ancB_listed hcl F i j (hk j hj) (by rw [getD_any (by omega) false true]; exact hlj)
        rw [getD_any (by omega) false true, hl] at h3
        cases h3
    · rcases hw with hw | ⟨hap', hw⟩
      · exact hK v w' (fun _ _ => hR) (below_then hC (Nat.le_refl _) hw) fun j u _ _ _ hr => hr.later hw hC.size
      · refine hK v w' (fun _ _ => hR) (hC.trans hw) fun j u hji hlj hkj hr => ?_
        intro s hs
        have h1 := hr s hs
        cases hmem : s.mem with
        | false =>
          cases s with
          | val u => exact h1
          | low p => obtain ⟨ys, h1, h2⟩ := h1; exact ⟨ys, h1.below hw, h2⟩
          | lst p => cases hmem
          | own ys => cases hmem
          | tab p => cases hmem
          | two n p => cases hmem
          | tri i n p => cases hmem
          | oth P hP => cases hmem
        | true =>
          exfalso
          have h6 := hap i (by simpa using hap')
          rw [Bool.and_eq_true, decide_eq_true_eq, List.all_eq_true] at h6
          have hjs : j < ops.size := by
            have := (List.getElem?_eq_some_iff.1 hs).1
            omega
          have h7 := h6.2 j (List.mem_range.2 hjs)
          rw [hs] at h7
          simp only [hmem, Bool.not_true, Bool.or_false] at h7
          rcases Bool.or_eq_true_iff.1 h7 with h8 | h8
          · rw [decide_eq_true_eq] at h8
            have : j < i := by omega
            unfold killK at hkj
            rw [hs, hap', decide_eq_true this] at hkj
            simp only [hmem] at hkj
            cases hkj
          · have h3 := ancB_listed hcl F i j h8 hlj
            rw [getD_any (by omega) false true, hl] at h3
            cases h3
  · intro listed a w _ hC hfs hr
    exact hend a w hC hfs hr

/-- An act, written out. -/
theorem act_fun {a : Act} {n : Nat} (hs : a.tmps.size = n) (hd : a.defers = []) : ∃ f : Nat → Value, (∀ i, i < n → a.tmps[i]? = some (f i)) ∧ a = ⟨((List.range n).map f).toArray, []⟩ := by
  refine ⟨fun i => (a.tmps[i]?).getD undef, fun i hi => by show _ = some ((a.tmps[i]?).getD undef); rw [Array.getElem?_eq_getElem (by omega)]; rfl, ?_⟩
  obtain ⟨ts, ds⟩ := a
  simp only at hs hd ⊢
  subst hd
  congr 1
  rw [← ts.toArray_toList]
  congr 1
  refine List.ext_getElem? fun i => ?_
  by_cases hi : i < n
  · rw [List.getElem?_map, List.getElem?_range hi, List.getElem?_eq_getElem (by simpa [hs] using hi)]
    simp [hs, hi]
  · rw [List.getElem?_eq_none (by simpa [hs] using hi), List.getElem?_eq_none (by simpa using hi)]
/-- A literal of integers. -/
theorem lit_k (w : World) (xs : List Int) (hl : xs.length ≤ 1000000) : Ints (w.alloc (.cells (xs.map (Value.int .i64)).toArray 3)) (w.alloc (.cells (xs.map (Value.int .i64)).toArray 3)).heap.size .i64 (.slice (some ⟨w.heap.size, 0, none⟩) xs.length xs.length) xs :=
  Ints.of_own (own_new w 3 xs hl)
section
variable {P : Program} {o : Oper} {a : Act} {X : World} {K : Act → World → Prop} {Q : Exit → Act → World → Prop}
/-- append(v, u..) behind a row of the call's own. -/
theorem ob_app_ints {T e : TypeId} {i0 : TypeInfo} (s x : Operand)
    (ho : o.op = .call { callee := .builtin .append, args := #[s, x], argTypes := #[T, T] }) (ht : P.underlying T = some (.slice e)) (hi : P.info? e = some i0) (hz : i0.zero = some (.int .i64 0)) (h1 : i0.size = 1) (h2 : i0.bytes = 8)
    (B base : Nat) (v : Value) (acc : List Int) (u : Value) (ys : List Int) (hs : a.eval s = v) (hown : X.ownsRow base e 1 v acc.length (acc.map (Value.int .i64))) (hx : a.eval x = u) (hu : Ints X B .i64 u ys) (hl : acc.length + ys.length ≤ 1000000) (hb : base ≤ X.heap.size)
    (h : ∀ v' w', w'.ownsRow base e 1 v' (acc ++ ys).length ((acc ++ ys).map (Value.int .i64)) → X.grownBy w' v.ownBlock → K (a.put o.dst v') w') : o.wp P a X K Q := by
  obtain ⟨A, c, rfl, hc1, hc2, hA, hcell⟩ := hu
  cases A with
  | none =>
    obtain rfl : c = 0 := hA rfl
    obtain rfl : ys = [] := List.eq_nil_of_length_eq_zero (by omega)
    have hr := run_append_none (P := P) (ty := o.type) ht hi hown
    have h3 := h v X (by simpa using hown) (grown_refl X _)
    unfold Oper.wp execOp
    simp only [ho, resolve, invoke, builtin, Sem.run_bind, Sem.run_pure, Result.andThen_ok, List.map_toArray, List.map_cons, List.map_nil, hs, hx, List.length_nil, hr]
    exact h3
  | some ad =>
    refine wp_append_own X s x T ho base e i0 (.int .i64 0) 1 8 ht hi hz h1 h2 rfl (by omega) v acc.length _ hs hown ad ys.length c (ys.map (Value.int .i64)) hx (by simp) ?_ ?_ (by unfold maxLen; omega) (by omega) hb ?_
    · intro i y hi
      rw [List.getElem?_map] at hi
      cases hy : ys[i]? with
      | none => rw [hy] at hi; cases hi
      | some z =>
        rw [hy] at hi
        cases hi
        obtain ⟨ad', e1, _, e2⟩ := hcell i z hy
        cases e1; exact e2
    · intro q hq
      obtain ⟨y, _, rfl⟩ := List.mem_map.1 hq
      rfl
    · intro v' w' p q r
      exact h v' w' (by simpa using p) q
theorem ob_run5 {v : Value} {w' : World} (hr : (execOp a.eval o).run P X = .ok (.value v) w') (h : K (a.put o.dst v) w') : o.wp P a X K Q := by
  unfold Oper.wp
  rw [hr]
  exact h
theorem ob_extract {x : Operand} {k : Nat} {vs : Array Value} {u : Value} (ho : o.op = .extract x k) (hx : a.eval x = .tuple vs) (hu : vs[k]? = some u) (h : K (a.put o.dst u) X) : o.wp P a X K Q := by
  unfold Oper.wp execOp
  rw [ho]
  simp only [hx, Instr.extract, hu]
  exact h
end
end Go.Proofs.YtikcfoobfobmnaaGreatDoor
/-
  A part of a slice of integers: what it reads as, and the obligation of the operation in a drawn region.
-/
namespace Go.Proofs.YtikcfoobfobmnaaGreatDoor
open Go.RowKit

/-- The value of v[l:h]. -/
def partV (A : Option Addr) (l h c : Nat) : Value := .slice (if c = l then A else A.map (·.add (l * 1))) (h - l) (c - l)
theorem ints_part {w : World} {B : Nat} {k : IntKind} {A : Option Addr} {c : Nat} {xs : List Int} {n l h : Nat} (hi : Ints w B k (.slice A n c) xs) (hl : l ≤ h) (hh : h ≤ xs.length) : Ints w B k (partV A l h c) ((xs.take h).drop l) := by
  obtain ⟨A', c', e, h1, h2, h3, h4⟩ := hi
  cases e
  have hn : ((xs.take h).drop l).length = h - l := by rw [List.length_drop, List.length_take, Nat.min_eq_left hh]
  refine ⟨_, _, by unfold partV; rw [hn], by omega, by omega, fun h0 => ?_, fun i x hx => ?_⟩
  · split at h0
    · omega
    · cases A with
      | none => have := h3 rfl; omega
      | some a => cases h0
  · rw [List.getElem?_drop, List.getElem?_take] at hx
    split at hx
    · rename_i hlt
      obtain ⟨ad, rfl, hb, hc⟩ := h4 (l + i) x hx
      have := (List.getElem?_eq_some_iff.1 hx).1
      rw [if_neg (by omega)]
      refine ⟨ad.add (l * 1), rfl, by rw [block_of_add]; exact hb, ?_⟩
      rw [Go.Deep.add_add, Nat.mul_one]; exact hc
    · cases hx
section
variable {o : Oper} {a : Act} {w : World} {K : Act → World → Prop} {Q : Exit → Act → World → Prop} {x y : Operand} {A : Option Addr} {n c : Nat} {k : Int}
theorem run_int1 (w : World) : (sizeOf (Tryz.prog.elem 22)).run Tryz.prog w = .ok 1 w := by kernel_rfl
theorem ob_slice_h (ho : o.op = .slice 22 x none (some y) none) (hx : a.eval x = .slice A n c) (hy : a.eval y = .int .i64 k) (h0 : 0 ≤ k) (h1 : k ≤ c) (h : K (a.put o.dst (partV A 0 k.toNat c)) w) : o.wp Tryz.prog a w K Q := by
  have hu : Tryz.prog.underlying 22 = some (.slice (Tryz.prog.elem 22)) := by kernel_rfl
  have hr : (Instr.sliceAt 22 (.slice A n c) none (some (.int .i64 k)) none).run Tryz.prog w = .ok (partV A 0 k.toNat c) w := by
    rw [run_sliceAt_slice (h := hu), run_slice_h (ht := hu) (h0 := h0) (h2 := h1), run_int1]; rfl
  unfold Oper.wp execOp
  rw [ho]
  simp only [hx, hy, Option.map_none, Option.map_some, Sem.run_bind, hr, Result.andThen_ok, Sem.run_pure]
  exact h
theorem ob_slice_l (ho : o.op = .slice 22 x (some y) none none) (hx : a.eval x = .slice A n c) (hy : a.eval y = .int .i64 k) (h0 : 0 ≤ k) (h1 : k ≤ n) (h : K (a.put o.dst (partV A k.toNat n c)) w) : o.wp Tryz.prog a w K Q := by
  have hu : Tryz.prog.underlying 22 = some (.slice (Tryz.prog.elem 22)) := by kernel_rfl
  have hr : (Instr.sliceAt 22 (.slice A n c) (some (.int .i64 k)) none none).run Tryz.prog w = .ok (partV A k.toNat n c) w := by
    rw [run_sliceAt_slice (h := hu), run_slice_l (ht := hu) (h0 := h0) (h1 := h1), run_int1]; rfl
  unfold Oper.wp execOp
  rw [ho]
  simp only [hx, hy, Option.map_none, Option.map_some, Sem.run_bind, hr, Result.andThen_ok, Sem.run_pure]
  exact h
end
end Go.Proofs.YtikcfoobfobmnaaGreatDoor
/-
  A list of integers is appended to an own row: the row stays where it is, or moves to a new block.
-/
namespace Go.Proofs.YtikcfoobfobmnaaGreatDoor
open Go.RowKit

/-- The blocks that a value owns. -/
def ownS (v : Value) : List Nat := match v.ownBlock with | some g => [g] | none => []
/-- From v in w to v' in w': nothing but v's row and new blocks. -/
def Gr (w : World) (v : Value) (w' : World) (v' : Value) : Prop := onlyIn (ownS v) w w' ∧ (v'.ownBlock = v.ownBlock ∨ ∀ g, v'.ownBlock = some g → w.heap.size ≤ g)
theorem Gr.refl (w : World) (v : Value) : Gr w v w v := ⟨onlyIn.refl _ _, .inl rfl⟩
theorem mem_ownS {v : Value} {k : Nat} : k ∈ ownS v ↔ v.ownBlock = some k := by
  unfold ownS
  cases v.ownBlock with
  | none => simp
  | some g => simp [eq_comm]
theorem Gr.trans {a b c : World} {u v x : Value} (h : Gr a u b v) (k : Gr b v c x) : Gr a u c x := by
  refine ⟨?_, ?_⟩
  · obtain ⟨⟨h1, h2, h3, h4, h5⟩, h6⟩ := h
    obtain ⟨⟨k1, k2, k3, k4, k5⟩, _⟩ := k
    refine ⟨k1.trans h1, k2.trans h2, k3.trans h3, Nat.le_trans h4 k4, fun q hq hl => ?_⟩
    rw [k5 q ?_ (by omega)]
    · exact h5 q hq hl
    · rw [mem_ownS]
      intro he
      rcases h6 with h6 | h6
      · rw [h6] at he; exact hq (mem_ownS.2 he)
      · have := h6 q he; omega
  · rcases k.2 with k2 | k2
    · rcases h.2 with h2 | h2
      · exact .inl (k2.trans h2)
      · exact .inr fun g hg => h2 g (k2 ▸ hg)
    · exact .inr fun g hg => Nat.le_trans h.1.2.2.2.1 (k2 g hg)
/-- New blocks, the row as it is. -/
theorem Gr.of_below {w w' : World} {v : Value} (h : Below w.heap.size w w') : Gr w v w' v := ⟨onlyIn.of_below h, .inl rfl⟩
theorem Gr.below {w w' : World} {u v : Value} {B : Nat} (h : Gr w u w' v) (hB : ∀ g, u.ownBlock = some g → B ≤ g) (hs : B ≤ w.heap.size) : Below B w w' :=
  h.1.below (fun x hx => hB x (mem_ownS.1 hx)) hs
theorem own_base {w : World} {base : Nat} {e : TypeId} {size n : Nat} {v : Value} {xs : List Value} (h : w.ownsRow base e size v n xs) : ∀ g, v.ownBlock = some g → base ≤ g ∧ g < w.heap.size := by
  intro g hg
  rcases h.2 with ⟨rfl, _⟩ | ⟨g', cap, cur, rfl, h1, h2, _⟩
  · cases hg
  · simp only [Value.ownBlock, Option.some.injEq] at hg
    subst hg
    refine ⟨h1, ?_⟩
    cases hl : decide (g' < w.heap.size) with
    | true => simpa using hl
    | false => rw [decide_eq_false_iff_not] at hl; rw [Array.getElem?_eq_none (by omega)] at h2; cases h2
theorem Gr.blk {w w' : World} {u v : Value} {b : Nat} {t : TypeId} {cs : Array Value} (h : Gr w u w' v) (hb : Blk w b t cs) (hn : u.ownBlock ≠ some b) : Blk w' b t cs := h.1.blk hb fun hx => hn (mem_ownS.1 hx)

theorem append_stays {P : Program} {w : World} {t ty e : TypeId} {i : TypeInfo} (ht : P.underlying t = some (.slice e)) (hi : P.info? e = some i) (hz : i.zero = some (.int .i64 0)) (hs : i.size = 1) (hby : i.bytes = 8)
    {base : Nat} {v : Value} {n : Nat} {xs : List Value} (hown : w.ownsRow base e 1 v n xs) {ad : Addr} {m c : Nat} {news : List Value} (hl : news.length = m) (hnews : ∀ j u, news[j]? = some u → w.cell? (ad.add j) = some u) (h1 : ∀ u ∈ news, u.oneCell' = true)
    (h63 : n + m ≤ 1000000) {v' : Value} {w' : World} (hr : (Builtin.append_ #[t, t] ty #[v, .slice (some ad) m c]).run P w = .ok v' w') : v'.ownBlock = v.ownBlock ∨ ∀ g, v'.ownBlock = some g → w.heap.size ≤ g := by
  have h63' : n + m ≤ maxLen := by unfold maxLen; omega
  rcases hown.2 with ⟨rfl, rfl⟩ | ⟨g, cap, cur, rfl, hbg, hg, hnc, hcm, hcs, htake⟩
  · have hx : xs = [] := List.eq_nil_of_length_eq_zero (by simpa using hown.1)
    subst hx
    obtain ⟨v2, w2, e2, ho2, _⟩ := run_append_own (P := P) w w.heap.size t ty e i (.int .i64 0) 1 8 ht hi hz hs hby rfl (by omega) (.slice none 0 0) 0 [] (World.ownsRow_nil _ _ _ _) ad m c news (by omega) hnews h1 h63' (by omega) (Nat.le_refl _)
    rw [hr] at e2; cases e2
    exact .inr fun g hg => (own_base ho2 g hg).1
  · by_cases hroom : n + m ≤ cap
    · have e2 := run_append_room (P := P) w t ty e i ht hi g n cap cur hg ad m c news (by rw [hs]; omega) hnews h1 hroom (by rw [hs, hcs]; omega)
      rw [hr] at e2; cases e2
      exact .inl rfl
    · obtain ⟨v2, w2, e2, ho2, _⟩ := run_append_arg_grows (P := P) w t ty e i (.int .i64 0) 1 8 ht hi hz hs hby rfl (by omega) ⟨g, 0, none⟩ n cap xs hown.1 (hown.cells (g := g) rfl) ad m c news (by omega) hnews (by omega) h63' (by omega)
      rw [hr] at e2; cases e2
      exact .inr fun q hq => (own_base ho2 q hq).1

/-- append(v, u...): the row stays, or is a new one. -/
theorem wpList_append_gr {P : Program} {ops : Array Oper} {rest : List Oper} {o : Oper} {a : Act} {w : World} {Q : Exit → Act → World → Prop} {T e : TypeId} {i0 : TypeInfo} (hw : Region.wanted o (yielded ops a.tmps) = true) (s x : Operand)
    (ho : o.op = .call { callee := .builtin .append, args := #[s, x], argTypes := #[T, T] }) (ht : P.underlying T = some (.slice e)) (hi : P.info? e = some i0) (hz : i0.zero = some (.int .i64 0)) (h1 : i0.size = 1) (h2 : i0.bytes = 8)
    (B base : Nat) (v : Value) (acc : List Int) (u : Value) (ys : List Int) (hs : a.eval s = v) (hown : w.ownsRow base e 1 v acc.length (acc.map (Value.int .i64))) (hx : a.eval x = u) (hu : Ints w B .i64 u ys) (hl : acc.length + ys.length ≤ 1000000) (hb : base ≤ w.heap.size)
    (h : ∀ v' w', w'.ownsRow base e 1 v' (acc ++ ys).length ((acc ++ ys).map (Value.int .i64)) → Gr w v w' v' → wpList P ops Q rest (a.put o.dst v') w') : wpList P ops Q (o :: rest) a w := by
  refine wpList_step fun K hK => ?_
  rw [if_pos hw]
  obtain ⟨A, c, rfl, hc1, hc2, hA, hcell⟩ := hu
  cases A with
  | none =>
    obtain rfl : c = 0 := hA rfl
    obtain rfl : ys = [] := List.eq_nil_of_length_eq_zero (by omega)
    have hr := run_append_none (P := P) (ty := o.type) ht hi hown
    have h3 := hK _ _ (h v w (by simpa using hown) (Gr.refl _ _))
    unfold Oper.wp execOp
    simp only [ho, resolve, invoke, builtin, Sem.run_bind, Sem.run_pure, Result.andThen_ok, List.map_toArray, List.map_cons, List.map_nil, hs, hx, List.length_nil, hr]
    exact h3
  | some ad =>
    have hnews : ∀ (j : Nat) (q : Value), (ys.map (Value.int .i64))[j]? = some q → w.cell? (ad.add j) = some q := by
      intro j q hq
      rw [List.getElem?_map] at hq
      cases hy : ys[j]? with
      | none => rw [hy] at hq; cases hq
      | some y =>
        rw [hy] at hq; cases hq
        obtain ⟨ad', e1, _, e2⟩ := hcell j y hy
        cases e1; exact e2
    have hone : ∀ q ∈ ys.map (Value.int .i64), q.oneCell' = true := by
      intro q hq
      obtain ⟨y, _, rfl⟩ := List.mem_map.1 hq
      rfl
    obtain ⟨v', w', hr, ho', hg', _⟩ := run_append_own (P := P) w base T o.type e i0 (.int .i64 0) 1 8 ht hi hz h1 h2 rfl (by omega) v acc.length _ hown ad ys.length c (ys.map (Value.int .i64)) (by simp) hnews hone (by unfold maxLen; omega) (by omega) hb
    have hst := append_stays (P := P) (ty := o.type) ht hi hz h1 h2 hown (c := c) (m := ys.length) (by simp) hnews hone hl hr
    have h3 := hK _ _ (h v' w' (by simpa using ho') ⟨onlyIn.of_own hg' fun g hg => mem_ownS.2 hg, hst⟩)
    unfold Oper.wp execOp
    simp only [ho, resolve, invoke, builtin, Sem.run_bind, Sem.run_pure, Result.andThen_ok, List.map_toArray, List.map_cons, List.map_nil, hs, hx, hr]
    exact h3
end Go.Proofs.YtikcfoobfobmnaaGreatDoor
/-
  Slices of slices of integers: one that is read, and a row of the call's own to which slices are appended.
-/
namespace Go.Proofs.YtikcfoobfobmnaaGreatDoor
open Go.RowKit

/-- The slice value v holds slices that read as the lists yss; all cells lie below block B. -/
def Lists (w : World) (B : Nat) (v : Value) (yss : List (List Int)) : Prop :=
  ∃ A c, v = .slice A yss.length c ∧ yss.length ≤ c ∧ c ≤ maxLen ∧ (A = none → c = 0) ∧
    ∀ i ys, yss[i]? = some ys → ∃ ad u, A = some ad ∧ ad.block < B ∧ w.cell? (ad.add i) = some u ∧ Ints w B .i64 u ys
section
variable {w w' : World} {B B' : Nat} {v : Value} {yss : List (List Int)}
theorem Lists.keep (h : Lists w B v yss) (hk : ∀ p : Addr, p.block < B → w'.cell? p = w.cell? p) : Lists w' B v yss := by
  obtain ⟨A, c, hv, h1, h2, h3, h4⟩ := h
  refine ⟨A, c, hv, h1, h2, h3, fun i x hi => ?_⟩
  obtain ⟨ad, u, e, hb, c0, hi'⟩ := h4 i x hi
  exact ⟨ad, u, e, hb, (hk _ (by rw [block_of_add]; exact hb)).trans c0, hi'.keep hk⟩
theorem Lists.more (h : Lists w B v yss) (hB : B ≤ B') : Lists w B' v yss := by
  obtain ⟨A, c, hv, h1, h2, h3, h4⟩ := h
  refine ⟨A, c, hv, h1, h2, h3, fun i x hi => ?_⟩
  obtain ⟨ad, u, e, hb, c0, hi'⟩ := h4 i x hi
  exact ⟨ad, u, e, by omega, c0, hi'.more hB⟩
theorem Lists.below (h : Lists w B v yss) (hb : Below B w w') : Lists w' B v yss := h.keep fun _ hp => hb.cell hp
theorem Lists.later (h : Lists w w.heap.size v yss) (hb : Below w.heap.size w w') : Lists w' w'.heap.size v yss := (h.below hb).more hb.size
theorem Lists.none_ : Lists w B (.slice none 0 0) [] := ⟨none, 0, rfl, Nat.le_refl _, Nat.zero_le _, fun _ => rfl, fun _ _ h => by simp at h⟩
/-- What stands at place i. -/
theorem Lists.at_ (h : Lists w B v yss) {i : Nat} {ys : List Int} (hi : yss[i]? = some ys) : ∃ A c ad A' c', v = .slice A yss.length c ∧ A = some ad ∧ ad.block < B ∧ w.cell? (ad.add i) = some (.slice A' ys.length c') ∧ Ints w B .i64 (.slice A' ys.length c') ys := by
  obtain ⟨A, c, hv, _, _, _, h4⟩ := h
  obtain ⟨ad, u, e, hb, c0, hi'⟩ := h4 i ys hi
  obtain ⟨A', c', rfl, _⟩ := id hi'
  exact ⟨A, c, ad, A', c', hv, e, hb, c0, hi'⟩
end

/-- A row of the call's own that holds slices; none of them lies in the row itself. -/
def LRow (w : World) (base : Nat) (v : Value) (yss : List (List Int)) : Prop :=
  ∃ vs : List Value, vs.length = yss.length ∧ w.ownsRow base 22 1 v yss.length vs ∧
    ∀ (i : Nat) (u : Value) (ys : List Int), vs[i]? = some u → yss[i]? = some ys → ∃ A c, u = .slice A ys.length c ∧ Ints w w.heap.size .i64 u ys ∧ ∀ ad, A = some ad → ad.block < w.heap.size ∧ v.ownBlock ≠ some ad.block
section
variable {w w' : World} {base : Nat} {v : Value} {yss : List (List Int)}
theorem LRow.nil (w : World) (base : Nat) : LRow w base (.slice none 0 0) [] := ⟨[], rfl, World.ownsRow_nil _ _ _ _, fun i u ys h => by simp at h⟩
theorem LRow.shape (h : LRow w base v yss) : ∃ A c, v = .slice A yss.length c := by
  obtain ⟨vs, _, ho, _⟩ := h
  rcases ho.2 with ⟨rfl, h0⟩ | ⟨g, cap, cur, rfl, _⟩
  · exact ⟨none, 0, by rw [h0]⟩
  · exact ⟨_, _, rfl⟩
theorem LRow.later (h : LRow w base v yss) (hb : Below w.heap.size w w') : LRow w' base v yss := by
  obtain ⟨vs, hl, ho, hr⟩ := h
  refine ⟨vs, hl, own_later ho hb, fun i u ys hi hy => ?_⟩
  obtain ⟨A, c, e, hi', hd⟩ := hr i u ys hi hy
  exact ⟨A, c, e, hi'.later hb, fun ad ha => ⟨Nat.lt_of_lt_of_le (hd ad ha).1 hb.size, (hd ad ha).2⟩⟩
/-- The row, read. -/
theorem LRow.lists (h : LRow w base v yss) : Lists w w.heap.size v yss := by
  obtain ⟨vs, hl, ho, hr⟩ := h
  rcases ho.2 with ⟨rfl, h0⟩ | ⟨g, cap, cur, rfl, hbg, hgg, hnc, hcm, hcs, htake⟩
  · obtain rfl : yss = [] := List.eq_nil_of_length_eq_zero h0
    exact Lists.none_
  · refine ⟨_, _, rfl, hnc, hcm, (by simp), fun i ys hi => ?_⟩
    obtain ⟨u, hu⟩ : ∃ u, vs[i]? = some u := ⟨_, List.getElem?_eq_getElem (by rw [hl]; exact (List.getElem?_eq_some_iff.1 hi).1)⟩
    obtain ⟨A, c, rfl, hi', _⟩ := hr i u ys hu hi
    exact ⟨_, _, rfl, (own_base ho g rfl).2, ho.cells (g := g) rfl i _ hu, hi'⟩
theorem ints_far {w w' : World} {v : Value} {v' u : Value} {A : Option Addr} {c : Nat} {ys : List Int} (hg : Gr w v w' v') (hi : Ints w w.heap.size .i64 u ys) (hu : u = .slice A ys.length c) (hd : ∀ ad, A = some ad → v.ownBlock ≠ some ad.block) : Ints w' w'.heap.size .i64 u ys := by
  obtain ⟨A', c', e, h1, h2, h3, h4⟩ := hi
  rw [e] at hu; cases hu
  refine ⟨A, c, e, h1, h2, h3, fun i x hx => ?_⟩
  obtain ⟨ad, e2, hb, hc⟩ := h4 i x hx
  refine ⟨ad, e2, Nat.lt_of_lt_of_le hb hg.1.2.2.2.1, ?_⟩
  rw [← hc]
  exact World.cell?_of_block (by rw [block_of_add]; exact hg.1.2.2.2.2 _ (fun hm => hd ad e2 (mem_ownS.1 hm)) hb)
/-- A slice has been appended. -/
theorem LRow.push (h : LRow w base v yss) {v' : Value} {A : Option Addr} {c : Nat} {ys : List Int} (hg : Gr w v w' v') (ho : ∀ ws : List Value, w.ownsRow base 22 1 v yss.length ws → w'.ownsRow base 22 1 v' (yss.length + 1) (ws ++ [.slice A ys.length c]))
    (hu : Ints w w.heap.size .i64 (.slice A ys.length c) ys) (hd : ∀ ad, A = some ad → ad.block < w.heap.size ∧ v.ownBlock ≠ some ad.block) : LRow w' base v' (yss ++ [ys]) := by
  obtain ⟨ws, hl, ho0, hr⟩ := h
  have hsz := hg.1.2.2.2.1
  have hne : ∀ (A : Option Addr), (∀ ad, A = some ad → ad.block < w.heap.size ∧ v.ownBlock ≠ some ad.block) → ∀ ad, A = some ad → ad.block < w'.heap.size ∧ v'.ownBlock ≠ some ad.block := fun A h1 ad ha => by
    refine ⟨by have := (h1 ad ha).1; omega, fun he => ?_⟩
    rcases hg.2 with h3 | h3
    · rw [h3] at he; exact (h1 ad ha).2 he
    · have := h3 _ he
      have := (h1 ad ha).1
      omega
  refine ⟨ws ++ [.slice A ys.length c], by simp [hl], by simpa using ho ws ho0, fun i u zs hi hz => ?_⟩
  by_cases hlt2 : i < yss.length
  · rw [List.getElem?_append_left (by omega)] at hi hz
    obtain ⟨A2, c2, e2, h2, h3⟩ := hr i u zs hi hz
    exact ⟨A2, c2, e2, ints_far hg h2 e2 fun ad ha => (h3 ad ha).2, hne A2 h3⟩
  · rw [List.getElem?_append_right (by omega)] at hi hz
    have hi0 : i - yss.length = 0 := by
      have := (List.getElem?_eq_some_iff.1 hz).1
      simp at this; omega
    rw [hi0] at hz
    rw [hl, hi0] at hi
    simp at hi hz
    subst hi hz
    exact ⟨A, c, rfl, ints_far hg hu rfl fun ad ha => (hd ad ha).2, hne A hd⟩
end
/-- append(v, u): one slice onto a row of slices. -/
theorem wpList_append_slice {P : Program} {ops : Array Oper} {rest : List Oper} {o : Oper} {a : Act} {w : World} {Q : Exit → Act → World → Prop} {T : TypeId} {i0 : TypeInfo} (hw : Region.wanted o (yielded ops a.tmps) = true) (s x : Operand)
    (ho : o.op = .call { callee := .builtin .append, args := #[s, x], argTypes := #[T, T] }) (ht : P.underlying T = some (.slice 22)) (hi : P.info? 22 = some i0) (hz : i0.zero = some (.slice none 0 0)) (h1 : i0.size = 1) (h2 : i0.bytes = 24)
    (base : Nat) (v : Value) (yss : List (List Int)) (ad : Addr) (A : Option Addr) (c : Nat) (ys : List Int) (hs : a.eval s = v) (hown : LRow w base v yss) (hx : a.eval x = .slice (some ad) 1 1) (hc : w.cell? ad = some (.slice A ys.length c))
    (hu : Ints w w.heap.size .i64 (.slice A ys.length c) ys) (hd : ∀ ad, A = some ad → ad.block < w.heap.size ∧ v.ownBlock ≠ some ad.block) (hl : yss.length ≤ 1000000) (hb : base ≤ w.heap.size)
    (h : ∀ v' w', LRow w' base v' (yss ++ [ys]) → Gr w v w' v' → wpList P ops Q rest (a.put o.dst v') w') : wpList P ops Q (o :: rest) a w := by
  refine wpList_step fun K hK => ?_
  rw [if_pos hw]
  obtain ⟨ws, hwl, hown0, _⟩ := id hown
  have hnews : ∀ (j : Nat) (q : Value), [Value.slice A ys.length c][j]? = some q → w.cell? (ad.add j) = some q := by
    intro j q hq
    cases j with
    | zero => simp at hq; subst hq; rw [← hc]; simp [Addr.add]
    | succ j => simp at hq
  have hone : ∀ q ∈ [Value.slice A ys.length c], q.oneCell' = true := by intro q hq; simp at hq; subst hq; rfl
  obtain ⟨v', w', hr, ho', hg', _⟩ := run_append_own (P := P) w base T o.type 22 i0 (.slice none 0 0) 1 24 ht hi hz h1 h2 rfl (by omega) v yss.length ws hown0 ad 1 1 [.slice A ys.length c] (by simp) hnews hone (by unfold maxLen; omega) (by omega) hb
  have hst : v'.ownBlock = v.ownBlock ∨ ∀ g, v'.ownBlock = some g → w.heap.size ≤ g := by
    have h63' : yss.length + 1 ≤ maxLen := by unfold maxLen; omega
    rcases hown0.2 with ⟨rfl, h0⟩ | ⟨g, cap, cur, rfl, hbg, hg, hnc, hcm, hcs, htake⟩
    · have hx : ws = [] := List.eq_nil_of_length_eq_zero (by omega)
      obtain ⟨v2, w2, e2, ho2, _⟩ := run_append_own (P := P) w w.heap.size T o.type 22 i0 (.slice none 0 0) 1 24 ht hi hz h1 h2 rfl (by omega) (.slice none 0 0) 0 [] (World.ownsRow_nil _ _ _ _) ad 1 1 [.slice A ys.length c] (by simp) hnews hone (by unfold maxLen; omega) (by omega) (Nat.le_refl _)
      rw [hr] at e2; cases e2
      exact .inr fun g hg => (own_base ho2 g hg).1
    · by_cases hroom : yss.length + 1 ≤ cap
      · have e2 := run_append_room (P := P) w T o.type 22 i0 ht hi g yss.length cap cur hg ad 1 1 [.slice A ys.length c] (by simp [h1]) hnews hone hroom (by rw [h1, hcs]; simp; omega)
        rw [hr] at e2; cases e2
        exact .inl rfl
      · obtain ⟨v2, w2, e2, ho2, _⟩ := run_append_arg_grows (P := P) w T o.type 22 i0 (.slice none 0 0) 1 24 ht hi hz h1 h2 rfl (by omega) ⟨g, 0, none⟩ yss.length cap ws hown0.1 (hown0.cells (g := g) rfl) ad 1 1 [.slice A ys.length c] (by simp) hnews (by omega) h63' (by omega)
        rw [hr] at e2; cases e2
        exact .inr fun q hq => (own_base ho2 q hq).1
  have hG : Gr w v w' v' := ⟨onlyIn.of_own hg' fun g hg => mem_ownS.2 hg, hst⟩
  have h3 := hK _ _ (h v' w' (hown.push hG (fun ws2 ho2 => by
    obtain ⟨v3, w3, hr3, ho3, _⟩ := run_append_own (P := P) w base T o.type 22 i0 (.slice none 0 0) 1 24 ht hi hz h1 h2 rfl (by omega) v yss.length ws2 ho2 ad 1 1 [.slice A ys.length c] (by simp) hnews hone (by unfold maxLen; omega) (by omega) hb
    rw [hr] at hr3; cases hr3
    exact ho3) hu hd) hG)
  unfold Oper.wp execOp
  simp only [ho, resolve, invoke, builtin, Sem.run_bind, Sem.run_pure, Result.andThen_ok, List.map_toArray, List.map_cons, List.map_nil, hs, hx, hr]
  exact h3
/-- A literal of slices. -/
theorem lists_lit (w : World) (vs : List Value) (yss : List (List Int)) (hl : vs.length = yss.length) (h1 : yss.length ≤ 1000) (h : ∀ (i : Nat) (u : Value) (ys : List Int), vs[i]? = some u → yss[i]? = some ys → Ints w w.heap.size .i64 u ys) :
    Lists (w.alloc (.cells vs.toArray 22)) (w.alloc (.cells vs.toArray 22)).heap.size (.slice (some ⟨w.heap.size, 0, none⟩) vs.length vs.length) yss := by
  have hb : Below w.heap.size w (w.alloc (.cells vs.toArray 22)) := (Below.refl _ _).alloc (Nat.le_refl _) _
  refine ⟨_, _, by rw [hl], by omega, by unfold maxLen; omega, (by simp), fun i ys hi => ?_⟩
  obtain ⟨u, hu⟩ : ∃ u, vs[i]? = some u := ⟨_, List.getElem?_eq_getElem (by rw [hl]; exact (List.getElem?_eq_some_iff.1 hi).1)⟩
  refine ⟨_, u, rfl, by simp, ?_, (h i u ys hu hi).later hb⟩
  exact cells_new w vs 22 i u hu
end Go.Proofs.YtikcfoobfobmnaaGreatDoor
