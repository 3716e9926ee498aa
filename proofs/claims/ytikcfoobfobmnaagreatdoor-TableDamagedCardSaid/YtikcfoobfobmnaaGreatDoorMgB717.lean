/-
  Merged texts: lemmas and walks that the last text of this claim leans on.
-/
import Derived.Test.YtikcfoobfobmnaaGreatDoorMgB716
import Derived.Test.YtikcfoobfobmnaaGreatDoorMgB76
import Derived.Test.YtikcfoobfobmnaaGreatDoorMgB71
import Derived.Shelf.Abstract
/-
  The obligations of single operations: moves, loads of tables, calls, comparisons, picks.
-/
namespace Go.Proofs.YtikcfoobfobmnaaGreatDoor
open Go.RowKit ND

section
variable {P : Program} {o : Oper} {a : Act} {w : World} {K : Act → World → Prop} {Q : Exit → Act → World → Prop}
theorem ob_move {x : Operand} {v : Value} (ho : o.op = .move x) (hv : a.eval x = v) (h : K (a.put o.dst v) w) : o.wp P a w K Q := by
  unfold Oper.wp execOp
  rw [ho]
  simp only [hv]
  exact h
theorem ob_assign {x : Operand} {v : Value} (ho : o.op = .assign x) (hv : a.eval x = v) (h : K (a.put o.dst v) w) : o.wp P a w K Q := by
  unfold Oper.wp execOp
  rw [ho]
  simp only [hv]
  exact h
theorem ob_pick {c x y : Operand} {b : Bool} {v : Value} (ho : o.op = .pick c x y) (hc : a.eval c = .bool b) (hx : a.eval (if b then x else y) = v) (h : K (a.put o.dst v) w) : o.wp P a w K Q := by
  unfold Oper.wp execOp
  rw [ho]
  subst hx
  cases b <;> simpa [hc, asBool, Oper.upon] using h
theorem ob_not {t : TypeId} {x : Operand} {b : Bool} (ho : o.op = .unOp .not t x) (hx : a.eval x = .bool b) (h : K (a.put o.dst (.bool (!b))) w) : o.wp P a w K Q := by
  unfold Oper.wp execOp
  rw [ho]
  simpa [hx, Op.unary, Oper.upon] using h
theorem ob_enter {f : FuncId} {vs : Array Value} {post : Ending → World → Prop} (hr : (execOp a.eval o).run P w = .ok (.enter f vs) w) (hc : Calls P f vs w post) (h : ∀ e w', post e w' → ∃ v, e = .returned v ∧ K (a.put o.dst v) w') : o.wp P a w K Q := by
  unfold Oper.wp
  rw [hr]
  refine Calls.mono hc fun e w' hp => ?_
  obtain ⟨v, rfl, hk⟩ := h e w' hp
  exact hk
theorem ob_value {v : Value} (hr : (execOp a.eval o).run P w = .ok (.value v) w) (h : K (a.put o.dst v) w) : o.wp P a w K Q := by
  unfold Oper.wp
  rw [hr]
  exact h
theorem wanted_none (ops : Array Oper) (hg : o.guard = none) : Region.wanted o (yielded ops a.tmps) = true := by simp [Region.wanted, hg]
theorem wanted_some (ops : Array Oper) {g : Nat} {b : Bool} {og : Oper} {d : Tmp} (hg : o.guard = some (g, b)) (ho : ops[g]? = some og) (hd : og.dst = some d) (hv : a.tmps[d]? = some (.bool b)) : Region.wanted o (yielded ops a.tmps) = true := by
  simp [Region.wanted, hg, yielded, ho, hd, hv]
end
theorem eval_tmp {a : Act} {d : Tmp} {v : Value} (h : a.tmps[d]? = some v) : a.eval (.tmp d) = v := by
  simp [Act.eval, h]
/-- Tables out of a variable. -/
theorem load_tab {W : World} {b : Nat} {t : Tv} {T : Tab} (h : Tbl W b t T) {a : Act} {o : Oper} {x : Operand} (ho : o.op = .load 29 x) (hx : a.eval x = .pointer (some ⟨b, 0, none⟩)) : (execOp a.eval o).run Tryz.prog W = .ok (.value t.val) W := by
  obtain ⟨x0, x1, x2, x3, x4, x5, x6, x7, x8, x9, x10, x11⟩ := h.1.tab
  unfold execOp
  rw [ho]
  simp only [hx]
  go_simp
theorem eql_int {W : World} {a : Act} {o : Oper} {x y : Operand} {n m : Int} (ho : o.op = .binOp .eql 3 x y 3) (hx : a.eval x = .int .i64 n) (hy : a.eval y = .int .i64 m) : (execOp a.eval o).run Tryz.prog W = .ok (.value (.bool (n == m))) W := by
  unfold execOp
  rw [ho]
  simp only [hx, hy]
  go_simp
theorem eql_bool {W : World} {a : Act} {o : Oper} {x y : Operand} {n m : Bool} (ho : o.op = .binOp .eql 4 x y 4) (hx : a.eval x = .bool n) (hy : a.eval y = .bool m) : (execOp a.eval o).run Tryz.prog W = .ok (.value (.bool (n == m))) W := by
  unfold execOp
  rw [ho]
  simp only [hx, hy]
  go_simp
end Go.Proofs.YtikcfoobfobmnaaGreatDoor
/-
  A drawn region by what holds of each slot, as the programs' regions are given: checks by the kernel, the obligations one by one.
-/
namespace Go.Proofs.YtikcfoobfobmnaaGreatDoor
open Go.RowKit ND

/-- The operations of a region, read off a function's text. -/
def findR : Code → Nat → Option (Array Oper)
  | .region n ops _, k => if n = k then some ops else none
  | .seq a b, k => (findR a k).or (findR b k)
  | .cond _ a b, k => (findR a k).or (findR b k)
  | .block _ a, k => findR a k
  | .loop a, k => findR a k
  | .scope a, k => findR a k
  | _, _ => none
def opsAt (f : Func) (k : Nat) : Array Oper := (f.body.bind (findR · k)).getD #[]
theorem wp_region_as {P : Program} {id : Nat} {L ops : Array Oper} {b : Bool} {Q : Exit → Act → World → Prop} {a : Act} {w : World} (h : L = ops) (hw : (Code.region id ops b).wp P Q a w) : (Code.region id L b).wp P Q a w := by
  subst h; exact hw

/-- What is said of a slot: its value, or the list that it reads as. -/
inductive SpecV where
  | val (v : Value)
  | seq (l : List Int)
def SpecV.ok : SpecV → Value → World → Prop
  | .val u, v, _ => v = u
  | .seq l, v, w => Ints w w.heap.size .i64 v l
def RS (specs : List SpecV) (i : Nat) (v : Value) (w : World) : Prop := ∀ s, specs[i]? = some s → s.ok v w
theorem RS.later {specs : List SpecV} {i : Nat} {v : Value} {w w' : World} (h : RS specs i v w) (hb : Below w.heap.size w w') : RS specs i v w' := fun s hs => by
  have h1 := h s hs
  cases s with
  | val u => exact h1
  | seq l => exact Ints.later h1 hb

def FS (n : Nat) (ds : List Deferred) (fixed : List (Tmp × Value)) (a : Act) : Prop := a.tmps.size = n ∧ a.defers = ds ∧ ∀ p ∈ fixed, a.tmps[p.1]? = some p.2

def nodupB : List (Option Tmp) → Bool
  | [] => true
  | a :: r => r.all (fun b => a != b || a == none) && nodupB r
def lowB : Nat → List Oper → Bool
  | _, [] => true
  | k, o :: r => o.after.all (fun e => decide (e.on < k)) && lowB (k + 1) r
def checksB (ops : Array Oper) (n : Nat) (fx : List Tmp) : Bool :=
  lowB 0 ops.toList && nodupB (ops.toList.map (·.dst)) && ops.toList.all fun o => match o.dst with | some d => decide (d < n) && !fx.contains d | none => true

theorem nodupB_at : ∀ {l : List (Option Tmp)} {i j : Nat} {d : Tmp}, nodupB l = true → i < j → l[i]? = some (some d) → l[j]? ≠ some (some d) := by
  intro l
  induction l with
  | nil => intro i j d _ _ h; simp at h
  | cons a r ih =>
    intro i j d h hij hi hj
    rw [nodupB, Bool.and_eq_true, List.all_eq_true] at h
    obtain ⟨k, rfl⟩ : ∃ k, j = k + 1 := ⟨j - 1, by omega⟩
    rw [List.getElem?_cons_succ] at hj
    cases i with
    | zero =>
      simp only [List.getElem?_cons_zero, Option.some.injEq] at hi
      subst hi
      have := h.1 _ (List.mem_of_getElem? hj)
      simp at this
    | succ i =>
      rw [List.getElem?_cons_succ] at hi
      exact ih h.2 (by omega) hi hj
theorem lowB_at : ∀ {l : List Oper} {k i : Nat} {o : Oper}, lowB k l = true → l[i]? = some o → ∀ e ∈ o.after, e.on < k + i := by
  intro l
  induction l with
  | nil => intro k i o _ h; simp at h
  | cons a r ih =>
    intro k i o h hi e he
    rw [lowB, Bool.and_eq_true] at h
    cases i with
    | zero =>
      simp only [List.getElem?_cons_zero, Option.some.injEq] at hi
      subst hi
      have := Array.all_eq_true'.1 h.1 e he
      simpa using this
    | succ i =>
      rw [List.getElem?_cons_succ] at hi
      have := ih h.2 hi e he
      omega

/-- The obligation of one operation. -/
def Ob (P : Program) (ops : Array Oper) (n : Nat) (ds : List Deferred) (fixed : List (Tmp × Value)) (C : World → Prop) (specs : List SpecV) (Q : Exit → Act → World → Prop) (i : Nat) (o : Oper) : Prop :=
  ∀ a w, C w → FS n ds fixed a → Deps .any ops (RS specs) o a w → ∀ K : Act → World → Prop, (∀ v w', RS specs i v w' → C w' → Below w.heap.size w w' → K (a.put o.dst v) w') →
    if Region.wanted o (yielded ops a.tmps) = true then o.wp P a w K Q else K (a.put o.dst undef) w

theorem get_op {β : Type} (f : Oper → β) {ops : Array Oper} {k : Nat} {o : Oper} {x : β} (ho : ops[k]? = some o) (h : (ops[k]?).map f = some x) : f o = x := by
  rw [ho] at h; exact Option.some.inj h
theorem dep_of {ops : Array Oper} {specs : List SpecV} {k : Nat} {o : Oper} {a : Act} {w : World} (ho : ops[k]? = some o) (hd : Deps .any ops (RS specs) o a w) (j : Nat) (d : Tmp) (s : SpecV)
    (h1 : ((ops[k]?).map fun o => o.after.any fun e => Region.binds .any e && e.on == j) = some true) (h2 : ((ops[j]?).map (·.dst)) = some (some d)) (h3 : specs[j]? = some s) : ∃ v, a.tmps[d]? = some v ∧ s.ok v w := by
  have h4 := get_op (fun o => o.after.any fun e => Region.binds .any e && e.on == j) ho h1
  obtain ⟨e, he, hb⟩ := Array.any_eq_true'.1 h4
  rw [Bool.and_eq_true, beq_iff_eq] at hb
  cases hj : ops[j]? with
  | none => rw [hj] at h2; cases h2
  | some oj =>
    rw [hj] at h2
    obtain ⟨v, hv, hr⟩ := hd e he hb.1 oj d (by rw [hb.2, hj]) (by simpa using h2)
    exact ⟨v, hv, hr s (by rw [hb.2]; exact h3)⟩

theorem rs_of {specs : List SpecV} {k : Nat} {s0 : SpecV} {v : Value} {w : World} (h : specs[k]? = some s0) (hok : s0.ok v w) : RS specs k v w := fun s hs => by
  rw [h] at hs; cases hs; exact hok
theorem wanted_at {ops : Array Oper} {k g : Nat} {b : Bool} {o : Oper} {a : Act} {d : Tmp} {v : Value} (ho : ops[k]? = some o) (hg : ((ops[k]?).map (·.guard)) = some (some (g, b))) (h2 : ((ops[g]?).map (·.dst)) = some (some d)) (hv : a.tmps[d]? = some v) (he : v = .bool b) : Region.wanted o (yielded ops a.tmps) = true := by
  subst he
  cases hj : ops[g]? with
  | none => rw [hj] at h2; cases h2
  | some og =>
    rw [hj] at h2
    exact wanted_some ops (get_op (·.guard) ho hg) hj (by simpa using h2) hv
theorem enter2 {P : Program} {f : FuncId} {x y : Operand} {vx vy : Value} {tys : Array TypeId} {a : Act} {o : Oper} {w : World} (ho : o.op = .call { callee := .value (.func f), args := #[x, y], argTypes := tys }) (hx : a.eval x = vx) (hy : a.eval y = vy)
    (eg : ∀ args w, (callFunc f args).run P w = .ok (.enter f args) w) : (execOp a.eval o).run P w = .ok (.enter f #[vx, vy]) w := by
  unfold execOp
  rw [ho]
  have hf : a.eval (.func f) = .func (.func f) #[] #[] := rfl
  simp [resolve, invoke, Deferred.ofValue, hx, hy, hf, eg]

theorem end_at {ops : Array Oper} {specs : List SpecV} {a : Act} {w : World} (hr : ∀ (i : Nat) (o : Oper) (d : Tmp), ops[i]? = some o → o.dst = some d → ∃ v, a.tmps[d]? = some v ∧ RS specs i v w) (i : Nat) (d : Tmp) (s : SpecV)
    (h2 : ((ops[i]?).map (·.dst)) = some (some d)) (h3 : specs[i]? = some s) : ∃ v, a.tmps[d]? = some v ∧ s.ok v w := by
  cases hj : ops[i]? with
  | none => rw [hj] at h2; cases h2
  | some oj =>
    rw [hj] at h2
    obtain ⟨v, hv, h⟩ := hr i oj d hj (by simpa using h2)
    exact ⟨v, hv, h s h3⟩

theorem wp_region_spec {P : Program} {id n : Nat} {ops : Array Oper} {Q : Exit → Act → World → Prop} {a : Act} {w : World} {ds : List Deferred} {fixed : List (Tmp × Value)} {C : World → Prop} {specs : List SpecV} (hm : P.follows .mixedOrders = true)
    (hck : checksB ops n (fixed.map (·.1)) = true) (hf : FS n ds fixed a) (hc : C w.drew)
    (hob : ∀ (i : Nat) (o : Oper), ops[i]? = some o → Ob P ops n ds fixed C specs Q i o)
    (hend : ∀ a w, C w → FS n ds fixed a → (∀ (i : Nat) (o : Oper) (d : Tmp), ops[i]? = some o → o.dst = some d → ∃ v, a.tmps[d]? = some v ∧ RS specs i v w) → Q .normal a w) : (Code.region id ops true).wp P Q a w := by
  unfold checksB at hck
  rw [Bool.and_eq_true, Bool.and_eq_true, List.all_eq_true] at hck
  obtain ⟨⟨h1, h2⟩, h3⟩ := hck
  have hat : ∀ {i : Nat} {o : Oper}, ops[i]? = some o → ops.toList[i]? = some o := fun h => by simpa using h
  have hin : ∀ {i : Nat} {o : Oper} {d : Tmp}, ops[i]? = some o → o.dst = some d → d < n ∧ d ∉ fixed.map (·.1) := fun h hd => by
    have := h3 _ (List.mem_of_getElem? (hat h))
    rw [hd] at this
    simpa using this
  refine wp_region_any hm (wpAny_inv (F := FS n ds fixed) (C := C) (R := RS specs) ?_ ?_ ?_ ?_ (fun i v w w' h hb => h.later hb) ?_ hend _ _ _ _ ⟨by simp, hc, hf, fun i o d _ hl _ => ?_⟩ ?_)
  · intro i o ho e he _
    have := lowB_at h1 (hat ho) e he
    omega
  · intro i j o o' d hi hj hij hd hd'
    have hi' : (ops.toList.map (·.dst))[i]? = some (some d) := by rw [List.getElem?_map, hat hi]; simp [hd]
    have hj' : (ops.toList.map (·.dst))[j]? = some (some d) := by rw [List.getElem?_map, hat hj]; simp [hd']
    rcases Nat.lt_or_gt_of_ne hij with h | h
    · exact nodupB_at h2 h hi' hj'
    · exact nodupB_at h2 h hj' hi'
  · intro i o a v ho ⟨q1, q2, q3⟩
    cases hd : o.dst with
    | none => exact ⟨q1, q2, q3⟩
    | some d =>
      obtain ⟨_, hn⟩ := hin ho hd
      refine ⟨by simpa [Act.put] using q1, q2, fun p hp => ?_⟩
      have hne : d ≠ p.1 := fun e => hn (e ▸ List.mem_map_of_mem hp)
      simp [Act.put, hne, q3 p hp]
  · intro i o d a ho hd hf
    rw [hf.1]; exact (hin ho hd).1
  · intro i o ho a w hc hf hd K hK
    refine hob i o ho a w hc hf hd K fun v w' hr hc' hb => hK v w' (fun _ _ => hr) hc' hb
  · rw [Array.getD_eq_getD_getElem?, Array.getElem?_replicate] at hl
    split at hl <;> simp at hl
  · unfold unl
    exact Nat.le_trans List.countP_le_length (by simp)
end Go.Proofs.YtikcfoobfobmnaaGreatDoor
/-
  A drawn region by what holds of each slot, where one operation may consume what holds of another's slot (an append its own row), and what holds of the world may turn with the operations done (a store).
-/
namespace Go.Proofs.YtikcfoobfobmnaaGreatDoor
open Go.RowKit ND

theorem wpAny_ind {P : Program} {md : Region.Mode} {ops : Array Oper} {Q : Exit → Act → World → Prop} {I : Array Bool → Act → World → Prop}
    (hsz : ∀ listed a w, I listed a w → listed.size = ops.size)
    (fin : ∀ listed a w, I listed a w → Region.ready md ops listed = [] → Q .normal a w)
    (step : ∀ listed a w, I listed a w → ∀ i, i ∈ Region.ready md ops listed → ∀ o, ops[i]? = some o → ∀ K : Act → World → Prop, (∀ a' w', I (listed.setIfInBounds i true) a' w' → K a' w') →
      if Region.wanted o (yielded ops a.tmps) = true then o.wp P a w K Q else K (a.put o.dst undef) w) :
    ∀ (fuel : Nat) (listed : Array Bool) (a : Act) (w : World), I listed a w → unl ops.size listed ≤ fuel → wpAny P md ops Q fuel listed a w := by
  intro fuel
  induction fuel with
  | zero =>
    intro listed a w h hu
    have hr : Region.ready md ops listed = [] := by
      refine List.eq_nil_iff_forall_not_mem.2 fun i hi => ?_
      obtain ⟨h1, h2, _⟩ := ready_spec hi
      have := unl_set h1 (by rw [hsz _ _ _ h]; exact h1) h2
      omega
    exact ⟨hr, fin _ _ _ h hr⟩
  | succ fuel ih =>
    intro listed a w h hu
    refine ⟨fin _ _ _ h, fun i hi => ?_⟩
    obtain ⟨h1, h2, o, ho, _⟩ := ready_spec hi
    have hs := unl_set h1 (by rw [hsz _ _ _ h]; exact h1) h2
    have h3 := step listed a w h i hi o ho (fun a' w' => wpAny P md ops Q fuel (listed.setIfInBounds i true) a' w') fun a' w' hI => ih _ _ _ hI (by omega)
    unfold wpOp
    rw [ho]
    simp only
    split
    · rename_i hw; rw [if_pos hw] at h3; exact .inl h3
    · rename_i hw; rw [if_neg hw] at h3; exact h3

/-- What an operation may lean on, where other operations may have consumed it. -/
def DepsK (ops : Array Oper) (kill : Nat → Nat → Bool) (R : Nat → Value → World → Prop) (listed : Array Bool) (o : Oper) (a : Act) (w : World) : Prop :=
  ∀ e ∈ o.after, Region.binds .any e = true → (∀ j, kill e.on j = true → listed.getD j true = false) → ∀ (oe : Oper) (d : Tmp), ops[e.on]? = some oe → oe.dst = some d → ∃ v, a.tmps[d]? = some v ∧ R e.on v w
/-- What holds in the midst of the region. -/
structure InvK (ops : Array Oper) (F : Act → Prop) (kill : Nat → Nat → Bool) (C : Array Bool → World → Prop) (R : Nat → Value → World → Prop) (listed : Array Bool) (a : Act) (w : World) : Prop where
  size : listed.size = ops.size
  c : C listed w
  f : F a
  closed : ∀ (j : Nat) (o : Oper), ops[j]? = some o → listed.getD j false = true → ∀ e ∈ o.after, Region.binds .any e = true → listed.getD e.on false = true
  r : ∀ (i : Nat) (o : Oper) (d : Tmp), ops[i]? = some o → listed.getD i false = true → (∀ j, kill i j = true → listed.getD j true = false) → o.dst = some d → ∃ v, a.tmps[d]? = some v ∧ R i v w
/-- The obligation of one operation. -/
def ObK (P : Program) (ops : Array Oper) (n : Nat) (ds : List Deferred) (fixed : List (Tmp × Value)) (kill : Nat → Nat → Bool) (C : Array Bool → World → Prop) (R : Nat → Value → World → Prop) (Q : Exit → Act → World → Prop) (i : Nat) (o : Oper) : Prop :=
  ∀ listed a w, C listed w → listed.size = ops.size → listed.getD i true = false → (∀ (j : Nat) (o : Oper), ops[j]? = some o → listed.getD j false = true → ∀ e ∈ o.after, Region.binds .any e = true → listed.getD e.on false = true) → FS n ds fixed a → DepsK ops kill R listed o a w → ∀ K : Act → World → Prop, (∀ v w', (∀ d, o.dst = some d → R i v w') → C (listed.setIfInBounds i true) w' → (∀ j u, j ≠ i → kill j i = false → R j u w → R j u w') → K (a.put o.dst v) w') →
    if Region.wanted o (yielded ops a.tmps) = true then o.wp P a w K Q else K (a.put o.dst undef) w

theorem wp_region_kill {P : Program} {id n : Nat} {ops : Array Oper} {Q : Exit → Act → World → Prop} {a : Act} {w : World} {ds : List Deferred} {fixed : List (Tmp × Value)} {kill : Nat → Nat → Bool} {C : Array Bool → World → Prop} {R : Nat → Value → World → Prop} (hm : P.follows .mixedOrders = true)
    (hck : checksB ops n (fixed.map (·.1)) = true) (hf : FS n ds fixed a) (hc : C (Array.replicate ops.size false) w.drew)
    (hob : ∀ (i : Nat) (o : Oper), ops[i]? = some o → ObK P ops n ds fixed kill C R Q i o)
    (hend : ∀ listed a w, (∀ i, i < ops.size → listed.getD i false = true) → C listed w → FS n ds fixed a → (∀ (i : Nat) (o : Oper) (d : Tmp), ops[i]? = some o → (∀ j, kill i j = false) → o.dst = some d → ∃ v, a.tmps[d]? = some v ∧ R i v w) → Q .normal a w) : (Code.region id ops true).wp P Q a w := by
  unfold checksB at hck
  rw [Bool.and_eq_true, Bool.and_eq_true, List.all_eq_true] at hck
  obtain ⟨⟨h1, h2⟩, h3⟩ := hck
  have hat : ∀ {i : Nat} {o : Oper}, ops[i]? = some o → ops.toList[i]? = some o := fun h => by simpa using h
  have hin : ∀ {i : Nat} {o : Oper} {d : Tmp}, ops[i]? = some o → o.dst = some d → d < n ∧ d ∉ fixed.map (·.1) := fun h hd => by
    have := h3 _ (List.mem_of_getElem? (hat h))
    rw [hd] at this
    simpa using this
  have hlow : ∀ (i : Nat) (o : Oper), ops[i]? = some o → ∀ e ∈ o.after, Region.binds .any e = true → e.on < i := fun i o ho e he _ => by
    have := lowB_at h1 (hat ho) e he
    omega
  have hdst : ∀ (i j : Nat) (o o' : Oper) (d : Tmp), ops[i]? = some o → ops[j]? = some o' → i ≠ j → o.dst = some d → o'.dst ≠ some d := fun i j o o' d hi hj hij hd hd' => by
    have hi' : (ops.toList.map (·.dst))[i]? = some (some d) := by rw [List.getElem?_map, hat hi]; simp [hd]
    have hj' : (ops.toList.map (·.dst))[j]? = some (some d) := by rw [List.getElem?_map, hat hj]; simp [hd']
    rcases Nat.lt_or_gt_of_ne hij with h | h
    · exact nodupB_at h2 h hi' hj'
    · exact nodupB_at h2 h hj' hi'
  have hF : ∀ (i : Nat) (o : Oper) (a : Act) (v : Value), ops[i]? = some o → FS n ds fixed a → FS n ds fixed (a.put o.dst v) := fun i o a v ho ⟨q1, q2, q3⟩ => by
    cases hd : o.dst with
    | none => exact ⟨q1, q2, q3⟩
    | some d =>
      obtain ⟨_, hn⟩ := hin ho hd
      refine ⟨by simpa [Act.put] using q1, q2, fun p hp => ?_⟩
      have hne : d ≠ p.1 := fun e => hn (e ▸ List.mem_map_of_mem hp)
      simp [Act.put, hne, q3 p hp]
  refine wp_region_any hm (wpAny_ind (I := InvK ops (FS n ds fixed) kill C R) (fun _ _ _ h => h.size) ?_ ?_ _ _ _ _ ⟨by simp, hc, hf, fun j o _ hl => ?_, fun i o d _ hl _ _ => ?_⟩ ?_)
  · intro listed a w h hr
    have hall := ready_nil h.size hlow hr
    refine hend listed a w hall h.c h.f fun i o d ho hk hd => h.r i o d ho (hall i (Array.getElem?_eq_some_iff.1 ho).1) (fun j hj => ?_) hd
    rw [hk j] at hj; cases hj
  · intro listed a w h i hi o ho K hK
    obtain ⟨g1, g2, o', ho', hdep⟩ := ready_spec hi
    rw [ho] at ho'; cases ho'
    refine hob i o ho listed a w h.c h.size g2 h.closed h.f (fun e he hb hk oe d hoe hd => h.r e.on oe d hoe (hdep e he hb) hk hd) K fun v w' hv hc' hst => hK _ _ ⟨by simpa using h.size, hc', hF i o a v ho h.f, fun j oj hj hlj e he hb => ?_, fun j oj d hj hlj hkj hdj => ?_⟩
    · have up : listed.getD e.on false = true → (listed.setIfInBounds i true).getD e.on false = true := fun hl => by
        rw [Array.getD_eq_getD_getElem?, Array.getElem?_setIfInBounds]
        split
        · split <;> simp_all
        · rw [← Array.getD_eq_getD_getElem?]; exact hl
      by_cases hji : j = i
      · subst hji
        rw [ho] at hj; cases hj
        exact up (hdep e he hb)
      · rw [Array.getD_eq_getD_getElem?, Array.getElem?_setIfInBounds, if_neg (Ne.symm hji)] at hlj
        exact up (h.closed j oj hj (by rw [Array.getD_eq_getD_getElem?]; exact hlj) e he hb)
    by_cases hji : j = i
    · subst hji
      rw [ho] at hj; cases hj
      refine ⟨v, ?_, hv d hdj⟩
      rw [hdj]
      simp [Act.put, h.f.1, (hin ho hdj).1]
    · have hlj' : listed.getD j false = true := by
        rw [Array.getD_eq_getD_getElem?, Array.getElem?_setIfInBounds, if_neg (Ne.symm hji)] at hlj
        rw [Array.getD_eq_getD_getElem?]; exact hlj
      have hset : ∀ m, (listed.setIfInBounds i true).getD m true = false → m ≠ i ∧ listed.getD m true = false := fun m hm => by
        rw [Array.getD_eq_getD_getElem?, Array.getElem?_setIfInBounds] at hm
        by_cases e : m = i
        · subst e
          simp [h.size, g1] at hm
        · rw [if_neg (Ne.symm e)] at hm
          exact ⟨e, by rw [Array.getD_eq_getD_getElem?]; exact hm⟩
      obtain ⟨u, hu1, hu2⟩ := h.r j oj d hj hlj' (fun m hm => (hset m (hkj m hm)).2) hdj
      refine ⟨u, ?_, hst j u hji (by cases hki : kill j i with | false => rfl | true => exact absurd rfl (hset i (hkj i hki)).1) hu2⟩
      cases hod : o.dst with
      | none => exact hu1
      | some d' =>
        have hne : d' ≠ d := fun e => hdst j i oj o d hj ho hji hdj (by rw [hod, e])
        simp [Act.put, hne, hu1]
  · rw [Array.getD_eq_getD_getElem?, Array.getElem?_replicate] at hl
    split at hl <;> simp at hl
  · rw [Array.getD_eq_getD_getElem?, Array.getElem?_replicate] at hl
    split at hl <;> simp at hl
  · unfold unl
    exact Nat.le_trans List.countP_le_length (by simp)

theorem getD_any {l : Array Bool} {k : Nat} (h : k < l.size) (x y : Bool) : l.getD k x = l.getD k y := by
  simp [Array.getD, h]
/-- Whether operation k must wait for operation i. -/
def ancB (ops : Array Oper) : Nat → Nat → Nat → Bool
  | 0, i, k => i == k
  | f + 1, i, k => i == k || match ops[k]? with
    | some o => o.after.any fun e => Region.binds .any e && ancB ops f i e.on
    | none => false
theorem ancB_listed {ops : Array Oper} {listed : Array Bool} (hcl : ∀ (j : Nat) (o : Oper), ops[j]? = some o → listed.getD j false = true → ∀ e ∈ o.after, Region.binds .any e = true → listed.getD e.on false = true) :
    ∀ (f i k : Nat), ancB ops f i k = true → listed.getD k false = true → listed.getD i false = true := by
  intro f
  induction f with
  | zero => intro i k h hk; simp [ancB] at h; subst h; exact hk
  | succ f ih =>
    intro i k h hk
    rw [ancB, Bool.or_eq_true] at h
    rcases h with h | h
    · simp at h; subst h; exact hk
    · cases ho : ops[k]? with
      | none => rw [ho] at h; cases h
      | some o =>
        rw [ho] at h
        obtain ⟨e, he, hb⟩ := Array.any_eq_true'.1 h
        rw [Bool.and_eq_true] at hb
        exact ih i e.on hb.2 (hcl k o ho hk e he hb.1)

/-- What an operation ahead of the store may lean on. -/
def DepsA (ops : Array Oper) (kill : Nat → Nat → Bool) (R : Nat → Value → World → Prop) (i : Nat) (o : Oper) (a : Act) (w : World) : Prop :=
  ∀ e ∈ o.after, Region.binds .any e = true → (∀ j, kill e.on j = true → ancB ops 12 i j = true) → ∀ (oe : Oper) (d : Tmp), ops[e.on]? = some oe → oe.dst = some d → ∃ v, a.tmps[d]? = some v ∧ R e.on v w
/-- An operation ahead of the region's store. -/
def ObA (P : Program) (ops : Array Oper) (n : Nat) (ds : List Deferred) (fixed : List (Tmp × Value)) (kill : Nat → Nat → Bool) (A : World → Prop) (R : Nat → Value → World → Prop) (Q : Exit → Act → World → Prop) (i : Nat) : Prop :=
  ∀ o, ops[i]? = some o → ∀ a w, A w → FS n ds fixed a → DepsA ops kill R i o a w → ∀ K : Act → World → Prop, (∀ v w', R i v w' → A w' → (∀ j u, j ≠ i → kill j i = false → R j u w → R j u w') → K (a.put o.dst v) w') →
    if Region.wanted o (yielded ops a.tmps) = true then o.wp P a w K Q else K (a.put o.dst undef) w
/-- The region's store. -/
def ObB (P : Program) (ops : Array Oper) (n : Nat) (ds : List Deferred) (fixed : List (Tmp × Value)) (kill : Nat → Nat → Bool) (A B : World → Prop) (R : Nat → Value → World → Prop) (Q : Exit → Act → World → Prop) (k : Nat) : Prop :=
  ∀ o, ops[k]? = some o → ∀ a w, A w → FS n ds fixed a → DepsA ops kill R k o a w → ∀ K : Act → World → Prop, (∀ v w', B w' → K (a.put o.dst v) w') →
    if Region.wanted o (yielded ops a.tmps) = true then o.wp P a w K Q else K (a.put o.dst undef) w
/-- A drawn region that ends in its one store. -/
theorem wp_region_store {P : Program} {id n : Nat} {ops : Array Oper} {Q : Exit → Act → World → Prop} {a : Act} {w : World} {ds : List Deferred} {fixed : List (Tmp × Value)} (kill : Nat → Nat → Bool) (A B : World → Prop) (R : Nat → Value → World → Prop) (k : Nat) (hm : P.follows .mixedOrders = true)
    (hck : checksB ops n (fixed.map (·.1)) = true) (hanc : (List.range k).all (fun i => ancB ops 12 i k) = true) (hk : (ops[k]?).map (·.dst) = some none) (hsz : ops.size = k + 1) (hkb : ∀ i j, kill i j = true → j < ops.size) (hf : FS n ds fixed a) (hc : A w.drew)
    (hob : ∀ i, i < k → ObA P ops n ds fixed kill A R Q i)
    (hobk : ObB P ops n ds fixed kill A B R Q k)
    (hend : ∀ a w, B w → FS n ds fixed a → Q .normal a w) : (Code.region id ops true).wp P Q a w := by
  refine wp_region_kill (n := n) (ds := ds) (fixed := fixed) (kill := fun i j => kill i j || j == k) (C := fun listed w => if listed.getD k true = true then B w else A w) (R := R) hm hck hf ?_ (fun i o ho => ?_) ?_
  · rw [if_neg (by rw [Array.getD_eq_getD_getElem?, Array.getElem?_replicate, if_pos (by omega)]; simp)]
    exact hc
  · intro listed a w hC hsl hl hcl hfs hd K hK
    have hi : i < ops.size := (Array.getElem?_eq_some_iff.1 ho).1
    have hlk : listed.getD k true = false := by
      cases h : listed.getD k true with
      | false => rfl
      | true =>
        exfalso
        have hik : i < k := by
          have : i ≠ k := fun e => by subst e; rw [h] at hl; cases hl
          omega
        have h1 := List.all_eq_true.1 hanc i (List.mem_range.2 hik)
        have h2 : listed.getD k false = true := by rw [getD_any (by omega) false true]; exact h
        have h3 := ancB_listed hcl 12 i k h1 h2
        rw [getD_any (by omega) false true, hl] at h3
        cases h3
    have hA : A w := by rw [if_neg (by rw [hlk]; exact Bool.false_ne_true)] at hC; exact hC
    have hdA : DepsA ops kill R i o a w := fun e he hb hk' oe d hoe hde => hd e he hb (fun j hj => by
      rcases Bool.or_eq_true_iff.1 hj with h | h
      · cases hlj : listed.getD j true with
        | false => rfl
        | true =>
          by_cases hjs : j < ops.size
          · have h3 := ancB_listed hcl 12 i j (hk' j h) (by rw [getD_any (by omega) false true]; exact hlj)
            rw [getD_any (by omega) false true, hl] at h3
            cases h3
          · exact absurd (hkb e.on j h) hjs
      · rw [eq_of_beq h]; exact hlk) oe d hoe hde
    by_cases hik : i = k
    · subst hik
      have hdn : o.dst = none := by rw [ho] at hk; simpa using hk
      refine hobk o ho a w hA hfs hdA K fun v w' hB => hK v w' (fun d hd' => by rw [hdn] at hd'; cases hd') ?_ fun j u _ hj _ => ?_
      · show if (listed.setIfInBounds i true).getD i true = true then B w' else A w'
        rw [if_pos (by rw [Array.getD_eq_getD_getElem?, Array.getElem?_setIfInBounds, if_pos rfl, if_pos (by omega)]; rfl)]
        exact hB
      · exact absurd (show (kill j i || i == i) = false from hj) (by simp)
    · refine hob i (by omega) o ho a w hA hfs hdA K fun v w' hR hA' hst => hK v w' (fun _ _ => hR) ?_ fun j u hji hj hr => hst j u hji (by
        cases hkj : kill j i with
        | false => rfl
        | true => exact absurd (show (kill j i || i == k) = false from hj) (by rw [hkj]; simp)) hr
      show if (listed.setIfInBounds i true).getD k true = true then B w' else A w'
      rw [if_neg (by rw [Array.getD_eq_getD_getElem?, Array.getElem?_setIfInBounds, if_neg hik, ← Array.getD_eq_getD_getElem?, hlk]; exact Bool.false_ne_true)]
      exact hA'
  · intro listed a w hall hC hfs _
    have h2 := hall k (by omega)
    have hks : k < listed.size := by
      rcases Nat.lt_or_ge k listed.size with h | h
      · exact h
      · rw [Array.getD_eq_getD_getElem?, Array.getElem?_eq_none h] at h2; cases h2
    rw [if_pos (by rw [getD_any hks true false]; exact h2)] at hC
    exact hend a w hC hfs
end Go.Proofs.YtikcfoobfobmnaaGreatDoor
/-
  keep.Other, case 2: a span ahead of the list of categories.
-/
namespace Go.Proofs.YtikcfoobfobmnaaGreatDoor
open Go.RowKit ND

section
variable {P : Program} {o : Oper} {a : Act} {X : World} {K : Act → World → Prop} {Q : Exit → Act → World → Prop}
/-- append(v, u..): spans that lie somewhere behind an own row. -/
theorem ob_app_spans {T e : TypeId} {i0 : TypeInfo} (s x : Operand)
    (ho : o.op = .call { callee := .builtin .append, args := #[s, x], argTypes := #[T, T] }) (ht : P.underlying T = some (.slice e)) (hi : P.info? e = some i0) (hz : i0.zero = some (.agg #[.int .i64 0, .int .i64 0, .int .i64 0])) (h1 : i0.size = 3) (h2 : i0.bytes = 24)
    (base : Nat) (v u : Value) (L0 L : List Sp) (B : Nat) (hs : a.eval s = v) (hx : a.eval x = u) (hown : X.ownsRow base e 3 v L0.length (L0.flatMap spCells)) (hu : Spans X B u L) (hl : L0.length + L.length ≤ 1000000) (hb : base ≤ X.heap.size)
    (h : ∀ v' w', w'.ownsRow base e 3 v' (L0 ++ L).length ((L0 ++ L).flatMap spCells) → X.grownBy w' v.ownBlock → K (a.put o.dst v') w') : o.wp P a X K Q := by
  obtain ⟨A, c, rfl, hc1, hc2, hA, hcell⟩ := hu
  cases A with
  | none =>
    obtain rfl : c = 0 := hA rfl
    obtain rfl : L = [] := List.eq_nil_of_length_eq_zero (by omega)
    have hr := run_append_none (P := P) (ty := o.type) ht hi hown
    have h3 := h v X (by simpa using hown) (grown_refl X _)
    unfold Oper.wp execOp
    simp only [ho, resolve, invoke, builtin, Sem.run_bind, Sem.run_pure, Result.andThen_ok, List.map_toArray, List.map_cons, List.map_nil, hs, hx, List.length_nil, hr]
    exact h3
  | some ad =>
    refine wp_append_own X s x T ho base e i0 (.agg #[.int .i64 0, .int .i64 0, .int .i64 0]) 3 24 ht hi hz h1 h2 rfl (by omega) v L0.length _ hs hown ad L.length c (L.flatMap spCells) hx (flat_len3 L) ?_ ?_ (by unfold maxLen; omega) (by omega) hb ?_
    · refine spans_news fun i x hi => ?_
      obtain ⟨ad', e1, _, e2⟩ := hcell i x hi
      cases e1; exact e2
    · intro q hq
      obtain ⟨y, _, hy⟩ := List.mem_flatMap.1 hq
      simp only [spCells, List.mem_cons, List.not_mem_nil, or_false] at hy
      rcases hy with rfl | rfl | rfl <;> rfl
    · intro v' w' p q r
      exact h v' w' (by simpa using p) q
end
noncomputable abbrev opsO (k : Nat) : Array Oper := opsAt Tryz.f8 k
theorem run_span1 {w : World} {a : Act} {o : Oper} {d : Tmp} {x y z : Int} (ho : o.op = .buildSlice 26 1 #[(0, .tmp d)]) (hd : a.tmps[d]? = some (.agg #[.int .i64 x, .int .i64 y, .int .i64 z])) :
    (execOp a.eval o).run Tryz.prog w = .ok (.value (.slice (some ⟨w.heap.size, 0, none⟩) 1 1)) (w.alloc (.cells #[.int .i64 x, .int .i64 y, .int .i64 z] 61)) := by
  unfold execOp
  rw [ho]
  go_simp
end Go.Proofs.YtikcfoobfobmnaaGreatDoor
/-
  Drawn regions that append and end in a store: what is said of slots that lie in memory.
-/
namespace Go.Proofs.YtikcfoobfobmnaaGreatDoor
open Go.RowKit ND

/-- A literal of integers in a block of its own above xb. -/
def LitI (xb : Nat) (xs : List Int) (v : Value) (w : World) : Prop := ∃ k, v = .slice (some ⟨k, 0, none⟩) xs.length xs.length ∧ Blk w k 3 (xs.map (Value.int .i64)).toArray ∧ xb < k
/-- A literal of mappings, likewise. -/
def LitM (xb : Nat) (F : List Mp) (v : Value) (w : World) : Prop := ∃ (k : Nat) (us : List (Int × Value)), v = .slice (some ⟨k, 0, none⟩) F.length F.length ∧ Blk w k 51 (mpCells us).toArray ∧ xb < k ∧ us.map (·.1) = F.map (·.1) ∧ ∀ (i : Nat) (p : Int × Value) (d : Mp), us[i]? = some p → F[i]? = some d → LitI xb d.2 p.2 w
/-- What is said of a slot. -/
inductive SpecM where
  | val (v : Value)
  | spans (L : List Sp)
  | maps (D : List Mp)
  | lit (xs : List Int)
  | pair (f : Int) (xs : List Int)
  | pairs (F : List Mp)
  | cellI (x : Int)
def SpecM.ok (xb : Nat) : SpecM → Value → World → Prop
  | .val u, v, _ => v = u
  | .spans L, v, w => w.ownsRow (xb + 1) 61 3 v L.length (L.flatMap spCells)
  | .maps D, v, w => OwnM [xb] w (xb + 1) v D
  | .lit xs, v, w => LitI xb xs v w
  | .pair f xs, v, w => ∃ u, v = .agg #[.int .i64 f, u] ∧ LitI xb xs u w
  | .pairs F, v, w => LitM xb F v w
  | .cellI x, v, w => ∃ (k i : Nat) (cs : Array Value), v = .pointer (some ⟨k, i, none⟩) ∧ Blk w k 3 cs ∧ cs[i]? = some (.int .i64 x) ∧ xb < k
def SpecM.isVal : SpecM → Bool
  | .val _ => true
  | _ => false
def RM (xb : Nat) (specs : List SpecM) (i : Nat) (v : Value) (w : World) : Prop := ∀ s, specs[i]? = some s → s.ok xb v w
/-- The append consumes what lies in memory. -/
def killM (specs : List SpecM) (kA i j : Nat) : Bool := j == kA && i != kA && match specs[i]? with | some s => !s.isVal | none => false

theorem LitI.later {xb : Nat} {xs : List Int} {v : Value} {w w' : World} (h : LitI xb xs v w) (hb : Below w.heap.size w w') : LitI xb xs v w' := by
  obtain ⟨k, e, hk, hx⟩ := h
  exact ⟨k, e, hk.later hb, hx⟩
theorem LitM.later {xb : Nat} {F : List Mp} {v : Value} {w w' : World} (h : LitM xb F v w) (hb : Below w.heap.size w w') : LitM xb F v w' := by
  obtain ⟨k, us, e, hk, hx, hm, hr⟩ := h
  exact ⟨k, us, e, hk.later hb, hx, hm, fun i p d hp hd => (hr i p d hp hd).later hb⟩
theorem SpecM.later {xb : Nat} {s : SpecM} {v : Value} {w w' : World} (h : s.ok xb v w) (hb : Below w.heap.size w w') : s.ok xb v w' := by
  cases s with
  | val u => exact h
  | spans L => exact own_later h hb
  | maps D => exact OwnM.later h hb (by simp)
  | lit xs => exact LitI.later h hb
  | pair f xs => obtain ⟨u, e, h⟩ := h; exact ⟨u, e, h.later hb⟩
  | pairs F => exact LitM.later h hb
  | cellI x => obtain ⟨k, i, cs, e, hk, hx⟩ := h; exact ⟨k, i, cs, e, hk.later hb, hx⟩
theorem RM.later {xb : Nat} {specs : List SpecM} {i : Nat} {v : Value} {w w' : World} (h : RM xb specs i v w) (hb : Below w.heap.size w w') : RM xb specs i v w' := fun s hs => SpecM.later (h s hs) hb
theorem rm_kept {xb : Nat} {specs : List SpecM} {kA j : Nat} {u : Value} {w w' : World} (hne : j ≠ kA) (h : killM specs kA j kA = false) (hr : RM xb specs j u w) : RM xb specs j u w' := fun s hs => by
  have h1 := hr s hs
  unfold killM at h
  rw [hs] at h
  cases s <;> first | exact h1 | simp [SpecM.isVal, hne] at h
theorem rm_of {xb : Nat} {specs : List SpecM} {i : Nat} {v : Value} {w : World} {s : SpecM} (hs : specs[i]? = some s) (h : s.ok xb v w) : RM xb specs i v w := fun s' hs' => by
  rw [hs] at hs'; cases hs'; exact h
theorem kill_lt {specs : List SpecM} {kA i j n : Nat} (h : killM specs kA i j = true) (hn : kA < n) : j < n := by
  unfold killM at h
  rw [Bool.and_eq_true, Bool.and_eq_true, beq_iff_eq] at h
  omega

theorem dep_m {ops : Array Oper} {specs : List SpecM} {xb kA i : Nat} {o : Oper} {a : Act} {w : World} (ho : ops[i]? = some o) (hd : DepsA ops (killM specs kA) (RM xb specs) i o a w) (j : Nat) (d : Tmp) (s : SpecM)
    (h1 : ((ops[i]?).map fun o => o.after.any fun e => Region.binds .any e && e.on == j) = some true) (h2 : ((ops[j]?).map (·.dst)) = some (some d)) (h3 : specs[j]? = some s) (h4 : (s.isVal || ancB ops 12 i kA || j == kA) = true) : ∃ v, a.tmps[d]? = some v ∧ s.ok xb v w := by
  have h5 := get_op (fun o => o.after.any fun e => Region.binds .any e && e.on == j) ho h1
  obtain ⟨e, he, hb⟩ := Array.any_eq_true'.1 h5
  rw [Bool.and_eq_true, beq_iff_eq] at hb
  cases hj : ops[j]? with
  | none => rw [hj] at h2; cases h2
  | some oj =>
    rw [hj] at h2
    obtain ⟨v, hv, hr⟩ := hd e he hb.1 (fun j' hk => by
      unfold killM at hk
      rw [hb.2, h3, Bool.and_eq_true, Bool.and_eq_true, beq_iff_eq] at hk
      rw [hk.1.1]
      rcases Bool.or_eq_true_iff.1 h4 with h | h
      · rcases Bool.or_eq_true_iff.1 h with h | h
        · have h6 := hk.2
          simp only [h] at h6
          cases h6
        · exact h
      · have h6 := hk.1.2
        rw [eq_of_beq h] at h6
        simp at h6) oj d (by rw [hb.2, hj]) (by simpa using h2)
    exact ⟨v, hv, hr s (by rw [hb.2]; exact h3)⟩

section
variable {P : Program} {ops : Array Oper} {o : Oper} {a : Act} {X : World} {K : Act → World → Prop} {Q : Exit → Act → World → Prop}
theorem ob_run {v : Value} {w' : World} (hr : (execOp a.eval o).run P X = .ok (.value v) w') (h : K (a.put o.dst v) w') : o.wp P a X K Q := by
  unfold Oper.wp
  rw [hr]
  exact h
theorem ob_skip {w' : World} (hr : (execOp a.eval o).run P X = .ok .skip w') (h : K (a.put o.dst undef) w') : o.wp P a X K Q := by
  unfold Oper.wp
  rw [hr]
  exact h
end
end Go.Proofs.YtikcfoobfobmnaaGreatDoor
