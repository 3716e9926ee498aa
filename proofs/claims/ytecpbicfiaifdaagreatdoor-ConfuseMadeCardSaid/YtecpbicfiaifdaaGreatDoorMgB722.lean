/-
  Merged texts: lemmas and walks that the last text of this claim leans on.
-/
import Derived.Test.YtecpbicfiaifdaaGreatDoorMgB721
import Derived.Test.YtecpbicfiaifdaaGreatDoorMgB713
import Derived.Test.YtecpbicfiaifdaaGreatDoorMgB76
/-
  The walk through order.Order.
-/
namespace Go.Proofs.YtecpbicfiaifdaaGreatDoor
open Go.RowKit ND

/-- The canonical order, where there is no error. -/
def ordL (T : Tab) (xs : List Int) : List Int := if accE T xs = 0 then can T.classOf xs else []
theorem ordL_ok {T : Tab} {xs : List Int} (h : accE T xs = 0) : ordL T xs = can T.classOf xs := by unfold ordL; rw [if_pos h]
theorem ordL_bad {T : Tab} {xs : List Int} (h : accE T xs ≠ 0) : ordL T xs = [] := by unfold ordL; rw [if_neg h]
/-- A sequence and an error come back. -/
def RetTwo (w : World) (ys : List Int) (n : Int) (e : Ending) (w' : World) : Prop := ∃ v, e = .returned (.tuple #[v, .int .i64 n]) ∧ w'.ownsRow w.heap.size 3 1 v ys.length (ys.map (Value.int .i64)) ∧ Below w.heap.size w w'

set_option maxRecDepth 100000 in
set_option maxHeartbeats 1000000 in
theorem order_any (t : Tv) (T : Tab) (v : Value) (xs : List Int) (w : World) (ht : TabR w w.heap.size t T) (hg : Glob w) (hv : Ints w w.heap.size .i64 v xs) :
    Calls Tryz.prog 75 #[t.val, v] w (RetTwo w (ordL T xs) (accE T xs)) := by
  obtain ⟨A, c, rfl, _⟩ := id hv
  have HB0 : Hid (Below w.heap.size w (w.alloc (.cells t.cells 26))) := Lib.hid ((Below.refl _ _).alloc (Nat.le_refl _) _)
  have HT : Hid (Tbl (w.alloc (.cells t.cells 26)) w.heap.size t T) := Lib.hid ⟨Blk.new _ _ _, ht.later HB0.out⟩
  have HV := Lib.hid (hv.later HB0.out)
  have HCK := Lib.hid (ocheck_any t T _ xs _ HT.out.2 (hg.later HB0.out) HV.out)
  clear hv ht hg
  by_cases h0 : accE T xs = 0
  · have HE := Lib.hid (ordL_ok h0)
    obtain ⟨a1, a2, _⟩ := accE_zero h0
    have HS := Lib.hid (fun W (h : Below (w.alloc (.cells t.cells 26)).heap.size (w.alloc (.cells t.cells 26)) W) => sort_any t T _ xs W (HT.out.later h).2 a1 a2 (HV.out.later h))
    rw [h0] at HCK ⊢
    clear h0 a1 a2
    go_enter Tryz.func75, Tryz.ntmps75
    go_upto_region 1 with fail
    generalize w.alloc (.cells t.cells 26) = w1 at *
    have HTB := HT.out.1.tab
    obtain ⟨x0, x1, x2, x3, x4, x5, x6, x7, x8, x9, x10, x11⟩ := HTB
    go_upto_region 2 with (go_at_call 96; refine HCK.out.mono ?_; rintro e w2 ⟨rfl, b2⟩)
    clear x0 x1 x2 x3 x4 x5 x6 x7 x8 x9 x10 x11
    have HTB := (HT.out.later b2).1.tab
    obtain ⟨x0, x1, x2, x3, x4, x5, x6, x7, x8, x9, x10, x11⟩ := HTB
    go_wp2_with (go_at_call 97; refine (HS.out _ b2).mono ?_; rintro e w3 ⟨u, rfl, ho3, b3⟩)
    go_ret2
    rw [HE.out]
    exact ⟨u, rfl, row_le ho3 (by have := HB0.out.size; have := b2.size; omega), below_next (below_next HB0.out b2) b3⟩
  · have HE := Lib.hid (ordL_bad h0)
    have hb : (accE T xs != 0) = true := by simpa using h0
    clear h0
    go_enter Tryz.func75, Tryz.ntmps75
    go_upto_region 1 with fail
    generalize w.alloc (.cells t.cells 26) = w1 at *
    have HTB := HT.out.1.tab
    obtain ⟨x0, x1, x2, x3, x4, x5, x6, x7, x8, x9, x10, x11⟩ := HTB
    go_wp2_with (go_at_call 96; refine HCK.out.mono ?_; rintro e w2 ⟨rfl, b2⟩)
    go_ret2
    rw [HE.out]
    exact ⟨_, rfl, World.ownsRow_nil _ _ _ _, below_next HB0.out b2⟩
end Go.Proofs.YtecpbicfiaifdaaGreatDoor
/-
  The walk through slices.Equal at integers.
-/
namespace Go.Proofs.YtecpbicfiaifdaaGreatDoor
open Go.RowKit ND

set_option maxRecDepth 100000 in
set_option maxHeartbeats 1000000 in
theorem equal_any (v u : Value) (xs ys : List Int) (w : World) (hv : Ints w w.heap.size .i64 v xs) (hu : Ints w w.heap.size .i64 u ys) :
    Calls Tryz.prog 65 #[v, u] w fun e w' => e = .returned (.bool (decide (xs = ys))) ∧ Below w.heap.size w w' := by
  obtain ⟨A, c, rfl, hc1, hc2, _, hcell⟩ := hv
  obtain ⟨A', c', rfl, hc1', hc2', _, hcell'⟩ := hu
  have HC := Lib.hid hcell; clear hcell
  have HC' := Lib.hid hcell'; clear hcell'
  have hl : xs.length ≤ 9223372036854775807 := by unfold maxLen at hc2; omega
  clear hc2 hc2' hc1 hc1'
  by_cases hlen : xs.length = ys.length
  · have hb : ((xs.length : Int) != (ys.length : Int)) = false := by rw [hlen]; simp
    have hl1 : xs.length ≤ ys.length := by omega
    have hl2 : ys.length ≤ xs.length := by omega
    clear hlen
    obtain ⟨R, hR⟩ : ∃ R, R = decide (xs = ys) := ⟨_, rfl⟩
    rw [← hR]
    have HR := Lib.hid hR; clear hR
    go_enter Tryz.func65, Tryz.ntmps65
    go_wp2_with fail
    go_loopw [13] (fun i wr => ∃ k : Nat, k ≤ xs.length ∧ i = .int .i64 k ∧ Hid (xs.take k = ys.take k) ∧ Below w.heap.size w wr) (fun i _ => xs.length - (intOf i).toNat)
    case atStart => exact ⟨0, by omega, rfl, Lib.hid (by simp), Below.refl _ _⟩
    case round =>
      obtain ⟨k, hk, rfl, HS, hbel⟩ := hrel
      by_cases hlt : k < xs.length
      · obtain ⟨x, hxk, _⟩ := get_of hlt
        obtain ⟨y, hyk, _⟩ := get_of (show k < ys.length by omega)
        obtain ⟨ad, rfl, ha, hce⟩ := HC.out k x hxk
        obtain ⟨ad', rfl, ha', hce'⟩ := HC'.out k y hyk
        have e1 := (hbel.cell (p := ad.add k) (by rw [block_of_add]; exact ha)).trans hce
        have e2 := (hbel.cell (p := ad'.add k) (by rw [block_of_add]; exact ha')).trans hce'
        have HX := Lib.hid hxk
        have HY := Lib.hid hyk
        clear hce hce' hxk hyk ha ha'
        have k0 : (0 : Int) ≤ (k : Int) := by omega
        have k1 : (k : Int) < (xs.length : Int) := by omega
        have k2 : (k : Int) < (ys.length : Int) := by omega
        by_cases hxy : x = y
        · have hb2 : (x != y) = false := by rw [hxy]; simp
          have HT := Lib.hid (same_step HS.out HX.out (by rw [hxy]; exact HY.out))
          clear hxy
          go_wp2_with fail
          go_quiet (fail)
          go_wp2_with fail
          go_roundw
          case rel => exact ⟨k + 1, by omega, by go_num, HT, below_drewN hbel nq⟩
          case measure => simp [intOf]; omega
        · have hb2 : (x != y) = true := by rw [bne_iff_ne]; exact hxy
          have HN : Hid (R = false) := by
            refine Lib.hid ?_
            rw [HR.out, decide_eq_false_iff_not]
            rintro rfl
            have := HX.out.symm.trans HY.out
            simp at this
            exact hxy this
          clear hxy
          go_wp2_with fail
          go_quiet (fail)
          go_wp2_with fail
          go_ret
          rw [HN.out]
          exact ⟨rfl, below_drewN hbel nq⟩
      · have HN : Hid (R = true) := by
          refine Lib.hid ?_
          rw [HR.out, decide_eq_true_iff]
          have h := HS.out
          rw [List.take_of_length_le (by omega), List.take_of_length_le (by omega)] at h
          exact h
        go_wp2_with fail
        go_ret
        rw [HN.out]
        exact ⟨rfl, hbel⟩
  · have hb : ((xs.length : Int) != (ys.length : Int)) = true := by rw [bne_iff_ne]; omega
    have hn : decide (xs = ys) = false := by
      rw [decide_eq_false_iff_not]; rintro rfl; exact hlen rfl
    rw [hn]
    clear hn hlen
    go_enter Tryz.func65, Tryz.ntmps65
    go_wp2_with fail
    go_ret
    exact ⟨rfl, Below.refl _ _⟩
end Go.Proofs.YtecpbicfiaifdaaGreatDoor
/-
  keep.Same of two equal lists.
-/
namespace Go.Proofs.YtecpbicfiaifdaaGreatDoor
open Go.RowKit ND

theorem same_of (v u : Value) (xs ys : List Int) (w : World) (hv : Ints w w.heap.size .i64 v xs) (hu : Ints w w.heap.size .i64 u ys) (h : xs = ys) :
    Calls Tryz.prog 17 #[v, u] w fun e w' => e = .returned (.bool true) ∧ Below w.heap.size w w' := by
  have h2 := same_any v u xs ys w hv hu
  rw [decide_eq_true h] at h2; exact h2
end Go.Proofs.YtecpbicfiaifdaaGreatDoor
/-
  A region that draws its order, walked by what holds of each slot: one obligation for each operation serves every order.
-/
namespace Go.Proofs.YtecpbicfiaifdaaGreatDoor
open Go.RowKit

/-- How many operations are still to come. -/
def unl (n : Nat) (listed : Array Bool) : Nat := (List.range n).countP fun i => !listed.getD i true
theorem countP_one {l : List Nat} {p q : Nat → Bool} {i : Nat} (hnd : l.Nodup) (hi : i ∈ l) (hp : p i = true) (hq : q i = false) (he : ∀ j, j ≠ i → q j = p j) : l.countP q + 1 = l.countP p := by
  induction l with
  | nil => cases hi
  | cons a r ih =>
    rw [List.nodup_cons] at hnd
    rw [List.countP_cons, List.countP_cons]
    by_cases h : a = i
    · subst h
      rw [hp, hq]
      have : r.countP q = r.countP p := List.countP_congr fun j hj => by
        have hne : j ≠ a := fun e => hnd.1 (e ▸ hj)
        rw [he j hne]
      simp [this]
    · have hi' : i ∈ r := by
        rcases List.mem_cons.1 hi with e | e
        · exact absurd e.symm h
        · exact e
      have := ih hnd.2 hi'
      rw [he a h]
      omega
theorem unl_set {n i : Nat} {listed : Array Bool} (hi : i < n) (hs : i < listed.size) (hu : listed.getD i true = false) : unl n (listed.setIfInBounds i true) + 1 = unl n listed := by
  unfold unl
  refine countP_one List.nodup_range (List.mem_range.2 hi) (by rw [hu]; rfl) ?_ fun j hj => ?_
  · simp [Array.getD_eq_getD_getElem?, hs]
  · simp [Array.getD_eq_getD_getElem?, Ne.symm hj]

/-- What holds in the midst of the region. -/
structure InvS (ops : Array Oper) (F : Act → Prop) (C : World → Prop) (R : Nat → Value → World → Prop) (listed : Array Bool) (a : Act) (w : World) : Prop where
  size : listed.size = ops.size
  c : C w
  f : F a
  r : ∀ (i : Nat) (o : Oper) (d : Tmp), ops[i]? = some o → listed.getD i false = true → o.dst = some d → ∃ v, a.tmps[d]? = some v ∧ R i v w

/-- What an operation may lean on. -/
def Deps (md : Region.Mode) (ops : Array Oper) (R : Nat → Value → World → Prop) (o : Oper) (a : Act) (w : World) : Prop :=
  ∀ e ∈ o.after, Region.binds md e = true → ∀ (oe : Oper) (d : Tmp), ops[e.on]? = some oe → oe.dst = some d → ∃ v, a.tmps[d]? = some v ∧ R e.on v w

theorem ready_spec {md : Region.Mode} {ops : Array Oper} {listed : Array Bool} {i : Nat} (h : i ∈ Region.ready md ops listed) : i < ops.size ∧ listed.getD i true = false ∧ ∃ o, ops[i]? = some o ∧ ∀ e ∈ o.after, Region.binds md e = true → listed.getD e.on false = true := by
  unfold Region.ready at h
  obtain ⟨h1, h2⟩ := List.mem_filter.1 h
  have h1 := List.mem_range.1 h1
  rw [Bool.and_eq_true] at h2
  refine ⟨h1, by simpa using h2.1, ops[i], Array.getElem?_eq_getElem h1, fun e he hb => ?_⟩
  have h3 := h2.2
  rw [Array.getElem?_eq_getElem h1] at h3
  simp only [Option.map_some, Option.getD_some, Array.all_eq_true'] at h3
  have h4 := h3 e he
  rw [hb] at h4
  simpa using h4

/-- All operations are listed, if none may come up. -/
theorem ready_nil {md : Region.Mode} {ops : Array Oper} {listed : Array Bool} (hs : listed.size = ops.size) (hlow : ∀ (i : Nat) (o : Oper), ops[i]? = some o → ∀ e ∈ o.after, Region.binds md e = true → e.on < i) (h : Region.ready md ops listed = []) : ∀ i, i < ops.size → listed.getD i false = true := by
  intro i
  induction i using Nat.strongRecOn with
  | ind i ih =>
    intro hi
    cases hl : listed.getD i false with
    | true => rfl
    | false =>
      have hm : i ∈ Region.ready md ops listed := by
        unfold Region.ready
        refine List.mem_filter.2 ⟨List.mem_range.2 hi, ?_⟩
        rw [Bool.and_eq_true]
        refine ⟨?_, ?_⟩
        · have : listed.getD i true = false := by
            rw [Array.getD_eq_getD_getElem?, Array.getElem?_eq_getElem (by omega)] at hl ⊢
            simpa using hl
          rw [this]; rfl
        · rw [Array.getElem?_eq_getElem hi]
          simp only [Option.map_some, Option.getD_some, Array.all_eq_true']
          intro e he
          cases hb : Region.binds md e with
          | false => rfl
          | true =>
            have := hlow i _ (Array.getElem?_eq_getElem hi) e he hb
            simp [ih e.on this (by omega)]
      rw [h] at hm; cases hm

theorem wpAny_inv {P : Program} {md : Region.Mode} {ops : Array Oper} {Q : Exit → Act → World → Prop} {F : Act → Prop} {C : World → Prop} {R : Nat → Value → World → Prop}
    (hlow : ∀ (i : Nat) (o : Oper), ops[i]? = some o → ∀ e ∈ o.after, Region.binds md e = true → e.on < i)
    (hdst : ∀ (i j : Nat) (o o' : Oper) (d : Tmp), ops[i]? = some o → ops[j]? = some o' → i ≠ j → o.dst = some d → o'.dst ≠ some d)
    (hF : ∀ (i : Nat) (o : Oper) (a : Act) (v : Value), ops[i]? = some o → F a → F (a.put o.dst v))
    (hput : ∀ (i : Nat) (o : Oper) (d : Tmp) (a : Act), ops[i]? = some o → o.dst = some d → F a → d < a.tmps.size)
    (hst : ∀ i v w w', R i v w → Below w.heap.size w w' → R i v w')
    (hob : ∀ (i : Nat) (o : Oper), ops[i]? = some o → ∀ a w, C w → F a → Deps md ops R o a w → ∀ K : Act → World → Prop, (∀ v w', (∀ d, o.dst = some d → R i v w') → C w' → Below w.heap.size w w' → K (a.put o.dst v) w') →
      if Region.wanted o (yielded ops a.tmps) = true then o.wp P a w K Q else K (a.put o.dst undef) w)
    (hend : ∀ a w, C w → F a → (∀ (i : Nat) (o : Oper) (d : Tmp), ops[i]? = some o → o.dst = some d → ∃ v, a.tmps[d]? = some v ∧ R i v w) → Q .normal a w) :
    ∀ (fuel : Nat) (listed : Array Bool) (a : Act) (w : World), InvS ops F C R listed a w → unl ops.size listed ≤ fuel → wpAny P md ops Q fuel listed a w := by
  have fin : ∀ listed a w, InvS ops F C R listed a w → Region.ready md ops listed = [] → Q .normal a w := fun listed a w h hr =>
    hend a w h.c h.f fun i o d ho hd => h.r i o d ho (ready_nil h.size hlow hr i (Array.getElem?_eq_some_iff.1 ho).1) hd
  intro fuel
  induction fuel with
  | zero =>
    intro listed a w h hu
    have hr : Region.ready md ops listed = [] := by
      refine List.eq_nil_iff_forall_not_mem.2 fun i hi => ?_
      obtain ⟨h1, h2, _⟩ := ready_spec hi
      have := unl_set h1 (by rw [h.size]; exact h1) h2
      omega
    exact ⟨hr, fin _ _ _ h hr⟩
  | succ fuel ih =>
    intro listed a w h hu
    refine ⟨fin _ _ _ h, fun i hi => ?_⟩
    obtain ⟨h1, h2, o, ho, hdep⟩ := ready_spec hi
    have hsz := unl_set h1 (by rw [h.size]; exact h1) h2
    have hd : Deps md ops R o a w := fun e he hb oe d hoe hd => h.r e.on oe d hoe (hdep e he hb) hd
    have key : ∀ v w', (∀ d, o.dst = some d → R i v w') → C w' → Below w.heap.size w w' → wpAny P md ops Q fuel (listed.setIfInBounds i true) (a.put o.dst v) w' := fun v w' hv hc hb => by
      refine ih _ _ _ ⟨by simpa using h.size, hc, hF i o a v ho h.f, fun j oj d hj hlj hdj => ?_⟩ (by omega)
      by_cases hji : j = i
      · subst hji
        rw [ho] at hj; cases hj
        refine ⟨v, ?_, hv d hdj⟩
        rw [hdj]
        simp [Act.put, hput j o d a ho hdj h.f]
      · have hlj' : listed.getD j false = true := by
          rw [Array.getD_eq_getD_getElem?, Array.getElem?_setIfInBounds, if_neg (Ne.symm hji)] at hlj
          rw [Array.getD_eq_getD_getElem?]; exact hlj
        obtain ⟨u, hu1, hu2⟩ := h.r j oj d hj hlj' hdj
        refine ⟨u, ?_, hst j u w w' hu2 hb⟩
        cases hod : o.dst with
        | none => exact hu1
        | some d' =>
          have hne : d' ≠ d := fun e => hdst j i oj o d hj ho hji hdj (by rw [hod, e])
          simp [Act.put, hne, hu1]
    have h3 := hob i o ho a w h.c h.f hd (fun a' w' => wpAny P md ops Q fuel (listed.setIfInBounds i true) a' w') key
    unfold wpOp
    rw [ho]
    simp only
    split
    · rename_i hw; rw [if_pos hw] at h3; exact .inl h3
    · rename_i hw; rw [if_neg hw] at h3; exact h3
end Go.Proofs.YtecpbicfiaifdaaGreatDoor
/-
  The obligations of single operations: moves, loads of tables, calls, comparisons, picks.
-/
namespace Go.Proofs.YtecpbicfiaifdaaGreatDoor
open Go.RowKit ND

section
variable {P : Program} {o : Oper} {a : Act} {w : World} {K : Act → World → Prop} {Q : Exit → Act → World → Prop}
theorem ob_move {x : Operand} {v : Value} (ho : o.op = .move x) (hv : a.eval x = v) (h : K (a.put o.dst v) w) : o.wp P a w K Q := by
  unfold Oper.wp execOp
  rw [ho]
  simp only [hv]
  exact h
theorem ob_assign {x : Operand} {v : Value} (ho : o.op = .assign x) (hv : a.eval x = v) (h : K (a.put o.dst v) w) : o.wp P a w K Q := by
  unfold Oper.wp execOp
  rw [ho]
  simp only [hv]
  exact h
theorem ob_pick {c x y : Operand} {b : Bool} {v : Value} (ho : o.op = .pick c x y) (hc : a.eval c = .bool b) (hx : a.eval (if b then x else y) = v) (h : K (a.put o.dst v) w) : o.wp P a w K Q := by
  unfold Oper.wp execOp
  rw [ho]
  subst hx
  cases b <;> simpa [hc, asBool, Oper.upon] using h
theorem ob_not {t : TypeId} {x : Operand} {b : Bool} (ho : o.op = .unOp .not t x) (hx : a.eval x = .bool b) (h : K (a.put o.dst (.bool (!b))) w) : o.wp P a w K Q := by
  unfold Oper.wp execOp
  rw [ho]
  simpa [hx, Op.unary, Oper.upon] using h
theorem ob_enter {f : FuncId} {vs : Array Value} {post : Ending → World → Prop} (hr : (execOp a.eval o).run P w = .ok (.enter f vs) w) (hc : Calls P f vs w post) (h : ∀ e w', post e w' → ∃ v, e = .returned v ∧ K (a.put o.dst v) w') : o.wp P a w K Q := by
  unfold Oper.wp
  rw [hr]
  refine Calls.mono hc fun e w' hp => ?_
  obtain ⟨v, rfl, hk⟩ := h e w' hp
  exact hk
theorem ob_value {v : Value} (hr : (execOp a.eval o).run P w = .ok (.value v) w) (h : K (a.put o.dst v) w) : o.wp P a w K Q := by
  unfold Oper.wp
  rw [hr]
  exact h
theorem wanted_none (ops : Array Oper) (hg : o.guard = none) : Region.wanted o (yielded ops a.tmps) = true := by simp [Region.wanted, hg]
theorem wanted_some (ops : Array Oper) {g : Nat} {b : Bool} {og : Oper} {d : Tmp} (hg : o.guard = some (g, b)) (ho : ops[g]? = some og) (hd : og.dst = some d) (hv : a.tmps[d]? = some (.bool b)) : Region.wanted o (yielded ops a.tmps) = true := by
  simp [Region.wanted, hg, yielded, ho, hd, hv]
end
theorem eval_tmp {a : Act} {d : Tmp} {v : Value} (h : a.tmps[d]? = some v) : a.eval (.tmp d) = v := by
  simp [Act.eval, h]
/-- Tables out of a variable. -/
theorem load_tab {W : World} {b : Nat} {t : Tv} {T : Tab} (h : Tbl W b t T) {a : Act} {o : Oper} {x : Operand} (ho : o.op = .load 26 x) (hx : a.eval x = .pointer (some ⟨b, 0, none⟩)) : (execOp a.eval o).run Tryz.prog W = .ok (.value t.val) W := by
  obtain ⟨x0, x1, x2, x3, x4, x5, x6, x7, x8, x9, x10, x11⟩ := h.1.tab
  unfold execOp
  rw [ho]
  simp only [hx]
  go_simp
theorem eql_int {W : World} {a : Act} {o : Oper} {x y : Operand} {n m : Int} (ho : o.op = .binOp .eql 3 x y 3) (hx : a.eval x = .int .i64 n) (hy : a.eval y = .int .i64 m) : (execOp a.eval o).run Tryz.prog W = .ok (.value (.bool (n == m))) W := by
  unfold execOp
  rw [ho]
  simp only [hx, hy]
  go_simp
theorem eql_bool {W : World} {a : Act} {o : Oper} {x y : Operand} {n m : Bool} (ho : o.op = .binOp .eql 4 x y 4) (hx : a.eval x = .bool n) (hy : a.eval y = .bool m) : (execOp a.eval o).run Tryz.prog W = .ok (.value (.bool (n == m))) W := by
  unfold execOp
  rw [ho]
  simp only [hx, hy]
  go_simp
end Go.Proofs.YtecpbicfiaifdaaGreatDoor
/-
  A drawn region by what holds of each slot, as the programs' regions are given: checks by the kernel, the obligations one by one.
-/
namespace Go.Proofs.YtecpbicfiaifdaaGreatDoor
open Go.RowKit ND

/-- The operations of a region, read off a function's text. -/
def findR : Code → Nat → Option (Array Oper)
  | .region n ops _, k => if n = k then some ops else none
  | .seq a b, k => (findR a k).or (findR b k)
  | .cond _ a b, k => (findR a k).or (findR b k)
  | .block _ a, k => findR a k
  | .loop a, k => findR a k
  | .scope a, k => findR a k
  | _, _ => none
def opsAt (f : Func) (k : Nat) : Array Oper := (f.body.bind (findR · k)).getD #[]
theorem wp_region_as {P : Program} {id : Nat} {L ops : Array Oper} {b : Bool} {Q : Exit → Act → World → Prop} {a : Act} {w : World} (h : L = ops) (hw : (Code.region id ops b).wp P Q a w) : (Code.region id L b).wp P Q a w := by
  subst h; exact hw

/-- What is said of a slot: its value, or the list that it reads as. -/
inductive SpecV where
  | val (v : Value)
  | seq (l : List Int)
def SpecV.ok : SpecV → Value → World → Prop
  | .val u, v, _ => v = u
  | .seq l, v, w => Ints w w.heap.size .i64 v l
def RS (specs : List SpecV) (i : Nat) (v : Value) (w : World) : Prop := ∀ s, specs[i]? = some s → s.ok v w
theorem RS.later {specs : List SpecV} {i : Nat} {v : Value} {w w' : World} (h : RS specs i v w) (hb : Below w.heap.size w w') : RS specs i v w' := fun s hs => by
  have h1 := h s hs
  cases s with
  | val u => exact h1
  | seq l => exact Ints.later h1 hb

def FS (n : Nat) (ds : List Deferred) (fixed : List (Tmp × Value)) (a : Act) : Prop := a.tmps.size = n ∧ a.defers = ds ∧ ∀ p ∈ fixed, a.tmps[p.1]? = some p.2

def nodupB : List (Option Tmp) → Bool
  | [] => true
  | a :: r => r.all (fun b => a != b || a == none) && nodupB r
def lowB : Nat → List Oper → Bool
  | _, [] => true
  | k, o :: r => o.after.all (fun e => decide (e.on < k)) && lowB (k + 1) r
def checksB (ops : Array Oper) (n : Nat) (fx : List Tmp) : Bool :=
  lowB 0 ops.toList && nodupB (ops.toList.map (·.dst)) && ops.toList.all fun o => match o.dst with | some d => decide (d < n) && !fx.contains d | none => true

theorem nodupB_at : ∀ {l : List (Option Tmp)} {i j : Nat} {d : Tmp}, nodupB l = true → i < j → l[i]? = some (some d) → l[j]? ≠ some (some d) := by
  intro l
  induction l with
  | nil => intro i j d _ _ h; simp at h
  | cons a r ih =>
    intro i j d h hij hi hj
    rw [nodupB, Bool.and_eq_true, List.all_eq_true] at h
    obtain ⟨k, rfl⟩ : ∃ k, j = k + 1 := ⟨j - 1, by omega⟩
    rw [List.getElem?_cons_succ] at hj
    cases i with
    | zero =>
      simp only [List.getElem?_cons_zero, Option.some.injEq] at hi
      subst hi
      have := h.1 _ (List.mem_of_getElem? hj)
      simp at this
    | succ i =>
      rw [List.getElem?_cons_succ] at hi
      exact ih h.2 (by omega) hi hj
theorem lowB_at : ∀ {l : List Oper} {k i : Nat} {o : Oper}, lowB k l = true → l[i]? = some o → ∀ e ∈ o.after, e.on < k + i := by
  intro l
  induction l with
  | nil => intro k i o _ h; simp at h
  | cons a r ih =>
    intro k i o h hi e he
    rw [lowB, Bool.and_eq_true] at h
    cases i with
    | zero =>
      simp only [List.getElem?_cons_zero, Option.some.injEq] at hi
      subst hi
      have := Array.all_eq_true'.1 h.1 e he
      simpa using this
    | succ i =>
      rw [List.getElem?_cons_succ] at hi
      have := ih h.2 hi e he
      omega

/-- The obligation of one operation. -/
def Ob (P : Program) (ops : Array Oper) (n : Nat) (ds : List Deferred) (fixed : List (Tmp × Value)) (C : World → Prop) (specs : List SpecV) (Q : Exit → Act → World → Prop) (i : Nat) (o : Oper) : Prop :=
  ∀ a w, C w → FS n ds fixed a → Deps .any ops (RS specs) o a w → ∀ K : Act → World → Prop, (∀ v w', RS specs i v w' → C w' → Below w.heap.size w w' → K (a.put o.dst v) w') →
    if Region.wanted o (yielded ops a.tmps) = true then o.wp P a w K Q else K (a.put o.dst undef) w

theorem get_op {β : Type} (f : Oper → β) {ops : Array Oper} {k : Nat} {o : Oper} {x : β} (ho : ops[k]? = some o) (h : (ops[k]?).map f = some x) : f o = x := by
  rw [ho] at h; exact Option.some.inj h
theorem dep_of {ops : Array Oper} {specs : List SpecV} {k : Nat} {o : Oper} {a : Act} {w : World} (ho : ops[k]? = some o) (hd : Deps .any ops (RS specs) o a w) (j : Nat) (d : Tmp) (s : SpecV)
    (h1 : ((ops[k]?).map fun o => o.after.any fun e => Region.binds .any e && e.on == j) = some true) (h2 : ((ops[j]?).map (·.dst)) = some (some d)) (h3 : specs[j]? = some s) : ∃ v, a.tmps[d]? = some v ∧ s.ok v w := by
  have h4 := get_op (fun o => o.after.any fun e => Region.binds .any e && e.on == j) ho h1
  obtain ⟨e, he, hb⟩ := Array.any_eq_true'.1 h4
  rw [Bool.and_eq_true, beq_iff_eq] at hb
  cases hj : ops[j]? with
  | none => rw [hj] at h2; cases h2
  | some oj =>
    rw [hj] at h2
    obtain ⟨v, hv, hr⟩ := hd e he hb.1 oj d (by rw [hb.2, hj]) (by simpa using h2)
    exact ⟨v, hv, hr s (by rw [hb.2]; exact h3)⟩

theorem rs_of {specs : List SpecV} {k : Nat} {s0 : SpecV} {v : Value} {w : World} (h : specs[k]? = some s0) (hok : s0.ok v w) : RS specs k v w := fun s hs => by
  rw [h] at hs; cases hs; exact hok
theorem wanted_at {ops : Array Oper} {k g : Nat} {b : Bool} {o : Oper} {a : Act} {d : Tmp} {v : Value} (ho : ops[k]? = some o) (hg : ((ops[k]?).map (·.guard)) = some (some (g, b))) (h2 : ((ops[g]?).map (·.dst)) = some (some d)) (hv : a.tmps[d]? = some v) (he : v = .bool b) : Region.wanted o (yielded ops a.tmps) = true := by
  subst he
  cases hj : ops[g]? with
  | none => rw [hj] at h2; cases h2
  | some og =>
    rw [hj] at h2
    exact wanted_some ops (get_op (·.guard) ho hg) hj (by simpa using h2) hv
theorem enter2 {P : Program} {f : FuncId} {x y : Operand} {vx vy : Value} {tys : Array TypeId} {a : Act} {o : Oper} {w : World} (ho : o.op = .call { callee := .value (.func f), args := #[x, y], argTypes := tys }) (hx : a.eval x = vx) (hy : a.eval y = vy)
    (eg : ∀ args w, (callFunc f args).run P w = .ok (.enter f args) w) : (execOp a.eval o).run P w = .ok (.enter f #[vx, vy]) w := by
  unfold execOp
  rw [ho]
  have hf : a.eval (.func f) = .func (.func f) #[] #[] := rfl
  simp [resolve, invoke, Deferred.ofValue, hx, hy, hf, eg]

theorem end_at {ops : Array Oper} {specs : List SpecV} {a : Act} {w : World} (hr : ∀ (i : Nat) (o : Oper) (d : Tmp), ops[i]? = some o → o.dst = some d → ∃ v, a.tmps[d]? = some v ∧ RS specs i v w) (i : Nat) (d : Tmp) (s : SpecV)
    (h2 : ((ops[i]?).map (·.dst)) = some (some d)) (h3 : specs[i]? = some s) : ∃ v, a.tmps[d]? = some v ∧ s.ok v w := by
  cases hj : ops[i]? with
  | none => rw [hj] at h2; cases h2
  | some oj =>
    rw [hj] at h2
    obtain ⟨v, hv, h⟩ := hr i oj d hj (by simpa using h2)
    exact ⟨v, hv, h s h3⟩

theorem wp_region_spec {P : Program} {id n : Nat} {ops : Array Oper} {Q : Exit → Act → World → Prop} {a : Act} {w : World} {ds : List Deferred} {fixed : List (Tmp × Value)} {C : World → Prop} {specs : List SpecV} (hm : P.follows .mixedOrders = true)
    (hck : checksB ops n (fixed.map (·.1)) = true) (hf : FS n ds fixed a) (hc : C w.drew)
    (hob : ∀ (i : Nat) (o : Oper), ops[i]? = some o → Ob P ops n ds fixed C specs Q i o)
    (hend : ∀ a w, C w → FS n ds fixed a → (∀ (i : Nat) (o : Oper) (d : Tmp), ops[i]? = some o → o.dst = some d → ∃ v, a.tmps[d]? = some v ∧ RS specs i v w) → Q .normal a w) : (Code.region id ops true).wp P Q a w := by
  unfold checksB at hck
  rw [Bool.and_eq_true, Bool.and_eq_true, List.all_eq_true] at hck
  obtain ⟨⟨h1, h2⟩, h3⟩ := hck
  have hat : ∀ {i : Nat} {o : Oper}, ops[i]? = some o → ops.toList[i]? = some o := fun h => by simpa using h
  have hin : ∀ {i : Nat} {o : Oper} {d : Tmp}, ops[i]? = some o → o.dst = some d → d < n ∧ d ∉ fixed.map (·.1) := fun h hd => by
    have := h3 _ (List.mem_of_getElem? (hat h))
    rw [hd] at this
    simpa using this
  refine wp_region_any hm (wpAny_inv (F := FS n ds fixed) (C := C) (R := RS specs) ?_ ?_ ?_ ?_ (fun i v w w' h hb => h.later hb) ?_ hend _ _ _ _ ⟨by simp, hc, hf, fun i o d _ hl _ => ?_⟩ ?_)
  · intro i o ho e he _
    have := lowB_at h1 (hat ho) e he
    omega
  · intro i j o o' d hi hj hij hd hd'
    have hi' : (ops.toList.map (·.dst))[i]? = some (some d) := by rw [List.getElem?_map, hat hi]; simp [hd]
    have hj' : (ops.toList.map (·.dst))[j]? = some (some d) := by rw [List.getElem?_map, hat hj]; simp [hd']
    rcases Nat.lt_or_gt_of_ne hij with h | h
    · exact nodupB_at h2 h hi' hj'
    · exact nodupB_at h2 h hj' hi'
  · intro i o a v ho ⟨q1, q2, q3⟩
    cases hd : o.dst with
    | none => exact ⟨q1, q2, q3⟩
    | some d =>
      obtain ⟨_, hn⟩ := hin ho hd
      refine ⟨by simpa [Act.put] using q1, q2, fun p hp => ?_⟩
      have hne : d ≠ p.1 := fun e => hn (e ▸ List.mem_map_of_mem hp)
      simp [Act.put, hne, q3 p hp]
  · intro i o d a ho hd hf
    rw [hf.1]; exact (hin ho hd).1
  · intro i o ho a w hc hf hd K hK
    refine hob i o ho a w hc hf hd K fun v w' hr hc' hb => hK v w' (fun _ _ => hr) hc' hb
  · rw [Array.getD_eq_getD_getElem?, Array.getElem?_replicate] at hl
    split at hl <;> simp at hl
  · unfold unl
    exact Nat.le_trans List.countP_le_length (by simp)
end Go.Proofs.YtecpbicfiaifdaaGreatDoor
/-
  A drawn region by what holds of each slot, where one operation may consume what holds of another's slot (an append its own row), and what holds of the world may turn with the operations done (a store).
-/
namespace Go.Proofs.YtecpbicfiaifdaaGreatDoor
open Go.RowKit ND

theorem wpAny_ind {P : Program} {md : Region.Mode} {ops : Array Oper} {Q : Exit → Act → World → Prop} {I : Array Bool → Act → World → Prop}
    (hsz : ∀ listed a w, I listed a w → listed.size = ops.size)
    (fin : ∀ listed a w, I listed a w → Region.ready md ops listed = [] → Q .normal a w)
    (step : ∀ listed a w, I listed a w → ∀ i, i ∈ Region.ready md ops listed → ∀ o, ops[i]? = some o → ∀ K : Act → World → Prop, (∀ a' w', I (listed.setIfInBounds i true) a' w' → K a' w') →
      if Region.wanted o (yielded ops a.tmps) = true then o.wp P a w K Q else K (a.put o.dst undef) w) :
    ∀ (fuel : Nat) (listed : Array Bool) (a : Act) (w : World), I listed a w → unl ops.size listed ≤ fuel → wpAny P md ops Q fuel listed a w := by
  intro fuel
  induction fuel with
  | zero =>
    intro listed a w h hu
    have hr : Region.ready md ops listed = [] := by
      refine List.eq_nil_iff_forall_not_mem.2 fun i hi => ?_
      obtain ⟨h1, h2, _⟩ := ready_spec hi
      have := unl_set h1 (by rw [hsz _ _ _ h]; exact h1) h2
      omega
    exact ⟨hr, fin _ _ _ h hr⟩
  | succ fuel ih =>
    intro listed a w h hu
    refine ⟨fin _ _ _ h, fun i hi => ?_⟩
    obtain ⟨h1, h2, o, ho, _⟩ := ready_spec hi
    have hs := unl_set h1 (by rw [hsz _ _ _ h]; exact h1) h2
    have h3 := step listed a w h i hi o ho (fun a' w' => wpAny P md ops Q fuel (listed.setIfInBounds i true) a' w') fun a' w' hI => ih _ _ _ hI (by omega)
    unfold wpOp
    rw [ho]
    simp only
    split
    · rename_i hw; rw [if_pos hw] at h3; exact .inl h3
    · rename_i hw; rw [if_neg hw] at h3; exact h3

/-- What an operation may lean on, where other operations may have consumed it. -/
def DepsK (ops : Array Oper) (kill : Nat → Nat → Bool) (R : Nat → Value → World → Prop) (listed : Array Bool) (o : Oper) (a : Act) (w : World) : Prop :=
  ∀ e ∈ o.after, Region.binds .any e = true → (∀ j, kill e.on j = true → listed.getD j true = false) → ∀ (oe : Oper) (d : Tmp), ops[e.on]? = some oe → oe.dst = some d → ∃ v, a.tmps[d]? = some v ∧ R e.on v w
/-- What holds in the midst of the region. -/
structure InvK (ops : Array Oper) (F : Act → Prop) (kill : Nat → Nat → Bool) (C : Array Bool → World → Prop) (R : Nat → Value → World → Prop) (listed : Array Bool) (a : Act) (w : World) : Prop where
  size : listed.size = ops.size
  c : C listed w
  f : F a
  closed : ∀ (j : Nat) (o : Oper), ops[j]? = some o → listed.getD j false = true → ∀ e ∈ o.after, Region.binds .any e = true → listed.getD e.on false = true
  r : ∀ (i : Nat) (o : Oper) (d : Tmp), ops[i]? = some o → listed.getD i false = true → (∀ j, kill i j = true → listed.getD j true = false) → o.dst = some d → ∃ v, a.tmps[d]? = some v ∧ R i v w
/-- The obligation of one operation. -/
def ObK (P : Program) (ops : Array Oper) (n : Nat) (ds : List Deferred) (fixed : List (Tmp × Value)) (kill : Nat → Nat → Bool) (C : Array Bool → World → Prop) (R : Nat → Value → World → Prop) (Q : Exit → Act → World → Prop) (i : Nat) (o : Oper) : Prop :=
  ∀ listed a w, C listed w → listed.size = ops.size → listed.getD i true = false → (∀ (j : Nat) (o : Oper), ops[j]? = some o → listed.getD j false = true → ∀ e ∈ o.after, Region.binds .any e = true → listed.getD e.on false = true) → FS n ds fixed a → DepsK ops kill R listed o a w → ∀ K : Act → World → Prop, (∀ v w', (∀ d, o.dst = some d → R i v w') → C (listed.setIfInBounds i true) w' → (∀ j u, j ≠ i → kill j i = false → R j u w → R j u w') → K (a.put o.dst v) w') →
    if Region.wanted o (yielded ops a.tmps) = true then o.wp P a w K Q else K (a.put o.dst undef) w

theorem wp_region_kill {P : Program} {id n : Nat} {ops : Array Oper} {Q : Exit → Act → World → Prop} {a : Act} {w : World} {ds : List Deferred} {fixed : List (Tmp × Value)} {kill : Nat → Nat → Bool} {C : Array Bool → World → Prop} {R : Nat → Value → World → Prop} (hm : P.follows .mixedOrders = true)
    (hck : checksB ops n (fixed.map (·.1)) = true) (hf : FS n ds fixed a) (hc : C (Array.replicate ops.size false) w.drew)
    (hob : ∀ (i : Nat) (o : Oper), ops[i]? = some o → ObK P ops n ds fixed kill C R Q i o)
    (hend : ∀ listed a w, (∀ i, i < ops.size → listed.getD i false = true) → C listed w → FS n ds fixed a → (∀ (i : Nat) (o : Oper) (d : Tmp), ops[i]? = some o → (∀ j, kill i j = false) → o.dst = some d → ∃ v, a.tmps[d]? = some v ∧ R i v w) → Q .normal a w) : (Code.region id ops true).wp P Q a w := by
  unfold checksB at hck
  rw [Bool.and_eq_true, Bool.and_eq_true, List.all_eq_true] at hck
  obtain ⟨⟨h1, h2⟩, h3⟩ := hck
  have hat : ∀ {i : Nat} {o : Oper}, ops[i]? = some o → ops.toList[i]? = some o := fun h => by simpa using h
  have hin : ∀ {i : Nat} {o : Oper} {d : Tmp}, ops[i]? = some o → o.dst = some d → d < n ∧ d ∉ fixed.map (·.1) := fun h hd => by
    have := h3 _ (List.mem_of_getElem? (hat h))
    rw [hd] at this
    simpa using this
  have hlow : ∀ (i : Nat) (o : Oper), ops[i]? = some o → ∀ e ∈ o.after, Region.binds .any e = true → e.on < i := fun i o ho e he _ => by
    have := lowB_at h1 (hat ho) e he
    omega
  have hdst : ∀ (i j : Nat) (o o' : Oper) (d : Tmp), ops[i]? = some o → ops[j]? = some o' → i ≠ j → o.dst = some d → o'.dst ≠ some d := fun i j o o' d hi hj hij hd hd' => by
    have hi' : (ops.toList.map (·.dst))[i]? = some (some d) := by rw [List.getElem?_map, hat hi]; simp [hd]
    have hj' : (ops.toList.map (·.dst))[j]? = some (some d) := by rw [List.getElem?_map, hat hj]; simp [hd']
    rcases Nat.lt_or_gt_of_ne hij with h | h
    · exact nodupB_at h2 h hi' hj'
    · exact nodupB_at h2 h hj' hi'
  have hF : ∀ (i : Nat) (o : Oper) (a : Act) (v : Value), ops[i]? = some o → FS n ds fixed a → FS n ds fixed (a.put o.dst v) := fun i o a v ho ⟨q1, q2, q3⟩ => by
    cases hd : o.dst with
    | none => exact ⟨q1, q2, q3⟩
    | some d =>
      obtain ⟨_, hn⟩ := hin ho hd
      refine ⟨by simpa [Act.put] using q1, q2, fun p hp => ?_⟩
      have hne : d ≠ p.1 := fun e => hn (e ▸ List.mem_map_of_mem hp)
      simp [Act.put, hne, q3 p hp]
  refine wp_region_any hm (wpAny_ind (I := InvK ops (FS n ds fixed) kill C R) (fun _ _ _ h => h.size) ?_ ?_ _ _ _ _ ⟨by simp, hc, hf, fun j o _ hl => ?_, fun i o d _ hl _ _ => ?_⟩ ?_)
  · intro listed a w h hr
    have hall := ready_nil h.size hlow hr
    refine hend listed a w hall h.c h.f fun i o d ho hk hd => h.r i o d ho (hall i (Array.getElem?_eq_some_iff.1 ho).1) (fun j hj => ?_) hd
    rw [hk j] at hj; cases hj
  · intro listed a w h i hi o ho K hK
    obtain ⟨g1, g2, o', ho', hdep⟩ := ready_spec hi
    rw [ho] at ho'; cases ho'
    refine hob i o ho listed a w h.c h.size g2 h.closed h.f (fun e he hb hk oe d hoe hd => h.r e.on oe d hoe (hdep e he hb) hk hd) K fun v w' hv hc' hst => hK _ _ ⟨by simpa using h.size, hc', hF i o a v ho h.f, fun j oj hj hlj e he hb => ?_, fun j oj d hj hlj hkj hdj => ?_⟩
    · have up : listed.getD e.on false = true → (listed.setIfInBounds i true).getD e.on false = true := fun hl => by
        rw [Array.getD_eq_getD_getElem?, Array.getElem?_setIfInBounds]
        split
        · split <;> simp_all
        · rw [← Array.getD_eq_getD_getElem?]; exact hl
      by_cases hji : j = i
      · subst hji
        rw [ho] at hj; cases hj
        exact up (hdep e he hb)
      · rw [Array.getD_eq_getD_getElem?, Array.getElem?_setIfInBounds, if_neg (Ne.symm hji)] at hlj
        exact up (h.closed j oj hj (by rw [Array.getD_eq_getD_getElem?]; exact hlj) e he hb)
    by_cases hji : j = i
    · subst hji
      rw [ho] at hj; cases hj
      refine ⟨v, ?_, hv d hdj⟩
      rw [hdj]
      simp [Act.put, h.f.1, (hin ho hdj).1]
    · have hlj' : listed.getD j false = true := by
        rw [Array.getD_eq_getD_getElem?, Array.getElem?_setIfInBounds, if_neg (Ne.symm hji)] at hlj
        rw [Array.getD_eq_getD_getElem?]; exact hlj
      have hset : ∀ m, (listed.setIfInBounds i true).getD m true = false → m ≠ i ∧ listed.getD m true = false := fun m hm => by
        rw [Array.getD_eq_getD_getElem?, Array.getElem?_setIfInBounds] at hm
        by_cases e : m = i
        · subst e
          simp [h.size, g1] at hm
        · rw [if_neg (Ne.symm e)] at hm
          exact ⟨e, by rw [Array.getD_eq_getD_getElem?]; exact hm⟩
      obtain ⟨u, hu1, hu2⟩ := h.r j oj d hj hlj' (fun m hm => (hset m (hkj m hm)).2) hdj
      refine ⟨u, ?_, hst j u hji (by cases hki : kill j i with | false => rfl | true => exact absurd rfl (hset i (hkj i hki)).1) hu2⟩
      cases hod : o.dst with
      | none => exact hu1
      | some d' =>
        have hne : d' ≠ d := fun e => hdst j i oj o d hj ho hji hdj (by rw [hod, e])
        simp [Act.put, hne, hu1]
  · rw [Array.getD_eq_getD_getElem?, Array.getElem?_replicate] at hl
    split at hl <;> simp at hl
  · rw [Array.getD_eq_getD_getElem?, Array.getElem?_replicate] at hl
    split at hl <;> simp at hl
  · unfold unl
    exact Nat.le_trans List.countP_le_length (by simp)

theorem getD_any {l : Array Bool} {k : Nat} (h : k < l.size) (x y : Bool) : l.getD k x = l.getD k y := by
  simp [Array.getD, h]
/-- Whether operation k must wait for operation i. -/
def ancB (ops : Array Oper) : Nat → Nat → Nat → Bool
  | 0, i, k => i == k
  | f + 1, i, k => i == k || match ops[k]? with
    | some o => o.after.any fun e => Region.binds .any e && ancB ops f i e.on
    | none => false
theorem ancB_listed {ops : Array Oper} {listed : Array Bool} (hcl : ∀ (j : Nat) (o : Oper), ops[j]? = some o → listed.getD j false = true → ∀ e ∈ o.after, Region.binds .any e = true → listed.getD e.on false = true) :
    ∀ (f i k : Nat), ancB ops f i k = true → listed.getD k false = true → listed.getD i false = true := by
  intro f
  induction f with
  | zero => intro i k h hk; simp [ancB] at h; subst h; exact hk
  | succ f ih =>
    intro i k h hk
    rw [ancB, Bool.or_eq_true] at h
    rcases h with h | h
    · simp at h; subst h; exact hk
    · cases ho : ops[k]? with
      | none => rw [ho] at h; cases h
      | some o =>
        rw [ho] at h
        obtain ⟨e, he, hb⟩ := Array.any_eq_true'.1 h
        rw [Bool.and_eq_true] at hb
        exact ih i e.on hb.2 (hcl k o ho hk e he hb.1)

/-- What an operation ahead of the store may lean on. -/
def DepsA (ops : Array Oper) (kill : Nat → Nat → Bool) (R : Nat → Value → World → Prop) (i : Nat) (o : Oper) (a : Act) (w : World) : Prop :=
  ∀ e ∈ o.after, Region.binds .any e = true → (∀ j, kill e.on j = true → ancB ops 12 i j = true) → ∀ (oe : Oper) (d : Tmp), ops[e.on]? = some oe → oe.dst = some d → ∃ v, a.tmps[d]? = some v ∧ R e.on v w
/-- An operation ahead of the region's store. -/
def ObA (P : Program) (ops : Array Oper) (n : Nat) (ds : List Deferred) (fixed : List (Tmp × Value)) (kill : Nat → Nat → Bool) (A : World → Prop) (R : Nat → Value → World → Prop) (Q : Exit → Act → World → Prop) (i : Nat) : Prop :=
  ∀ o, ops[i]? = some o → ∀ a w, A w → FS n ds fixed a → DepsA ops kill R i o a w → ∀ K : Act → World → Prop, (∀ v w', R i v w' → A w' → (∀ j u, j ≠ i → kill j i = false → R j u w → R j u w') → K (a.put o.dst v) w') →
    if Region.wanted o (yielded ops a.tmps) = true then o.wp P a w K Q else K (a.put o.dst undef) w
/-- The region's store. -/
def ObB (P : Program) (ops : Array Oper) (n : Nat) (ds : List Deferred) (fixed : List (Tmp × Value)) (kill : Nat → Nat → Bool) (A B : World → Prop) (R : Nat → Value → World → Prop) (Q : Exit → Act → World → Prop) (k : Nat) : Prop :=
  ∀ o, ops[k]? = some o → ∀ a w, A w → FS n ds fixed a → DepsA ops kill R k o a w → ∀ K : Act → World → Prop, (∀ v w', B w' → K (a.put o.dst v) w') →
    if Region.wanted o (yielded ops a.tmps) = true then o.wp P a w K Q else K (a.put o.dst undef) w
/-- A drawn region that ends in its one store. -/
theorem wp_region_store {P : Program} {id n : Nat} {ops : Array Oper} {Q : Exit → Act → World → Prop} {a : Act} {w : World} {ds : List Deferred} {fixed : List (Tmp × Value)} (kill : Nat → Nat → Bool) (A B : World → Prop) (R : Nat → Value → World → Prop) (k : Nat) (hm : P.follows .mixedOrders = true)
    (hck : checksB ops n (fixed.map (·.1)) = true) (hanc : (List.range k).all (fun i => ancB ops 12 i k) = true) (hk : (ops[k]?).map (·.dst) = some none) (hsz : ops.size = k + 1) (hkb : ∀ i j, kill i j = true → j < ops.size) (hf : FS n ds fixed a) (hc : A w.drew)
    (hob : ∀ i, i < k → ObA P ops n ds fixed kill A R Q i)
    (hobk : ObB P ops n ds fixed kill A B R Q k)
    (hend : ∀ a w, B w → FS n ds fixed a → Q .normal a w) : (Code.region id ops true).wp P Q a w := by
  refine wp_region_kill (n := n) (ds := ds) (fixed := fixed) (kill := fun i j => kill i j || j == k) (C := fun listed w => if listed.getD k true = true then B w else A w) (R := R) hm hck hf ?_ (fun i o ho => ?_) ?_
  · rw [if_neg (by rw [Array.getD_eq_getD_getElem?, Array.getElem?_replicate, if_pos (by omega)]; simp)]
    exact hc
  · intro listed a w hC hsl hl hcl hfs hd K hK
    have hi : i < ops.size := (Array.getElem?_eq_some_iff.1 ho).1
    have hlk : listed.getD k true = false := by
      cases h : listed.getD k true with
      | false => rfl
      | true =>
        exfalso
        have hik : i < k := by
          have : i ≠ k := fun e => by subst e; rw [h] at hl; cases hl
          omega
        have h1 := List.all_eq_true.1 hanc i (List.mem_range.2 hik)
        have h2 : listed.getD k false = true := by rw [getD_any (by omega) false true]; exact h
        have h3 := ancB_listed hcl 12 i k h1 h2
        rw [getD_any (by omega) false true, hl] at h3
        cases h3
    have hA : A w := by rw [if_neg (by rw [hlk]; exact Bool.false_ne_true)] at hC; exact hC
    have hdA : DepsA ops kill R i o a w := fun e he hb hk' oe d hoe hde => hd e he hb (fun j hj => by
      rcases Bool.or_eq_true_iff.1 hj with h | h
      · cases hlj : listed.getD j true with
        | false => rfl
        | true =>
          by_cases hjs : j < ops.size
          · have h3 := ancB_listed hcl 12 i j (hk' j h) (by rw [getD_any (by omega) false true]; exact hlj)
            rw [getD_any (by omega) false true, hl] at h3
            cases h3
          · exact absurd (hkb e.on j h) hjs
      · rw [eq_of_beq h]; exact hlk) oe d hoe hde
    by_cases hik : i = k
    · subst hik
      have hdn : o.dst = none := by rw [ho] at hk; simpa using hk
      refine hobk o ho a w hA hfs hdA K fun v w' hB => hK v w' (fun d hd' => by rw [hdn] at hd'; cases hd') ?_ fun j u _ hj _ => ?_
      · show if (listed.setIfInBounds i true).getD i true = true then B w' else A w'
        rw [if_pos (by rw [Array.getD_eq_getD_getElem?, Array.getElem?_setIfInBounds, if_pos rfl, if_pos (by omega)]; rfl)]
        exact hB
      · exact absurd (show (kill j i || i == i) = false from hj) (by simp)
    · refine hob i (by omega) o ho a w hA hfs hdA K fun v w' hR hA' hst => hK v w' (fun _ _ => hR) ?_ fun j u hji hj hr => hst j u hji (by
        cases hkj : kill j i with
        | false => rfl
        | true => exact absurd (show (kill j i || i == k) = false from hj) (by rw [hkj]; simp)) hr
      show if (listed.setIfInBounds i true).getD k true = true then B w' else A w'
      rw [if_neg (by rw [Array.getD_eq_getD_getElem?, Array.getElem?_setIfInBounds, if_neg hik, ← Array.getD_eq_getD_getElem?, hlk]; exact Bool.false_ne_true)]
      exact hA'
  · intro listed a w hall hC hfs _
    have h2 := hall k (by omega)
    have hks : k < listed.size := by
      rcases Nat.lt_or_ge k listed.size with h | h
      · exact h
      · rw [Array.getD_eq_getD_getElem?, Array.getElem?_eq_none h] at h2; cases h2
    rw [if_pos (by rw [getD_any hks true false]; exact h2)] at hC
    exact hend a w hC hfs
end Go.Proofs.YtecpbicfiaifdaaGreatDoor
