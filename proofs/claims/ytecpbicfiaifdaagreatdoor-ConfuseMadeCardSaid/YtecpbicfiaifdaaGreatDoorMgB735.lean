/-
  Merged texts: lemmas and walks that the last text of this claim leans on.
-/
import Derived.Test.YtecpbicfiaifdaaGreatDoorMgB73
import Derived.Test.YtecpbicfiaifdaaGreatDoorMgB74
import Derived.Test.YtecpbicfiaifdaaGreatDoorMgB731
import Derived.Test.YtecpbicfiaifdaaGreatDoorMgB71
import Derived.Test.YtecpbicfiaifdaaGreatDoorMgB724
import Derived.Test.YtecpbicfiaifdaaGreatDoorMgB730
import Derived.Test.YtecpbicfiaifdaaGreatDoorMgB723
import Derived.Test.YtecpbicfiaifdaaGreatDoorMgB716
import Derived.Test.YtecpbicfiaifdaaGreatDoorMgB75
import Derived.Test.YtecpbicfiaifdaaGreatDoorMgB722
import Derived.Test.YtecpbicfiaifdaaGreatDoorMgB728
import Derived.Test.YtecpbicfiaifdaaGreatDoorMgB718
/-
  Tables that are well-formed are short.
-/
namespace Go.Proofs.YtecpbicfiaifdaaGreatDoor
open Go.RowKit ND

theorem short_wf {T : Tab} (h : Shape T) : ShortT 256 T := ⟨h.c0.2.1, h.c1.2.1, h.c2.2.1, h.c3.2.1, h.c4.2.1, h.c5.2.1, h.c6.2.1, h.lx, h.lm, h.ld, h.lenX, h.lp⟩
end Go.Proofs.YtecpbicfiaifdaaGreatDoor
/-
  Below, whatever name the size of the first heap bears.
-/
namespace Go.Proofs.YtecpbicfiaifdaaGreatDoor
open Go.RowKit
theorem below_w {a b c : World} {B : Nat} (h : Below a.heap.size a b) (k : Below b.heap.size b c) (hB : B = a.heap.size := by first | rfl | omega) : Below B a c := hB ▸ below_next h k
end Go.Proofs.YtecpbicfiaifdaaGreatDoor
/-
  A row of slices of the call's own, beside another row of the call's own.
-/
namespace Go.Proofs.YtecpbicfiaifdaaGreatDoor
open Go.RowKit

/-- A row of the call's own that holds slices; none of them lies in the row itself, nor in the block av. -/
def LRowA (w : World) (base : Nat) (v : Value) (yss : List (List Int)) (av : Option Nat) : Prop :=
  ∃ vs : List Value, vs.length = yss.length ∧ w.ownsRow base 22 1 v yss.length vs ∧
    (∀ (i : Nat) (u : Value) (ys : List Int), vs[i]? = some u → yss[i]? = some ys → ∃ A c, u = .slice A ys.length c ∧ Ints w w.heap.size .i64 u ys ∧ ∀ ad, A = some ad → ad.block < w.heap.size ∧ v.ownBlock ≠ some ad.block ∧ av ≠ some ad.block) ∧
    (∀ g, v.ownBlock = some g → av ≠ some g) ∧ (∀ g, av = some g → g < w.heap.size)
theorem grown_of_gr {w w' : World} {v v' : Value} (h : Gr w v w' v') : w.grownBy w' v.ownBlock :=
  ⟨h.1.1, h.1.2.1, h.1.2.2.1, h.1.2.2.2.1, fun k hk hne => h.1.2.2.2.2 k (fun hm => hne (mem_ownS.1 hm).symm) hk⟩
section
variable {w w' : World} {base : Nat} {v : Value} {yss : List (List Int)} {av : Option Nat}
theorem LRowA.nil (w : World) (base : Nat) : LRowA w base (.slice none 0 0) [] none := ⟨[], rfl, World.ownsRow_nil _ _ _ _, fun i u ys h => by simp at h, fun g h => by simp, fun g h => by cases h⟩
theorem LRowA.toL (h : LRowA w base v yss av) : LRow w base v yss := by
  obtain ⟨vs, hl, ho, hr, _, _⟩ := h
  refine ⟨vs, hl, ho, fun i u ys hi hy => ?_⟩
  obtain ⟨A, c, e, h1, h2⟩ := hr i u ys hi hy
  exact ⟨A, c, e, h1, fun ad ha => ⟨(h2 ad ha).1, (h2 ad ha).2.1⟩⟩
theorem LRowA.later (h : LRowA w base v yss av) (hb : Below w.heap.size w w') : LRowA w' base v yss av := by
  obtain ⟨vs, hl, ho, hr, h1, h2⟩ := h
  refine ⟨vs, hl, own_later ho hb, fun i u ys hi hy => ?_, h1, fun g hg => Nat.lt_of_lt_of_le (h2 g hg) hb.size⟩
  obtain ⟨A, c, e, hi', hd⟩ := hr i u ys hi hy
  exact ⟨A, c, e, hi'.later hb, fun ad ha => ⟨Nat.lt_of_lt_of_le (hd ad ha).1 hb.size, (hd ad ha).2⟩⟩
/-- A slice has been appended. -/
theorem LRowA.push (h : LRowA w base v yss av) {v' : Value} {A : Option Addr} {c : Nat} {ys : List Int} (hg : Gr w v w' v') (ho : ∀ ws : List Value, w.ownsRow base 22 1 v yss.length ws → w'.ownsRow base 22 1 v' (yss.length + 1) (ws ++ [.slice A ys.length c]))
    (hu : Ints w w.heap.size .i64 (.slice A ys.length c) ys) (hd : ∀ ad, A = some ad → ad.block < w.heap.size ∧ v.ownBlock ≠ some ad.block ∧ av ≠ some ad.block) : LRowA w' base v' (yss ++ [ys]) av := by
  obtain ⟨ws, hl, ho0, hr, h1, h2⟩ := h
  have hsz := hg.1.2.2.2.1
  have hne : ∀ (A : Option Addr), (∀ ad, A = some ad → ad.block < w.heap.size ∧ v.ownBlock ≠ some ad.block ∧ av ≠ some ad.block) → ∀ ad, A = some ad → ad.block < w'.heap.size ∧ v'.ownBlock ≠ some ad.block ∧ av ≠ some ad.block := fun A h1 ad ha => by
    refine ⟨by have := (h1 ad ha).1; omega, fun he => ?_, (h1 ad ha).2.2⟩
    rcases hg.2 with h3 | h3
    · rw [h3] at he; exact (h1 ad ha).2.1 he
    · have := h3 _ he
      have := (h1 ad ha).1
      omega
  refine ⟨ws ++ [.slice A ys.length c], by simp [hl], by simpa using ho ws ho0, fun i u zs hi hz => ?_, fun g he hav => ?_, fun g hav => Nat.lt_of_lt_of_le (h2 g hav) hsz⟩
  · by_cases hlt2 : i < yss.length
    · rw [List.getElem?_append_left (by omega)] at hi hz
      obtain ⟨A2, c2, e2, h2, h3⟩ := hr i u zs hi hz
      exact ⟨A2, c2, e2, ints_far hg h2 e2 fun ad ha => (h3 ad ha).2.1, hne A2 h3⟩
    · rw [List.getElem?_append_right (by omega)] at hi hz
      have hi0 : i - yss.length = 0 := by
        have := (List.getElem?_eq_some_iff.1 hz).1
        simp at this; omega
      rw [hi0] at hz
      rw [hl, hi0] at hi
      simp at hi hz
      subst hi hz
      exact ⟨A, c, rfl, ints_far hg hu rfl fun ad ha => (hd ad ha).2.1, hne A hd⟩
  · rcases hg.2 with h3 | h3
    · rw [h3] at he; exact h1 g he hav
    · have := h3 g he; have := h2 g hav; omega
theorem LRowA.above (h : LRowA w base v yss av) : ∀ g, v.ownBlock = some g → base ≤ g := by
  obtain ⟨_, _, ho, _⟩ := h
  exact fun g hg => (own_base ho g hg).1
theorem LRowA.apart (h : LRowA w base v yss av) : ∀ g, v.ownBlock = some g → av ≠ some g := by
  obtain ⟨_, _, _, _, h1, _⟩ := h
  exact h1
theorem LRowA.lt (h : LRowA w base v yss av) : (∀ g, v.ownBlock = some g → g < w.heap.size) ∧ ∀ g, av = some g → g < w.heap.size := by
  obtain ⟨_, _, ho, _, _, h2⟩ := h
  exact ⟨fun g hg => (own_base ho g hg).2, h2⟩
/-- The other row has grown. -/
theorem LRowA.other {vo vo' : Value} (h : LRowA w base v yss vo.ownBlock) (hg : Gr w vo w' vo') (hs : ∀ g, vo'.ownBlock = some g → g < w'.heap.size) : LRowA w' base v yss vo'.ownBlock := by
  obtain ⟨vs, hl, ho, hr, h1, h2⟩ := h
  have hsz := hg.1.2.2.2.1
  refine ⟨vs, hl, ho.kept (grown_of_gr hg) ?_, fun i u ys hi hy => ?_, fun g he => ?_, hs⟩
  · cases hv : v.ownBlock with
    | none => exact .inl rfl
    | some g => exact .inr fun e => h1 g hv e.symm
  · obtain ⟨A, c, e, hi', hd⟩ := hr i u ys hi hy
    refine ⟨A, c, e, ints_far hg hi' e fun ad ha => (hd ad ha).2.2, fun ad ha => ⟨Nat.lt_of_lt_of_le (hd ad ha).1 hsz, (hd ad ha).2.1, fun he => ?_⟩⟩
    rcases hg.2 with h3 | h3
    · rw [h3] at he; exact (hd ad ha).2.2 he
    · have := h3 _ he; have := (hd ad ha).1; omega
  · rcases hg.2 with h3 | h3
    · rw [h3]; exact h1 g he
    · intro hv
      have := h3 g hv
      have := (ho.lt g he).2
      omega
/-- A row that is not the one that has grown. -/
theorem own_other {e : TypeId} {size n : Nat} {vo v' : Value} {xs : List Value} (h : w.ownsRow base e size vo n xs) (hg : Gr w v w' v') (hne : ∀ g, v.ownBlock = some g → vo.ownBlock ≠ some g) : w'.ownsRow base e size vo n xs :=
  h.kept (grown_of_gr hg) (by
    cases hv : vo.ownBlock with
    | none => exact .inl rfl
    | some g => exact .inr fun e => hne g e.symm hv)
end
/-- append(v, u): one slice onto a row of slices. -/
theorem wpList_append_sliceA {P : Program} {ops : Array Oper} {rest : List Oper} {o : Oper} {a : Act} {w : World} {Q : Exit → Act → World → Prop} {T : TypeId} {i0 : TypeInfo} (hw : Region.wanted o (yielded ops a.tmps) = true) (s x : Operand)
    (ho : o.op = .call { callee := .builtin .append, args := #[s, x], argTypes := #[T, T] }) (ht : P.underlying T = some (.slice 22)) (hi : P.info? 22 = some i0) (hz : i0.zero = some (.slice none 0 0)) (h1 : i0.size = 1) (h2 : i0.bytes = 24)
    (base : Nat) (v : Value) (yss : List (List Int)) (ad : Addr) (A : Option Addr) (c : Nat) (ys : List Int) (hs : a.eval s = v) (av : Option Nat) (hown : LRowA w base v yss av) (hx : a.eval x = .slice (some ad) 1 1) (hc : w.cell? ad = some (.slice A ys.length c))
    (hu : Ints w w.heap.size .i64 (.slice A ys.length c) ys) (hd : ∀ ad, A = some ad → ad.block < w.heap.size ∧ v.ownBlock ≠ some ad.block ∧ av ≠ some ad.block) (hl : yss.length ≤ 1000000) (hb : base ≤ w.heap.size)
    (h : ∀ v' w', LRowA w' base v' (yss ++ [ys]) av → Gr w v w' v' → wpList P ops Q rest (a.put o.dst v') w') : wpList P ops Q (o :: rest) a w := by
  refine wpList_step fun K hK => ?_
  rw [if_pos hw]
  obtain ⟨ws, hwl, hown0, _, _, _⟩ := id hown
  have hnews : ∀ (j : Nat) (q : Value), [Value.slice A ys.length c][j]? = some q → w.cell? (ad.add j) = some q := by
    intro j q hq
    cases j with
    | zero => simp at hq; subst hq; rw [← hc]; simp [Addr.add]
    | succ j => simp at hq
  have hone : ∀ q ∈ [Value.slice A ys.length c], q.oneCell' = true := by intro q hq; simp at hq; subst hq; rfl
  obtain ⟨v', w', hr, ho', hg', _⟩ := run_append_own (P := P) w base T o.type 22 i0 (.slice none 0 0) 1 24 ht hi hz h1 h2 rfl (by omega) v yss.length ws hown0 ad 1 1 [.slice A ys.length c] (by simp) hnews hone (by unfold maxLen; omega) (by omega) hb
  have hst : v'.ownBlock = v.ownBlock ∨ ∀ g, v'.ownBlock = some g → w.heap.size ≤ g := by
    have h63' : yss.length + 1 ≤ maxLen := by unfold maxLen; omega
    rcases hown0.2 with ⟨rfl, h0⟩ | ⟨g, cap, cur, rfl, hbg, hg, hnc, hcm, hcs, htake⟩
    · have hx : ws = [] := List.eq_nil_of_length_eq_zero (by omega)
      obtain ⟨v2, w2, e2, ho2, _⟩ := run_append_own (P := P) w w.heap.size T o.type 22 i0 (.slice none 0 0) 1 24 ht hi hz h1 h2 rfl (by omega) (.slice none 0 0) 0 [] (World.ownsRow_nil _ _ _ _) ad 1 1 [.slice A ys.length c] (by simp) hnews hone (by unfold maxLen; omega) (by omega) (Nat.le_refl _)
      rw [hr] at e2; cases e2
      exact .inr fun g hg => (own_base ho2 g hg).1
    · by_cases hroom : yss.length + 1 ≤ cap
      · have e2 := run_append_room (P := P) w T o.type 22 i0 ht hi g yss.length cap cur hg ad 1 1 [.slice A ys.length c] (by simp [h1]) hnews hone hroom (by rw [h1, hcs]; simp; omega)
        rw [hr] at e2; cases e2
        exact .inl rfl
      · obtain ⟨v2, w2, e2, ho2, _⟩ := run_append_arg_grows (P := P) w T o.type 22 i0 (.slice none 0 0) 1 24 ht hi hz h1 h2 rfl (by omega) ⟨g, 0, none⟩ yss.length cap ws hown0.1 (hown0.cells (g := g) rfl) ad 1 1 [.slice A ys.length c] (by simp) hnews (by omega) h63' (by omega)
        rw [hr] at e2; cases e2
        exact .inr fun q hq => (own_base ho2 q hq).1
  have hG : Gr w v w' v' := ⟨onlyIn.of_own hg' fun g hg => mem_ownS.2 hg, hst⟩
  have h3 := hK _ _ (h v' w' (hown.push hG (fun ws2 ho2 => by
    obtain ⟨v3, w3, hr3, ho3, _⟩ := run_append_own (P := P) w base T o.type 22 i0 (.slice none 0 0) 1 24 ht hi hz h1 h2 rfl (by omega) v yss.length ws2 ho2 ad 1 1 [.slice A ys.length c] (by simp) hnews hone (by unfold maxLen; omega) (by omega) hb
    rw [hr] at hr3; cases hr3
    exact ho3) hu hd) hG)
  unfold Oper.wp execOp
  simp only [ho, resolve, invoke, builtin, Sem.run_bind, Sem.run_pure, Result.andThen_ok, List.map_toArray, List.map_cons, List.map_nil, hs, hx, hr]
  exact h3
end Go.Proofs.YtecpbicfiaifdaaGreatDoor
/-
  What skeleton.Of hands back, by cases.
-/
namespace Go.Proofs.YtecpbicfiaifdaaGreatDoor
open Go.RowKit ND

theorem skelM_step {T : Tab} {l : List Int} {k : Nat} {x : Int} (h : l[k]? = some x) : skelM T (l.take (k + 1)) = skelM T (l.take k) ++ protoOne T x := by
  obtain ⟨h1, e⟩ := List.getElem?_eq_some_iff.1 h
  rw [List.take_succ_eq_append_getElem h1, skelM_app, e]
  simp [skelM]
theorem proto_ign {T : Tab} {x : Int} (h : T.ignB x = true) : protoOne T x = [] := by unfold protoOne; rw [if_pos h]
theorem proto_some {T : Tab} {x : Int} (h : T.ignB x = false) (h2 : findL T.prototypes x ≠ []) : protoOne T x = findL T.prototypes x := by unfold protoOne; rw [if_neg (by rw [h]; simp), if_pos h2]
theorem proto_none {T : Tab} {x : Int} (h : T.ignB x = false) (h2 : findL T.prototypes x = []) : protoOne T x = [x] := by unfold protoOne; rw [if_neg (by rw [h]; simp), if_neg (by rw [h2]; simp)]
theorem proto_flen {T : Tab} (h : T.check = 0) (x : Int) : (findL T.prototypes x).length ≤ 18 := by
  by_cases h2 : findL T.prototypes x = []
  · rw [h2]; simp
  · exact (proOk_of h).len _ (findL_mem h2)
theorem skelR_e1 {T : Tab} {l d : List Int} {e : Int} (h1 : nfdR T (accE T l) l = (d, e)) (h : e ≠ 0) : skelR T l = ([], e) := by
  unfold skelR; rw [h1]; simp only; rw [if_pos h]
theorem skelR_e2 {T : Tab} {l d m : List Int} {f : Int} (h1 : nfdR T (accE T l) l = (d, 0)) (h2 : skmR T (accE T d) d = (m, f)) (h : f ≠ 0) : skelR T l = ([], f) := by
  unfold skelR; rw [h1]; simp only; rw [if_neg (by simp), h2]; simp only; rw [if_pos h]
theorem skelR_e3 {T : Tab} {l d m : List Int} (h1 : nfdR T (accE T l) l = (d, 0)) (h2 : skmR T (accE T d) d = (m, 0)) : skelR T l = nfdR T (accE T m) m := by
  unfold skelR; rw [h1]; simp only; rw [if_neg (by simp), h2]; simp only; rw [if_neg (by simp)]
/-- Whether a sequence is its own skeleton. -/
def isSkB (T : Tab) (xs : List Int) : Bool := (skelR T xs).2 == 0 && decide ((skelR T xs).1 = xs)
end Go.Proofs.YtecpbicfiaifdaaGreatDoor
/-
  What confuse hands back, by cases.
-/
namespace Go.Proofs.YtecpbicfiaifdaaGreatDoor
open Go.RowKit ND

/-- What both hands back. -/
def bothR (T : Tab) (a b : List Int) : List Int × List Int × Int := if (skelR T a).2 ≠ 0 then ([], [], (skelR T a).2) else if (skelR T b).2 ≠ 0 then ([], [], (skelR T b).2) else ((skelR T a).1, (skelR T b).1, 0)
theorem bothR_e (T : Tab) (a b : List Int) : (bothR T a b).2.2 = bothE T a b := by
  unfold bothR bothE
  split
  · rfl
  · split
    · rfl
    · rename_i h; simp at h; simp [h]
theorem bothR_ok {T : Tab} {a b : List Int} (h : bothE T a b = 0) : bothR T a b = ((skelR T a).1, (skelR T b).1, 0) := by
  unfold bothE at h
  unfold bothR
  split at h
  · rename_i h1; exact absurd h h1
  · rename_i h1; rw [if_neg h1, if_neg (by rw [h]; simp)]
theorem bothR_1 {T : Tab} {a b x : List Int} {e : Int} (h : skelR T a = (x, e)) (h1 : e ≠ 0) : bothR T a b = ([], [], e) := by unfold bothR; rw [h]; simp only; rw [if_pos h1]
theorem bothR_2 {T : Tab} {a b x y : List Int} {e : Int} (h : skelR T a = (x, 0)) (h2 : skelR T b = (y, e)) (h1 : e ≠ 0) : bothR T a b = ([], [], e) := by unfold bothR; rw [h, h2]; simp only; rw [if_neg (by simp), if_pos h1]
theorem bothR_3 {T : Tab} {a b x y : List Int} (h : skelR T a = (x, 0)) (h2 : skelR T b = (y, 0)) : bothR T a b = (x, y, 0) := by unfold bothR; rw [h, h2]; simp
theorem sameR_of {T : Tab} {a b x y : List Int} {e : Int} (h : bothR T a b = (x, y, e)) : sameR T a b = (e == 0 && decide (x = y), e) ∨ (e ≠ 0 ∧ sameR T a b = (false, e)) := by
  have he := bothR_e T a b
  rw [h] at he
  simp only at he
  unfold sameR
  rw [← he]
  by_cases h0 : e = 0
  · have := bothR_ok (T := T) (a := a) (b := b) (by rw [← he, h0])
    rw [h] at this
    cases this
    exact .inl rfl
  · refine .inr ⟨h0, ?_⟩
    have : (e == 0) = false := by simpa using h0
    rw [this]; rfl
theorem differR_of {T : Tab} {a b x y : List Int} {e : Int} (h : bothR T a b = (x, y, e)) : (e ≠ 0 ∧ differR T a b = (0, e)) ∨ (e = 0 ∧ differR T a b = (diffGo 0 x y, 0)) := by
  have he := bothR_e T a b
  rw [h] at he
  simp only at he
  unfold differR
  rw [← he]
  by_cases h0 : e = 0
  · have := bothR_ok (T := T) (a := a) (b := b) (by rw [← he, h0])
    rw [h] at this
    cases this
    exact .inr ⟨rfl, by rw [if_neg (by simp)]; rfl⟩
  · exact .inl ⟨h0, by rw [if_pos h0]⟩
/-- The first place of which p holds, or -1. -/
def idxGo (p : List Int → Bool) : Nat → List (List Int) → Int
  | _, [] => -1
  | i, y :: r => if p y = true then (i : Int) else idxGo p (i + 1) r
theorem idx_hit {p : List Int → Bool} {l : List (List Int)} {j : Nat} {y : List Int} {R : Int} (hy : l[j]? = some y) (h : idxGo p j (l.drop j) = R) (hp : p y = true) : R = (j : Int) := by
  obtain ⟨h1, e⟩ := List.getElem?_eq_some_iff.1 hy
  rw [List.drop_eq_getElem_cons h1, e, idxGo, if_pos hp] at h; exact h.symm
theorem idx_go {p : List Int → Bool} {l : List (List Int)} {j : Nat} {y : List Int} {R : Int} (hy : l[j]? = some y) (h : idxGo p j (l.drop j) = R) (hp : p y = false) : idxGo p (j + 1) (l.drop (j + 1)) = R := by
  obtain ⟨h1, e⟩ := List.getElem?_eq_some_iff.1 hy
  rw [List.drop_eq_getElem_cons h1, e, idxGo, if_neg (by rw [hp]; simp)] at h; exact h
theorem idx_end {p : List Int → Bool} {l : List (List Int)} {j : Nat} {R : Int} (hj : l.length ≤ j) (h : idxGo p j (l.drop j) = R) : R = -1 := by
  rw [List.drop_of_length_le hj] at h; exact h.symm
/-- Two sequences come back, and an error. -/
def RetBoth (w : World) (r : List Int × List Int × Int) (e : Ending) (w' : World) : Prop :=
  ∃ v u, e = .returned (.tuple #[v, u, .int .i64 r.2.2]) ∧ Ints w' w'.heap.size .i64 v r.1 ∧ Ints w' w'.heap.size .i64 u r.2.1 ∧ Below w.heap.size w w'
end Go.Proofs.YtecpbicfiaifdaaGreatDoor
/-
  The class of a sequence out of the index of its skeleton, in plain Lean.
-/
namespace Go.Proofs.YtecpbicfiaifdaaGreatDoor
open Go.RowKit ND

theorem idx_spec (p : List Int → Bool) : ∀ (l : List (List Int)) (i : Nat), (idxGo p i l = -1 ∧ ∀ y ∈ l, p y = false) ∨ ∃ j y, l[j]? = some y ∧ idxGo p i l = ((i + j : Nat) : Int) ∧ p y = true ∧ ∀ q z, q < j → l[q]? = some z → p z = false := by
  intro l
  induction l with
  | nil => intro i; exact .inl ⟨rfl, by simp⟩
  | cons x r ih =>
    intro i
    rw [idxGo]
    cases hx : p x with
    | true => exact .inr ⟨0, x, rfl, by simp, hx, fun q z h => by omega⟩
    | false =>
      rw [if_neg (by simp)]
      rcases ih (i + 1) with ⟨h1, h2⟩ | ⟨j, y, h1, h2, h3, h4⟩
      · exact .inl ⟨h1, fun y hy => by rcases List.mem_cons.1 hy with rfl | hy; exact hx; exact h2 y hy⟩
      · refine .inr ⟨j + 1, y, by simpa using h1, by rw [h2]; congr 1; omega, h3, fun q z hq hz => ?_⟩
        cases q with
        | zero => simp at hz; subst hz; exact hx
        | succ q => exact h4 q z (by omega) (by simpa using hz)
/-- The index among those ahead, or its own place: the class. -/
theorem class_idx {ss : List (List Int)} {k : Nat} {s : List Int} (hs : ss[k]? = some s) :
    (idxGo (fun y => decide (y = s)) 0 (ss.take k) = -1 ∧ classOfI ss s = (k : Int)) ∨ (0 ≤ idxGo (fun y => decide (y = s)) 0 (ss.take k) ∧ classOfI ss s = idxGo (fun y => decide (y = s)) 0 (ss.take k) ∧ idxGo (fun y => decide (y = s)) 0 (ss.take k) < (k : Int)) := by
  have hk := (List.getElem?_eq_some_iff.1 hs).1
  rcases idx_spec (fun y => decide (y = s)) (ss.take k) 0 with ⟨h1, h2⟩ | ⟨j, y, h1, h2, h3, h4⟩
  · refine .inl ⟨h1, ?_⟩
    unfold classOfI
    rw [firstI_at hs fun j x hj hx => ?_]
    have hm : x ∈ ss.take k := List.mem_of_getElem? (i := j) (by rw [List.getElem?_take, if_pos hj]; exact hx)
    have := h2 x hm
    exact of_decide_eq_false this
  · have hjk : j < k := by
      have := (List.getElem?_eq_some_iff.1 h1).1
      rw [List.length_take] at this; omega
    rw [List.getElem?_take, if_pos hjk] at h1
    have e : y = s := of_decide_eq_true h3
    subst e
    refine .inr ⟨by rw [h2]; omega, ?_, by rw [h2]; omega⟩
    unfold classOfI
    rw [firstI_at h1 fun q x hq hx => ?_, h2, Nat.zero_add]
    have := h4 q x hq (by rw [List.getElem?_take, if_pos (by omega)]; exact hx)
    exact of_decide_eq_false this
theorem take_snoc21 {α : Type} {l : List α} {k : Nat} {x : α} (h : l[k]? = some x) : l.take (k + 1) = l.take k ++ [x] := by
  obtain ⟨h1, e⟩ := List.getElem?_eq_some_iff.1 h
  rw [List.take_succ_eq_append_getElem h1, e]
theorem classesR_full {T : Tab} {ls : List (List Int)} (h : 256 < ls.length) : classesR T ls = ([], 7) := by unfold classesR; rw [if_pos h]
theorem classesR_err {T : Tab} {ls : List (List Int)} (h : ls.length ≤ 256) {e : Int} (h1 : firstE T ls = e) (h2 : e ≠ 0) : classesR T ls = ([], e) := by unfold classesR; rw [if_neg (by omega), if_pos (by rw [h1]; exact h2), h1]
theorem classesR_ok {T : Tab} {ls : List (List Int)} (h : ls.length ≤ 256) (h1 : firstE T ls = 0) : classesR T ls = (classesL T ls, 0) := by unfold classesR; rw [if_neg (by omega), if_neg (by omega)]
theorem firstE_hit {T : Tab} {ls : List (List Int)} {k : Nat} {l s : List Int} {e : Int} (hl : ls[k]? = some l) (h : firstE T (ls.drop k) = firstE T ls) (hs : skelR T l = (s, e)) (he : e ≠ 0) : firstE T ls = e := by
  rw [← h, firstE_step hl, hs]; simp only; rw [if_pos he]
theorem firstE_go {T : Tab} {ls : List (List Int)} {k : Nat} {l s : List Int} (hl : ls[k]? = some l) (h : firstE T (ls.drop k) = firstE T ls) (hs : skelR T l = (s, 0)) : firstE T (ls.drop (k + 1)) = firstE T ls := by
  rw [← h, firstE_step hl, hs]; simp
theorem firstE_end {T : Tab} {ls : List (List Int)} {k : Nat} (hk : ls.length ≤ k) (h : firstE T (ls.drop k) = firstE T ls) : firstE T ls = 0 := by
  rw [← h, List.drop_of_length_le hk]; rfl
theorem skels_snoc {T : Tab} {ls : List (List Int)} {k : Nat} {l s : List Int} {e : Int} (hl : ls[k]? = some l) (hs : skelR T l = (s, e)) : (skels T ls)[k]? = some s := by rw [skels_at hl, hs]
theorem classes_snoc {T : Tab} {ls : List (List Int)} {k : Nat} {l s : List Int} {e : Int} (hl : ls[k]? = some l) (hs : skelR T l = (s, e)) : (classesL T ls)[k]? = some (classOfI (skels T ls) s) := by rw [classesL_at hl, hs]
theorem own_addr {w : World} {base : Nat} {e : TypeId} {A : Option Addr} {n c m : Nat} {xs : List Value} (h : w.ownsRow base e 1 (.slice A n c) m xs) : ∀ ad, A = some ad → base ≤ ad.block ∧ ad.block < w.heap.size := by
  intro ad ha
  subst ha
  rcases h.2 with ⟨h0, _⟩ | ⟨g, cap, cur, h0, _⟩
  · cases h0
  · cases h0
    exact own_base h g rfl
end Go.Proofs.YtecpbicfiaifdaaGreatDoor
/-
  The walk through the words of the laws of layer 21.
-/
namespace Go.Proofs.YtecpbicfiaifdaaGreatDoor
open Go.RowKit ND

def lit21 : List Int := [97, 109, 114, 110, 1072, 945, 111, 48, 769, 7680, 173]
theorem lit21_scal : ∀ c ∈ lit21, scalarB c = true := by decide
theorem LRowA.nil2 {w : World} {base g : Nat} (hg : g < w.heap.size) : LRowA w base (.slice none 0 0) [] (some g) := ⟨[], rfl, World.ownsRow_nil _ _ _ _, fun i u ys h => by simp at h, (fun g h => by cases h), fun g' h => by cases h; exact hg⟩
/-- Nothing but the block g and new ones has turned. -/
theorem LRowA.only {w w' : World} {base g : Nat} {v : Value} {yss : List (List Int)} (h : LRowA w base v yss (some g)) (ho : onlyIn [g] w w') : LRowA w' base v yss (some g) := by
  have hlt := h.lt.2 g rfl
  have hs := ho.2.2.2.1
  exact LRowA.other (vo := .slice (some ⟨g, 0, none⟩) 0 1) (vo' := .slice (some ⟨g, 0, none⟩) 0 1) h ⟨ho, .inl rfl⟩ (fun q hq => by cases hq; exact Nat.lt_of_lt_of_le hlt hs)
/-- A few short sequences come back, in a row of the call's own. -/
def RetWrd (w : World) (e : Ending) (w' : World) : Prop :=
  ∃ (v : Value) (yss : List (List Int)), e = .returned v ∧ Lists w' w'.heap.size v yss ∧ yss.length ≤ 6 ∧ (∀ ys ∈ yss, ys.length ≤ 3 ∧ ys.all scalarB = true) ∧ Below w.heap.size w w'
set_option maxRecDepth 100000 in
set_option maxHeartbeats 8000000 in
theorem words21_any (w : World) (v : Value) (xs : List Int) (hv : Ints w w.heap.size .i64 v xs) (infoRow : (Tryz.prog.info? 22).map (fun i => (i.zero, i.size, i.bytes)) = some (some (.slice none 0 0), 1, 24)) : Calls Tryz.prog 28 #[v] w (RetWrd w) := by
  obtain ⟨i0, hi, hz0, hz1, hz2⟩ := info_parts Tryz.infoInt'
  obtain ⟨j0, hj, hy0, hy1, hy2⟩ := info_parts infoRow
  clear infoRow
  obtain ⟨A, c, rfl⟩ : ∃ A c, v = .slice A xs.length c := by obtain ⟨A, c, h, _⟩ := hv; exact ⟨A, c, h⟩
  go_enter Tryz.func28, Tryz.ntmps28
  go_wp2_with fail
  refine (from_any A xs.length c w).mono ?_
  rintro e w1 ⟨rfl, rfl⟩
  have hs1 : Src (w.alloc (.cells #[.slice A xs.length c, .int .i64 0] 87)) w.heap.size (.slice A xs.length c) xs.length := ⟨0, Nat.zero_le _, Blk.new w _ _⟩
  have hbel1 : Below w.heap.size w (w.alloc (.cells #[.slice A xs.length c, .int .i64 0] 87)) := (Below.refl _ _).alloc (Nat.le_refl _) _
  have hsz1 : w.heap.size + 1 ≤ (w.alloc (.cells #[.slice A xs.length c, .int .i64 0] 87)).heap.size := by simp
  generalize w.alloc (.cells #[.slice A xs.length c, .int .i64 0] 87) = w1 at *
  obtain ⟨g, hg⟩ : ∃ g, w.heap.size = g := ⟨_, rfl⟩
  rw [hg] at hv hs1 hbel1 hsz1
  simp only [hg]
  have hv1 := hv.below hbel1
  go_wp2_with fail
  refine (next_src w1 g _ xs 7 hv1 hs1 (by decide) (by decide)).mono ?_
  rintro e w2 ⟨r, rfl, hr0, hr1, hs2, hg2⟩
  have hbel2 := below_of_grown hbel1 hg2 (Nat.le_refl _) (by omega)
  have hsz2 := Nat.le_trans hsz1 hg2.size
  obtain ⟨m0, rfl⟩ := Int.eq_ofNat_of_zero_le hr0
  have hm0 : m0 ≤ 6 := by omega
  have HS2 := Lib.hid hs2
  have HB2 := Lib.hid hbel2
  have HV := Lib.hid hv
  have HG := Lib.hid hg
  clear hs2 hs1 hbel1 hsz1 hv1 hg2 hr0 hr1 hv hbel2 hg
  go_wp2_with fail
  go_loopw [4, 5] (fun t4 n wr => ∃ (m : Nat) (v4 : Value) (yss : List (List Int)), v4 = t4 ∧ n = .int .i64 m ∧ yss.length + m ≤ 6 ∧ Hid (LRowA wr (g + 1) v4 yss (some g)) ∧ Hid (∀ ys ∈ yss, ys.length ≤ 3 ∧ ys.all scalarB = true) ∧ Hid (Src wr g (.slice A xs.length c) xs.length) ∧ Hid (Below g w wr) ∧ g + 1 ≤ wr.heap.size) (fun _ n _ => (intOf n).toNat)
  case atStart => exact ⟨m0, _, [], rfl, rfl, by simpa using hm0, Lib.hid (LRowA.nil2 (by omega)), Lib.hid (by simp), HS2, HB2, hsz2⟩
  case round =>
    clear HS2 HB2 hsz2 hm0
    obtain ⟨m, v4, yss, rfl, rfl, hm, HL, HP, HS, HB, hsz⟩ := hrel
    by_cases hlt : 0 < m
    · have hv' := HV.out.below HB.out
      go_wp2_with fail
      refine (next_src wr g _ xs 4 hv' HS.out (by decide) (by decide)).mono ?_
      rintro e w3 ⟨r, rfl, hr0, hr1, hs3, hg3⟩
      obtain ⟨q0, rfl⟩ := Int.eq_ofNat_of_zero_le hr0
      have hq0 : q0 ≤ 3 := by omega
      have HS3 := Lib.hid hs3
      have HL3 := Lib.hid (HL.out.only (onlyIn.of_grown hg3 (by simp)))
      have HB3 := Lib.hid (below_of_grown HB.out hg3 (Nat.le_refl _) (by omega))
      have hsz3 := Nat.le_trans hsz hg3.size
      clear hv' hs3 hg3 hr0 hr1 HS HL HB hsz
      go_wp2_with fail
      go_loopw [6, 7] (fun t6 n wx => ∃ (q : Nat) (acc : List Int) (A6 : Option Addr) (c6 : Nat), t6 = .slice A6 acc.length c6 ∧ n = .int .i64 q ∧ acc.length + q ≤ 3 ∧ Hid (wx.ownsRow w3.heap.size 3 1 (.slice A6 acc.length c6) acc.length (acc.map (Value.int .i64))) ∧ Hid (acc.all scalarB = true) ∧ Hid (Src wx g (.slice A xs.length c) xs.length) ∧ Hid (onlyIn [g] w3 wx)) (fun _ n _ => (intOf n).toNat)
      case atStart => exact ⟨q0, [], none, 0, rfl, rfl, by simpa using hq0, Lib.hid (World.ownsRow_nil _ _ _ _), Lib.hid rfl, HS3, Lib.hid (onlyIn.refl _ _)⟩
      case round =>
        clear HS3 hq0
        obtain ⟨q, acc, A6, c6, rfl, rfl, hq, HO, HA, HS, HN⟩ := hrel
        have hszx : w3.heap.size ≤ wr.heap.size := HN.out.2.2.2.1
        have HBx := Lib.hid (HB3.out.trans (HN.out.below (B := g) (by simp) (by omega)))
        by_cases hlq : 0 < q
        · have hgl := grown_alloc wr (.cells #[.int .i64 97, .int .i64 109, .int .i64 114, .int .i64 110, .int .i64 1072, .int .i64 945, .int .i64 111, .int .i64 48, .int .i64 769, .int .i64 7680, .int .i64 173] 3) (some g)
          have hvx := HV.out.below (HBx.out.alloc (by omega) (.cells #[.int .i64 97, .int .i64 109, .int .i64 114, .int .i64 110, .int .i64 1072, .int .i64 945, .int .i64 111, .int .i64 48, .int .i64 769, .int .i64 7680, .int .i64 173] 3))
          go_wp2_with fail
          refine (next_src _ g _ xs 11 hvx (HS.out.alloc _) (by decide) (by decide)).mono ?_
          rintro e w5 ⟨s, rfl, hs0, hs1', hs5, hg5⟩
          have hk := cell_kept wr.heap.size (cells_new wr [.int .i64 97, .int .i64 109, .int .i64 114, .int .i64 110, .int .i64 1072, .int .i64 945, .int .i64 111, .int .i64 48, .int .i64 769, .int .i64 7680, .int .i64 173] 3) hg5 (by simp) (by have := HS.out.lt; omega)
          obtain ⟨j, rfl⟩ := Int.eq_ofNat_of_zero_le hs0
          have hjl : j < lit21.length := by show j < 11; omega
          obtain ⟨x, hx, hxm⟩ := get_of hjl
          have k0 := hk j (.int .i64 x) (by
            have h : (lit21.map (Value.int .i64))[j]? = some (.int .i64 x) := by rw [List.getElem?_map, hx]; rfl
            exact h)
          have hxs := lit21_scal x hxm
          have HA5 := Lib.hid (show (acc ++ [x]).all scalarB = true by rw [List.all_append, HA.out]; simp [hxs])
          have HO5 := Lib.hid (own_grown (HO.out.alloc (.cells #[.int .i64 97, .int .i64 109, .int .i64 114, .int .i64 110, .int .i64 1072, .int .i64 945, .int .i64 111, .int .i64 48, .int .i64 769, .int .i64 7680, .int .i64 173] 3)) hg5 (by omega))
          have HN5 := Lib.hid ((HN.out.trans (onlyIn.of_below ((Below.refl wr.heap.size wr).alloc (Nat.le_refl _) (.cells #[.int .i64 97, .int .i64 109, .int .i64 114, .int .i64 110, .int .i64 1072, .int .i64 945, .int .i64 111, .int .i64 48, .int .i64 769, .int .i64 7680, .int .i64 173] 3)))).trans (onlyIn.of_grown hg5 (by simp)))
          have HS5 := Lib.hid hs5
          have hsz5 : w3.heap.size ≤ w5.heap.size := HN5.out.2.2.2.1
          clear hk hx hxm hg5 hgl hs5 hvx HO HN HS HA hszx hxs
          go_wp2_with (at_builtin; refine wpList_append_ints (by rfl) (.tmp 22) (.tmp 28) rfl Tryz.underlying22 hi hz0 hz1 hz2 (w5.heap.size + 1) w3.heap.size (.slice A6 acc.length c6) acc (.slice (some ⟨w5.heap.size, 0, none⟩) 1 1) [x] rfl (HO5.out.alloc _) rfl (by have h := Ints.of_own (own_new w5 3 [x] (by simp)); simpa using h) (by simp; omega) (by simp; omega) ?_; intro v6 w6 ho6 hg6 _; obtain ⟨A7, c7, rfl, _⟩ := id (Ints.of_own ho6); have HO6 := Lib.hid ho6; have HS6 := Lib.hid ((HS5.out.alloc _).grown hg6 (fun hk => by have := (HO5.out.lt _ hk.symm).1; omega)); have HN6 := Lib.hid ((HN5.out.trans (onlyIn.of_below ((Below.refl w5.heap.size w5).alloc (Nat.le_refl _) (.cells #[.int .i64 x] 3)))).far hg6 (fun y hy => (HO5.out.lt y hy).1)); clear ho6 hg6)
          go_roundw
          case rel => exact ⟨q - 1, acc ++ [x], A7, c7, by simp, by go_num, by simp; omega, HO6, HA5, HS6, HN6⟩
          case measure => simp [intOf]; omega
        · have bl := (Below.refl wr.heap.size wr).alloc (Nat.le_refl _) (.cells #[.slice A6 acc.length c6] 22)
          have HLx := Lib.hid ((HL3.out.only HN.out).later bl)
          have HUx := Lib.hid ((Ints.of_own HO.out).later bl)
          have HD : Hid (∀ ad, A6 = some ad → ad.block < (wr.alloc (.cells #[.slice A6 acc.length c6] 22)).heap.size ∧ v4.ownBlock ≠ some ad.block ∧ some g ≠ some ad.block) := Lib.hid (fun ad ha => by
            have h1 := own_addr HO.out ad ha
            refine ⟨by simp; omega, fun h => ?_, fun h => ?_⟩
            · have := HL3.out.lt.1 _ h; omega
            · cases h; omega)
          have HP8 : Hid (∀ ys ∈ yss ++ [acc], ys.length ≤ 3 ∧ ys.all scalarB = true) := Lib.hid (fun ys hy => by
            rcases List.mem_append.1 hy with h | h
            · exact HP.out ys h
            · rw [List.mem_singleton] at h; subst h; exact ⟨by omega, HA.out⟩)
          have HBa := Lib.hid (HBx.out.alloc (by omega) (.cells #[.slice A6 acc.length c6] 22))
          have HSa := Lib.hid (HS.out.alloc (.cells #[.slice A6 acc.length c6] 22))
          clear bl HO HN HS HP HA
          go_wp2_with (at_builtin; refine wpList_append_sliceA (by rfl) (.tmp 30) (.tmp 32) rfl Tryz.underlying44 hj hy0 hy1 hy2 (g + 1) v4 yss ⟨wr.heap.size, 0, none⟩ A6 c6 acc rfl (some g) HLx.out rfl ((Blk.new wr 22 #[.slice A6 acc.length c6]).cell 0) HUx.out HD.out (by omega) (by simp; omega) ?_; intro v8 w8 hr8 hg8; have HL8 := Lib.hid hr8; have HS8 := Lib.hid (HSa.out.grown (grown_of_gr hg8) (fun e => HLx.out.apart g e.symm rfl)); have HB8 := Lib.hid (HBa.out.trans (hg8.below (fun y hy => by have := HLx.out.above y hy; omega) (by simp; omega))); have hsz8 : g + 1 ≤ w8.heap.size := (by have := hg8.1.2.2.2.1; simp at this; omega); clear hr8 hg8)
          go_roundw
          case rel => exact ⟨m - 1, _, yss ++ [acc], rfl, by go_num, by simp; omega, HL8, HP8, HS8, HB8, hsz8⟩
          case measure => simp [intOf]; omega
    · go_wp2_with fail
      go_ret
      exact ⟨_, yss, rfl, HL.out.toL.lists, by omega, HP.out, by rw [HG.out]; exact HB.out⟩
end Go.Proofs.YtecpbicfiaifdaaGreatDoor
/-
  The walk through skeleton.Map.
-/
namespace Go.Proofs.YtecpbicfiaifdaaGreatDoor
open Go.RowKit ND

set_option maxRecDepth 100000 in
set_option maxHeartbeats 4000000 in
theorem skm_any (t : Tv) (T : Tab) (v : Value) (xs : List Int) (w : World) (ht : TabR w w.heap.size t T) (hg : Glob w) (hv : Ints w w.heap.size .i64 v xs) :
    Calls Tryz.prog 53 #[t.val, v] w (RetTwo w (skmR T (accE T xs) xs).1 (skmR T (accE T xs) xs).2) := by
  obtain ⟨A, c, rfl, _⟩ := id hv
  have HB0 : Hid (Below w.heap.size w (w.alloc (.cells t.cells 26))) := Lib.hid ((Below.refl _ _).alloc (Nat.le_refl _) _)
  have HT : Hid (Tbl (w.alloc (.cells t.cells 26)) w.heap.size t T) := Lib.hid ⟨Blk.new _ _ _, ht.later HB0.out⟩
  have HV := Lib.hid (hv.later HB0.out)
  have HG := Lib.hid (hg.later HB0.out)
  clear ht hv hg
  have HO := Lib.hid (order_any t T _ xs _ HT.out.2 HG.out HV.out)
  by_cases h0 : accE T xs = 0
  · obtain ⟨hck, hlen, _⟩ := accE_zero h0
    have hsh := shape_of hck
    have hsz := sized_of hck
    have HI : Hid (∀ (b : Nat) (W : World) (x : Int), Tbl W b t T → Calls Tryz.prog 77 #[.agg #[t.c0, t.c1, t.c2, t.c3, t.c4, t.c5, t.c6, t.c7, t.c8, t.c9, t.c10, t.c11], .int .i64 x] W (fun e W' => e = .returned (.bool (T.ignB x)) ∧ Below W.heap.size W W')) := Lib.hid fun b W x h => ignorable_any t T x 0 1114111 W h.2 hsh.c6.1 hsh.c6.2.1
    have HP : Hid (∀ (b : Nat) (W : World) (x : Int), Tbl W b t T → Calls Tryz.prog 78 #[.agg #[t.c0, t.c1, t.c2, t.c3, t.c4, t.c5, t.c6, t.c7, t.c8, t.c9, t.c10, t.c11], .int .i64 x] W (RetSeq W (findL T.prototypes x))) := Lib.hid fun b W x h => prototype_any t T x W h.2 (keysB_sort hsh.kp) hsz.np hsh.lp
    have HML := Lib.hid (fun x => proto_flen hck x)
    have HEF : Hid (4096 < (skelM T xs).length → skmR T (accE T xs) xs = ([], 7)) := Lib.hid (by rw [h0]; exact fun h => skmR_full h)
    have HEO : Hid ((skelM T xs).length ≤ 4096 → skmR T (accE T xs) xs = (skelM T xs, 0)) := Lib.hid (by rw [h0]; exact fun h => skmR_ok h)
    rw [h0] at HO
    generalize skmR T (accE T xs) xs = R at *
    clear h0 hck hsh hsz
    generalize ordL T xs = ol at *
    go_enter Tryz.func53, Tryz.ntmps53
    go_upto_region 1 with fail
    generalize w.alloc (.cells t.cells 26) = w1 at *
    obtain ⟨x0, x1, x2, x3, x4, x5, x6, x7, x8, x9, x10, x11⟩ := HT.out.1.tab
    go_upto_region 2 with (go_at_call 75; refine HO.out.mono ?_; rintro e w2 ⟨u2, rfl, ho2, b2⟩; obtain ⟨A2, c2, rfl, _⟩ := id (Ints.of_own ho2); clear ho2)
    clear x0 x1 x2 x3 x4 x5 x6 x7 x8 x9 x10 x11
    obtain ⟨tb, htb⟩ : ∃ tb, w.heap.size = tb := ⟨_, rfl⟩
    have HT2 : Hid (Tbl w2 tb t T) := Lib.hid (htb ▸ HT.out.later b2)
    have HV2 := Lib.hid (HV.out.later b2)
    have HB2 := Lib.hid (below_next HB0.out b2)
    simp only [htb]
    clear HT HV HB0 HO b2
    obtain ⟨i0, hi, hz0, hz1, hz2⟩ := info_parts Tryz.infoInt'
    go_wp2_with fail
    go_loopw [23, 8] (fun si so wr => ∃ (k : Nat) (acc : List Int) (A9 : Option Addr) (c9 : Nat), k ≤ xs.length ∧ si = .int .i64 k ∧ so = .slice A9 acc.length c9 ∧ acc.length ≤ 18 * k ∧ Hid (acc = skelM T (xs.take k)) ∧ Hid (wr.ownsRow w2.heap.size 3 1 (.slice A9 acc.length c9) acc.length (acc.map (Value.int .i64))) ∧ Hid (Below w2.heap.size w2 wr)) (fun i _ _ => xs.length - (intOf i).toNat)
    case atStart => exact ⟨0, [], none, 0, by omega, rfl, rfl, by simp, Lib.hid rfl, Lib.hid (World.ownsRow_nil _ _ _ _), Lib.hid (Below.refl _ _)⟩
    case round =>
      obtain ⟨k, acc, A9, c9, hk, rfl, rfl, hal, HS, HOr, HBr⟩ := hrel
      by_cases hlt : k < xs.length
      · obtain ⟨x, hxk, _⟩ := get_of hlt
        obtain ⟨_, _, hve, _, _, _, hcell⟩ := HV2.out
        cases hve
        obtain ⟨ad, rfl, ha, hce⟩ := hcell k x hxk
        have e1 := (HBr.out.cell (p := ad.add k) (by rw [block_of_add]; exact ha)).trans hce
        have HX := Lib.hid hxk
        have k0 : (0 : Int) ≤ (k : Int) := by omega
        have k1 : (k : Int) < (xs.length : Int) := by omega
        have HTr := Lib.hid (HT2.out.later HBr.out)
        have HOS := Lib.hid (skelM_step (T := T) HX.out)
        have HIx := Lib.hid (fun W (h : Below wr.heap.size wr W) => HI.out tb W x (HTr.out.later h))
        have HPx := Lib.hid (fun W (h : Below wr.heap.size wr W) => HP.out tb W x (HTr.out.later h))
        have hml := HML.out x
        clear hcell hxk ha hce
        obtain ⟨ig, hig⟩ : ∃ ig, T.ignB x = ig := ⟨_, rfl⟩
        simp only [hig] at HIx
        cases ig with
        | true =>
          have HN : Hid (acc = skelM T (xs.take (k + 1))) := Lib.hid (by rw [HOS.out, proto_ign hig, List.append_nil]; exact HS.out)
          clear hig
          generalize findL T.prototypes x = ml at *
          obtain ⟨x0, x1, x2, x3, x4, x5, x6, x7, x8, x9, x10, x11⟩ := HTr.out.1.tab
          go_wp2_with ((go_at_call 77; refine (HIx.out _ (Below.refl _ _)).mono ?_; rintro e w5 ⟨rfl, b5⟩; have HO5 := Lib.hid (own_later HOr.out b5); have HB5 := Lib.hid (below_then HBr.out (Nat.le_refl _) b5); have HT5 := Lib.hid (HTr.out.later b5); clear x0 x1 x2 x3 x4 x5 x6 x7 x8 x9 x10 x11; obtain ⟨x0, x1, x2, x3, x4, x5, x6, x7, x8, x9, x10, x11⟩ := HT5.out.1.tab))
          go_roundw
          case rel => exact ⟨k + 1, acc, A9, c9, by omega, by go_num, rfl, by omega, HN, HO5, HB5⟩
          case measure => simp [intOf]; omega
        | false =>
          by_cases hp : findL T.prototypes x = []
          · have HN : Hid (acc ++ [x] = skelM T (xs.take (k + 1))) := Lib.hid (by rw [HOS.out, proto_none hig hp, ← HS.out])
            rw [hp] at HPx
            clear hig hp hml
            obtain ⟨x0, x1, x2, x3, x4, x5, x6, x7, x8, x9, x10, x11⟩ := HTr.out.1.tab
            go_wp2_with (first
              | (go_at_call 77; refine (HIx.out _ (Below.refl _ _)).mono ?_; rintro e w5 ⟨rfl, b5⟩; have HO5 := Lib.hid (own_later HOr.out b5); have HB5 := Lib.hid (below_then HBr.out (Nat.le_refl _) b5); have HT5 := Lib.hid (HTr.out.later b5); clear x0 x1 x2 x3 x4 x5 x6 x7 x8 x9 x10 x11; obtain ⟨x0, x1, x2, x3, x4, x5, x6, x7, x8, x9, x10, x11⟩ := HT5.out.1.tab)
              | (go_at_call 78; refine (HPx.out _ b5).mono ?_; rintro e w7 ⟨u7, rfl, hi7, _, b7⟩; obtain ⟨A7, c7, rfl, _⟩ := id hi7; have HI7 := Lib.hid hi7; have HO7 := Lib.hid (own_later HO5.out b7); have HB7 := Lib.hid (below_then HB5.out (Nat.le_refl _) b7); clear hi7 b7)
              | (at_builtin; refine wpList_append_ints (by rfl) (.tmp 39) (.tmp 41) rfl Tryz.underlying22 hi hz0 hz1 hz2 (w7.heap.size + 1) w2.heap.size (.slice A9 acc.length c9) acc (.slice (some ⟨w7.heap.size, 0, none⟩) 1 1) [x] rfl (HO7.out.alloc _) rfl (by have h := Ints.of_own (own_new w7 3 [x] (by simp)); simpa using h) (by simp; omega) (by have := HB7.out.size; simp; omega) ?_; intro v6 w6 ho6 hg6 _; obtain ⟨A6, c6, rfl, _⟩ := id (Ints.of_own ho6); have HO6 := Lib.hid ho6; have HB6 := Lib.hid ((HB7.out.alloc HB7.out.size (.cells #[.int .i64 x] 3)).grown hg6 (by have := HB7.out.size; simp; omega) (fun q hq => (HO7.out.lt q hq).1)); clear ho6 hg6))
            go_roundw
            case rel => exact ⟨k + 1, acc ++ [x], A6, c6, by omega, by go_num, by simp, by simp; omega, HN, HO6, HB6⟩
            case measure => simp [intOf]; omega
          · have HN : Hid (acc ++ findL T.prototypes x = skelM T (xs.take (k + 1))) := Lib.hid (by rw [HOS.out, proto_some hig hp, ← HS.out])
            have gp : (0 : Int) < ((findL T.prototypes x).length : Int) := by have := List.length_pos_iff.2 hp; omega
            clear hig hp
            generalize findL T.prototypes x = ml at *
            obtain ⟨x0, x1, x2, x3, x4, x5, x6, x7, x8, x9, x10, x11⟩ := HTr.out.1.tab
            go_wp2_with (first
              | (go_at_call 77; refine (HIx.out _ (Below.refl _ _)).mono ?_; rintro e w5 ⟨rfl, b5⟩; have HO5 := Lib.hid (own_later HOr.out b5); have HB5 := Lib.hid (below_then HBr.out (Nat.le_refl _) b5); have HT5 := Lib.hid (HTr.out.later b5); clear x0 x1 x2 x3 x4 x5 x6 x7 x8 x9 x10 x11; obtain ⟨x0, x1, x2, x3, x4, x5, x6, x7, x8, x9, x10, x11⟩ := HT5.out.1.tab)
              | (go_at_call 78; refine (HPx.out _ b5).mono ?_; rintro e w7 ⟨u7, rfl, hi7, _, b7⟩; obtain ⟨A7, c7, rfl, _⟩ := id hi7; have HI7 := Lib.hid hi7; have HO7 := Lib.hid (own_later HO5.out b7); have HB7 := Lib.hid (below_then HB5.out (Nat.le_refl _) b7); clear hi7 b7)
              | (at_builtin; refine wpList_append_ints (by rfl) (.tmp 36) (.tmp 37) rfl Tryz.underlying22 hi hz0 hz1 hz2 w7.heap.size w2.heap.size (.slice A9 acc.length c9) acc (.slice A7 ml.length c7) ml rfl HO7.out rfl HI7.out (by omega) HB7.out.size ?_; intro v6 w6 ho6 hg6 _; obtain ⟨A6, c6, rfl, _⟩ := id (Ints.of_own ho6); have HO6 := Lib.hid ho6; have HB6 := Lib.hid (HB7.out.grown hg6 HB7.out.size (fun q hq => (HO7.out.lt q hq).1)); clear ho6 hg6))
            go_roundw
            case rel => exact ⟨k + 1, acc ++ ml, A6, c6, by omega, by go_num, by simp, by simp; omega, HN, HO6, HB6⟩
            case measure => simp [intOf]; omega
      · have HA : Hid (acc = skelM T xs) := Lib.hid (by have := HS.out; rwa [List.take_of_length_le (by omega)] at this)
        by_cases hfl : 4096 < acc.length
        · have HR := Lib.hid (HEF.out (by rw [← HA.out]; exact hfl))
          have g : (4096 : Int) < (acc.length : Int) := by omega
          clear hfl
          go_wp2_with fail
          go_ret2
          rw [HR.out]
          exact ⟨_, rfl, World.ownsRow_nil _ _ _ _, below_next HB2.out HBr.out⟩
        · have HR := Lib.hid (HEO.out (by rw [← HA.out]; omega))
          rw [← HA.out] at HR
          have g : ¬ (4096 : Int) < (acc.length : Int) := by omega
          clear hfl
          go_wp2_with fail
          go_ret2
          rw [HR.out]
          exact ⟨_, rfl, row_le HOr.out HB2.out.size, below_next HB2.out HBr.out⟩
  · have HE := Lib.hid (skmR_err (T := T) (l := xs) h0)
    have hb : (accE T xs != 0) = true := by simpa using h0
    clear h0
    go_enter Tryz.func53, Tryz.ntmps53
    go_upto_region 1 with fail
    generalize w.alloc (.cells t.cells 26) = w1 at *
    obtain ⟨x0, x1, x2, x3, x4, x5, x6, x7, x8, x9, x10, x11⟩ := HT.out.1.tab
    go_wp2_with (go_at_call 75; refine HO.out.mono ?_; rintro e w2 ⟨u2, rfl, ho2, b2⟩; obtain ⟨A2, c2, rfl, _⟩ := id (Ints.of_own ho2); clear ho2)
    go_ret2
    rw [HE.out]
    exact ⟨_, rfl, World.ownsRow_nil _ _ _ _, below_next HB0.out b2⟩
end Go.Proofs.YtecpbicfiaifdaaGreatDoor
