/-
  Merged texts: lemmas and walks that the last text of this claim leans on.
-/
import Derived.Test.YtecpbicfiaifdaaGreatDoorMgB724
import Derived.Test.YtecpbicfiaifdaaGreatDoorMgB721
import Derived.Test.YtecpbicfiaifdaaGreatDoorMgB718
import Derived.Deep.DeepHandedRow
import Derived.Test.YtecpbicfiaifdaaGreatDoorRows
import Derived.WalkKit
import Derived.ProofKit
import Derived.OpenShut
import Derived.ShutString
import Derived.SizedLaws
/-
  Plain mathematics of chapter 8: what is composed decomposes into what it was made of. No program in sight.
-/
namespace Go.Proofs.YtecpbicfiaifdaaGreatDoor
open Go.RowKit ND

/-- x stands for a and c, one after the other. -/
structure PairOk (T : Tab) (a c x : Int) : Prop where
  ex : expandL T x = expandL T a ++ [c]
  cl : T.classOf x = 0
  sc : scalarB x = true
theorem class_res {T : Tab} (h : T.check = 0) {c : Int} (hr : resB c = true) : T.classOf c = 0 := value_res (shape_of h).c1.2.2 hr
theorem pair_lv {T : Tab} (h : T.check = 0) {a b : Int} (h1 : 4352 ≤ a ∧ a ≤ 4370) (h2 : 4449 ≤ b ∧ b ≤ 4469) : PairOk T a b (44032 + (21 * (a - 4352) + b - 4449) * 28) := by
  have hs : sylB (44032 + (21 * (a - 4352) + b - 4449) * 28) = true := by rw [sylB_iff]; omega
  have ha : resB a = true := by rw [resB_iff]; omega
  refine ⟨?_, class_res h (syl_res hs), by rw [scalarB_iff]; omega⟩
  rw [expandL_syl hs, expandL_done (find_res (decOk_of h) ha) (by unfold sylB; rw [decide_eq_false_iff_not]; omega)]
  unfold hangD
  rw [if_pos hs, if_pos (by omega)]
  show [_, _] = [_, _]
  congr 1
  · omega
  · congr 1; omega
theorem pair_lvt {T : Tab} (h : T.check = 0) {a b : Int} (h1 : 44032 ≤ a ∧ a ≤ 55203 ∧ (a - 44032) % 28 = 0) (h2 : 4520 ≤ b ∧ b ≤ 4546) : PairOk T a b (a + b - 4519) := by
  have hs : sylB (a + b - 4519) = true := by rw [sylB_iff]; omega
  have hs2 : sylB a = true := by rw [sylB_iff]; omega
  refine ⟨?_, class_res h (syl_res hs), by rw [scalarB_iff]; omega⟩
  rw [expandL_syl hs, expandL_syl hs2]
  unfold hangD
  rw [if_pos hs, if_pos hs2, if_neg (by omega), if_pos (by omega)]
  show [_, _, _] = [_, _, _]
  congr 1
  · omega
  · congr 1
    · omega
    · congr 1; omega
theorem find_of_mem {D : List Mp} (hs : sortM D) {m : Mp} (hm : m ∈ D) : findL D m.1 = m.2 := by
  obtain ⟨k, hk⟩ := List.mem_iff_getElem?.1 hm
  refine findL_at (fun i a hi ha => ?_) hk rfl
  exact hs i k a m hi ha hk
theorem pair_dec {T : Tab} (h : T.check = 0) {m : Mp} {a c : Int} (hm : m ∈ T.decomps) (h2 : m.2 = [a, c]) (hc : T.comp m.1 = true) (hd : findL T.decomps c = []) : PairOk T a c m.1 := by
  have hD := decOk_of h
  have hf : findL T.decomps m.1 = [a, c] := by rw [find_of_mem hD.srt hm, h2]
  have hne : findL T.decomps m.1 ≠ [] := by rw [hf]; simp
  have hk := hD.key m hm
  have hns : sylB m.1 = false := by
    cases hs : sylB m.1
    · rfl
    · rw [syl_res hs] at hk; cases hk.1
  have hea := (hD.el m hm a (by rw [h2]; simp)).1
  have hec := (hD.el m hm c (by rw [h2]; simp)).1
  have hfin := hD.fin m.1
  refine ⟨?_, ?_, ?_⟩
  · rw [expandL_not hns, expandL_not hea]
    have hex := hD.fin a
    generalize T.decomps.length = n at *
    cases n with
    | zero => rw [fin_zero, decide_eq_true_eq] at hfin; exact absurd hfin hne
    | succ k =>
      rw [fin_succ hne, hf] at hfin
      simp only [List.all_cons, List.all_nil, Bool.and_true, Bool.and_eq_true] at hfin
      rw [expF_some hne, hf, List.flatMap_cons, List.flatMap_cons, List.flatMap_nil, List.append_nil, expF_none hd, (fin_up hfin.1 (k + 1) (by omega)).2]
  · unfold Tab.comp at hc
    generalize T.decomps.length = n at hc
    cases n with
    | zero => cases hc
    | succ k =>
      rw [Tab.compF, hf] at hc
      simp only [Bool.and_eq_true, decide_eq_true_eq] at hc
      exact hc.2.1
  · have := hk.1
    rw [resB_not] at this
    rw [scalarB_iff]; omega

/-- c moves over what has a smaller class. -/
theorem can_move {f : Int → Int} {c : Int} : ∀ (rest a b : List Int), (∀ y ∈ rest, 0 < f y ∧ f y < f c) → can f (a ++ c :: (rest ++ b)) = can f (a ++ rest ++ c :: b) := by
  intro rest
  induction rest with
  | nil => intro a b _; simp
  | cons y r ih =>
    intro a b h
    have hy := h y List.mem_cons_self
    have h1 := can_swap hy.1 hy.2 a (r ++ b)
    rw [List.cons_append, h1]
    have h2 := ih (a ++ [y]) b fun z hz => h z (List.mem_cons_of_mem _ hz)
    simp only [List.append_assoc, List.cons_append, List.nil_append] at h2 ⊢
    exact h2

/-- What has been composed up to i: the last starter, and what follows it. -/
structure CInv (T : Tab) (d : List Int) (i : Nat) (pre rest : List Int) : Prop where
  eq : can T.classOf (flatD T (pre ++ rest)) = can T.classOf (d.take i)
  st : pre = [] ∨ ∃ p s, pre = p ++ [s] ∧ T.classOf s = 0
  nz : ∀ y ∈ rest, 0 < T.classOf y
  dn : ∀ y ∈ rest, findL T.decomps y = [] ∧ sylB y = false
  le : ∀ j q, i = j + 1 → d[j]? = some q → ∀ y ∈ rest, T.classOf y ≤ T.classOf q
  asc : ∀ r, rest.getLast? = some r → ∀ y ∈ rest, T.classOf y ≤ T.classOf r
  sc : (pre ++ rest).all scalarB = true
  len : (pre ++ rest).length ≤ i
theorem CInv.start (T : Tab) (d : List Int) : CInv T d 0 [] [] :=
  ⟨rfl, .inl rfl, by simp, by simp, by simp, by simp, rfl, by simp⟩
/-- What d is. -/
structure NfdIn (T : Tab) (d : List Int) : Prop where
  srt : SortN T.classOf d.length d
  dn : ∀ y ∈ d, findL T.decomps y = [] ∧ sylB y = false
  sc : d.all scalarB = true
theorem NfdIn.of {T : Tab} (h : T.check = 0) {l : List Int} (hs : l.all scalarB = true) : NfdIn T (nfdL T l) :=
  ⟨can_is_sorted _ _, fun _ hx => nfdL_fix (decOk_of h) hx, nfdL_scal (decOk_of h) hs⟩
section
variable {T : Tab} {d pre rest : List Int} {i : Nat} {c : Int}
theorem take_at (hc : d[i]? = some c) : d.take (i + 1) = d.take i ++ [c] := by
  obtain ⟨h1, e⟩ := List.getElem?_eq_some_iff.1 hc
  rw [List.take_succ_eq_append_getElem h1, e]
theorem CInv.eqApp (h : CInv T d i pre rest) (hc : d[i]? = some c) : can T.classOf (flatD T (pre ++ rest) ++ [c]) = can T.classOf (d.take (i + 1)) := by
  rw [take_at hc, ← can_left (flatD T (pre ++ rest)), h.eq, can_left]
theorem flat_one (hd : NfdIn T d) (hc : d[i]? = some c) : flatD T [c] = [c] := flatD_done _ fun x hx => by
  simp only [List.mem_singleton] at hx; subst hx; exact hd.dn _ (List.mem_of_getElem? hc)
theorem scal_at (hd : NfdIn T d) (hc : d[i]? = some c) : scalarB c = true := (List.all_eq_true.1 hd.sc) _ (List.mem_of_getElem? hc)
/-- A code point of class 0 is appended. -/
theorem CInv.app0 (h : CInv T d i pre rest) (hd : NfdIn T d) (hc : d[i]? = some c) (h0 : T.classOf c = 0) : CInv T d (i + 1) (pre ++ rest ++ [c]) [] := by
  refine ⟨?_, .inr ⟨_, _, rfl, h0⟩, by simp, by simp, by simp, by simp, ?_, ?_⟩
  · rw [List.append_nil, flatD_app, flat_one hd hc]; exact h.eqApp hc
  · rw [List.append_nil, List.all_append, h.sc]
    simp [scal_at hd hc]
  · have := h.len
    simp only [List.length_append, List.length_nil, List.length_cons] at this ⊢; omega
theorem CInv.leC (h : CInv T d i pre rest) (hd : NfdIn T d) (hc : d[i]? = some c) (h0 : 0 < T.classOf c) : ∀ y ∈ rest, T.classOf y ≤ T.classOf c := by
  intro y hy
  cases i with
  | zero =>
    have := h.len
    rw [List.length_append] at this
    have : rest = [] := List.eq_nil_of_length_eq_zero (by omega)
    rw [this] at hy; cases hy
  | succ j =>
    have hi := (List.getElem?_eq_some_iff.1 hc).1
    have hq : d[j]? = some d[j] := List.getElem?_eq_getElem (by omega)
    have h1 := h.le j _ rfl hq y hy
    have h2 := hd.srt j _ c (by omega) hq hc
    unfold okP at h2
    omega
/-- A code point of another class is appended. -/
theorem CInv.app1 (h : CInv T d i pre rest) (hd : NfdIn T d) (hc : d[i]? = some c) (h0 : 0 < T.classOf c) : CInv T d (i + 1) pre (rest ++ [c]) := by
  have hle := h.leC hd hc h0
  have hall : ∀ y ∈ rest ++ [c], T.classOf y ≤ T.classOf c := fun y hy => by
    simp only [List.mem_append, List.mem_singleton] at hy
    rcases hy with hy | rfl
    · exact hle y hy
    · omega
  refine ⟨?_, h.st, fun y hy => ?_, fun y hy => ?_, fun j q hj hq y hy => ?_, fun r hr y hy => ?_, ?_, ?_⟩
  · rw [← List.append_assoc, flatD_app, flat_one hd hc]; exact h.eqApp hc
  · simp only [List.mem_append, List.mem_singleton] at hy
    rcases hy with hy | rfl
    · exact h.nz y hy
    · exact h0
  · simp only [List.mem_append, List.mem_singleton] at hy
    rcases hy with hy | rfl
    · exact h.dn y hy
    · exact hd.dn _ (List.mem_of_getElem? hc)
  · obtain rfl : i = j := by omega
    rw [hc] at hq; cases hq
    exact hall y hy
  · rw [List.getLast?_append] at hr
    simp at hr
    subst hr
    exact hall y hy
  · rw [← List.append_assoc, List.all_append, h.sc]
    simp [scal_at hd hc]
  · have := h.len
    simp only [List.length_append, List.length_nil, List.length_cons] at this ⊢; omega
/-- A code point is composed with the last starter. -/
theorem CInv.comp {p : List Int} {s x : Int} (h : CInv T d i (p ++ [s]) rest) (hc : d[i]? = some c) (hx : PairOk T s c x) (hr : ∀ r, rest.getLast? = some r → T.classOf r < T.classOf c) : CInv T d (i + 1) (p ++ [x]) rest := by
  have hlt : ∀ y ∈ rest, 0 < T.classOf y ∧ T.classOf y < T.classOf c := fun y hy => by
    cases hl : rest.getLast? with
    | none => rw [List.getLast?_eq_none_iff] at hl; rw [hl] at hy; cases hy
    | some r =>
      have h1 := h.asc r hl y hy
      have h2 := hr r hl
      exact ⟨h.nz y hy, by omega⟩
  have hrest : flatD T rest = rest := flatD_done _ h.dn
  refine ⟨?_, .inr ⟨_, _, rfl, hx.cl⟩, h.nz, h.dn, fun j q hj hq y hy => ?_, h.asc, ?_, ?_⟩
  · have h1 := h.eqApp hc
    rw [flatD_app, flatD_app, hrest, show flatD T [s] = expandL T s by simp [flatD]] at h1
    rw [flatD_app, flatD_app, hrest, show flatD T [x] = expandL T x by simp [flatD], hx.ex, ← h1]
    have h2 := can_move (f := T.classOf) (c := c) rest (flatD T p ++ expandL T s) [] hlt
    simp only [List.append_assoc, List.append_nil, List.cons_append, List.nil_append] at h2 ⊢
    exact h2
  · obtain rfl : i = j := by omega
    rw [hc] at hq; cases hq
    have := (hlt y hy).2; omega
  · have := h.sc
    simp only [List.all_append, List.all_cons, List.all_nil, Bool.and_true, Bool.and_eq_true] at this ⊢
    exact ⟨⟨this.1.1, hx.sc⟩, this.2⟩
  · have := h.len
    simp only [List.length_append, List.length_nil, List.length_cons] at this ⊢; omega
/-- All has been composed: the same normalization form D. -/
theorem CInv.done {l : List Int} (h : CInv T d i pre rest) (hi : d.length ≤ i) (hd : d = nfdL T l) : nfdL T (pre ++ rest) = nfdL T l := by
  have := h.eq
  rw [List.take_of_length_le hi, hd] at this
  exact this.trans (can_can _ _)
/-- The last starter is where the search ends. -/
theorem CInv.at_ {s : Nat} {z : Int} (h : CInv T d i pre rest) (hz : (pre ++ rest)[s]? = some z) (h0 : T.classOf z = 0) (hn : ∀ j y, s < j → (pre ++ rest)[j]? = some y → T.classOf y ≠ 0) : ∃ p, pre = p ++ [z] ∧ p.length = s := by
  rcases h.st with rfl | ⟨p, s', rfl, h1⟩
  · rw [List.nil_append] at hz
    have := h.nz z (List.mem_of_getElem? hz); omega
  · have hs : s = p.length := by
      rcases Nat.lt_trichotomy s p.length with hl | hl | hl
      · exact absurd h1 (hn p.length s' hl (by simp))
      · exact hl
      · rw [List.getElem?_append_right (by simp; omega)] at hz
        have := h.nz z (List.mem_of_getElem? hz); omega
    subst hs
    simp at hz
    exact ⟨p, by rw [hz], rfl⟩
end
end Go.Proofs.YtecpbicfiaifdaaGreatDoor
/-
  Plain mathematics of chapter 20: skeletons. No program in sight.
-/
namespace Go.Proofs.YtecpbicfiaifdaaGreatDoor
open Go.RowKit ND

/-- What a code point is replaced by. -/
def protoOne (T : Tab) (c : Int) : List Int := if T.ignB c = true then [] else if findL T.prototypes c ≠ [] then findL T.prototypes c else [c]
def skelM (T : Tab) (l : List Int) : List Int := l.flatMap (protoOne T)
/-- What skeleton.Map hands back. -/
def skmR (T : Tab) (e : Int) (l : List Int) : List Int × Int := if e ≠ 0 then ([], e) else if 4096 < (skelM T l).length then ([], 7) else (skelM T l, 0)
/-- What skeleton.Of hands back. -/
def skelR (T : Tab) (l : List Int) : List Int × Int :=
  if (nfdR T (accE T l) l).2 ≠ 0 then ([], (nfdR T (accE T l) l).2)
  else if (skmR T (accE T (nfdR T (accE T l) l).1) (nfdR T (accE T l) l).1).2 ≠ 0 then ([], (skmR T (accE T (nfdR T (accE T l) l).1) (nfdR T (accE T l) l).1).2)
  else nfdR T (accE T (skmR T (accE T (nfdR T (accE T l) l).1) (nfdR T (accE T l) l).1).1) (skmR T (accE T (nfdR T (accE T l) l).1) (nfdR T (accE T l) l).1).1
def skelL (T : Tab) (l : List Int) : List Int := can T.classOf (skelM T (nfdL T l))

theorem skmR_err {T : Tab} {e : Int} {l : List Int} (h : e ≠ 0) : skmR T e l = ([], e) := by unfold skmR; rw [if_pos h]
theorem skmR_full {T : Tab} {l : List Int} (h : 4096 < (skelM T l).length) : skmR T 0 l = ([], 7) := by unfold skmR; rw [if_neg (by omega), if_pos h]
theorem skmR_ok {T : Tab} {l : List Int} (h : (skelM T l).length ≤ 4096) : skmR T 0 l = (skelM T l, 0) := by unfold skmR; rw [if_neg (by omega), if_neg (by omega)]
theorem skelM_app {T : Tab} (a b : List Int) : skelM T (a ++ b) = skelM T a ++ skelM T b := by unfold skelM; rw [List.flatMap_append]
theorem skelM_cons {T : Tab} (a : Int) (b : List Int) : skelM T (a :: b) = protoOne T a ++ skelM T b := by unfold skelM; rw [List.flatMap_cons]

/-- What well-formed tables say of prototypes. -/
structure ProOk (T : Tab) : Prop where
  key : ∀ m ∈ T.prototypes, findL T.decomps m.1 = [] ∧ T.ignB m.1 = false
  el : ∀ m ∈ T.prototypes, ∀ c ∈ m.2, findL T.decomps c = [] ∧ T.ignB c = false ∧ sylB c = false ∧ findL T.prototypes c = [] ∧ scalarB c = true
  len : ∀ m ∈ T.prototypes, m.2.length ≤ 18
theorem proOk_of {T : Tab} (h : T.check = 0) : ProOk T := by
  obtain ⟨_, _, _, r4, _, _, _, _, r9⟩ := rules_of h
  unfold Tab.rule4 at r4
  simp only [Bool.and_eq_true] at r4
  have r4' := List.all_eq_true.1 r4.2.2.2
  unfold Tab.rule9 at r9
  rw [List.all_eq_true] at r9
  have hp : ∀ c, T.plainB c = true → findL T.decomps c = [] ∧ T.ignB c = false := fun c hc => by
    unfold Tab.plainB at hc
    rw [Bool.and_eq_true, decide_eq_true_eq, Bool.not_eq_true'] at hc
    exact hc
  refine ⟨fun m hm => ?_, fun m hm c hc => ?_, fun m hm => (toB_iff.1 (r4' m hm)).2.1⟩
  · have h1 := r9 m hm
    unfold Tab.protoOk at h1
    rw [Bool.and_eq_true] at h1
    exact hp _ h1.1
  · have h1 := r9 m hm
    unfold Tab.protoOk at h1
    rw [Bool.and_eq_true, List.all_eq_true] at h1
    have h2 := h1.2 c hc
    unfold Tab.protoEl at h2
    rw [Bool.and_eq_true, Bool.and_eq_true, decide_eq_true_eq, Bool.not_eq_true'] at h2
    have h3 := (toB_iff.1 (r4' m hm)).2.2
    simp only [Bool.false_eq_true, if_false] at h3
    rw [List.all_eq_true] at h3
    exact ⟨(hp c h2.1).1, (hp c h2.1).2, h2.2.1, h2.2.2, h3 c hc⟩
/-- A code point of a skeleton. -/
def isSk (T : Tab) (x : Int) : Prop := findL T.decomps x = [] ∧ sylB x = false ∧ T.ignB x = false ∧ findL T.prototypes x = []
theorem protoOne_sk {T : Tab} (h : ProOk T) {c x : Int} (hc : findL T.decomps c = [] ∧ sylB c = false) (hx : x ∈ protoOne T c) : isSk T x := by
  unfold protoOne at hx
  split at hx
  · cases hx
  · rename_i hi
    split at hx
    · rename_i hp
      obtain ⟨h1, h2, h3, h4, _⟩ := h.el _ (findL_mem hp) x hx
      exact ⟨h1, h3, h2, h4⟩
    · rename_i hp
      simp only [List.mem_singleton] at hx
      subst hx
      exact ⟨hc.1, hc.2, by simpa using hi, by simpa using hp⟩
theorem protoOne_done {T : Tab} {x : Int} (h : isSk T x) : protoOne T x = [x] := by
  unfold protoOne
  rw [if_neg (by rw [h.2.2.1]; simp), if_neg (by rw [h.2.2.2]; simp)]
theorem protoOne_len {T : Tab} (h : ProOk T) (c : Int) : (protoOne T c).length ≤ 18 := by
  unfold protoOne
  split
  · simp
  · split
    · rename_i hp
      exact h.len _ (findL_mem hp)
    · simp
theorem protoOne_scal {T : Tab} (h : ProOk T) {c x : Int} (hc : scalarB c = true) (hx : x ∈ protoOne T c) : scalarB x = true := by
  unfold protoOne at hx
  split at hx
  · cases hx
  · split at hx
    · rename_i hp
      exact (h.el _ (findL_mem hp) x hx).2.2.2.2
    · simp only [List.mem_singleton] at hx
      subst hx; exact hc
theorem skelM_sk {T : Tab} (h : ProOk T) {l : List Int} (hl : ∀ x ∈ l, findL T.decomps x = [] ∧ sylB x = false) {x : Int} (hx : x ∈ skelM T l) : isSk T x := by
  unfold skelM at hx
  rw [List.mem_flatMap] at hx
  obtain ⟨c, hc, hx⟩ := hx
  exact protoOne_sk h (hl c hc) hx
theorem skelM_done {T : Tab} : ∀ l : List Int, (∀ x ∈ l, isSk T x) → skelM T l = l := by
  intro l
  induction l with
  | nil => intro _; rfl
  | cons a r ih =>
    intro h
    rw [skelM_cons, ih fun x hx => h x (List.mem_cons_of_mem _ hx), protoOne_done (h a List.mem_cons_self)]; rfl
theorem skelM_len {T : Tab} (h : ProOk T) : ∀ l : List Int, (skelM T l).length ≤ 18 * l.length := by
  intro l
  induction l with
  | nil => simp [skelM]
  | cons a r ih =>
    have := protoOne_len h a
    rw [skelM_cons, List.length_append, List.length_cons]; omega
theorem skelM_scal {T : Tab} (h : ProOk T) {l : List Int} (hl : l.all scalarB = true) : (skelM T l).all scalarB = true := by
  rw [List.all_eq_true] at hl ⊢
  intro x hx
  unfold skelM at hx
  rw [List.mem_flatMap] at hx
  obtain ⟨c, hc, hx⟩ := hx
  exact protoOne_scal h (hl c hc) hx
theorem skelL_sk {T : Tab} (h : T.check = 0) {l : List Int} {x : Int} (hx : x ∈ skelL T l) : isSk T x :=
  skelM_sk (proOk_of h) (fun _ hy => nfdL_fix (decOk_of h) hy) (can_mem.1 hx)
theorem skelL_length {T : Tab} (l : List Int) : (skelL T l).length = (skelM T (nfdL T l)).length := can_length _ _
theorem nfdL_done {T : Tab} {l : List Int} (h : ∀ x ∈ l, findL T.decomps x = [] ∧ sylB x = false) : nfdL T l = can T.classOf l := by unfold nfdL; rw [flatD_done l h]
theorem skelL_nfdL {T : Tab} (h : T.check = 0) (l : List Int) : nfdL T (skelL T l) = skelL T l := by
  rw [nfdL_done fun x hx => ⟨(skelL_sk h hx).1, (skelL_sk h hx).2.1⟩]; exact can_can _ _
theorem skelL_twice {T : Tab} (h : T.check = 0) (l : List Int) : skelL T (skelL T l) = skelL T l := by
  show can _ (skelM T (nfdL T (skelL T l))) = _
  rw [skelL_nfdL h, skelM_done _ fun x hx => skelL_sk h hx]; exact can_can _ _
theorem skelL_nfd {T : Tab} (h : T.check = 0) (l : List Int) : skelL T (nfdL T l) = skelL T l := by
  unfold skelL; rw [nfdL_twice (decOk_of h)]
theorem skelL_same {T : Tab} {a b : List Int} (h : nfdL T a = nfdL T b) : skelL T a = skelL T b := by unfold skelL; rw [h]
theorem skelL_scal {T : Tab} (h : T.check = 0) {l : List Int} (hl : l.all scalarB = true) : (skelL T l).all scalarB = true :=
  all_can (skelM_scal (proOk_of h) (nfdL_scal (decOk_of h) hl))
/-- A sequence whose skeleton has room. -/
theorem skelR_ok {T : Tab} (h : T.check = 0) {l : List Int} (hs : l.all scalarB = true) (hl : l.length ≤ 4096) (h1 : (flatD T l).length ≤ 4096) (h2 : (skelM T (nfdL T l)).length ≤ 4096) : skelR T l = (skelL T l, 0) := by
  have e1 : accE T l = 0 := accE_ok h hl hs
  have e2 : nfdR T (accE T l) l = (nfdL T l, 0) := by rw [e1]; exact nfdR_ok h1
  have s2 := nfdL_scal (decOk_of h) hs
  have e3 : accE T (nfdL T l) = 0 := accE_ok h (by rw [nfdL_length]; exact h1) s2
  have e4 : skmR T (accE T (nfdL T l)) (nfdL T l) = (skelM T (nfdL T l), 0) := by rw [e3]; exact skmR_ok h2
  have e5 : accE T (skelM T (nfdL T l)) = 0 := accE_ok h h2 (skelM_scal (proOk_of h) s2)
  have hd : ∀ x ∈ skelM T (nfdL T l), findL T.decomps x = [] ∧ sylB x = false := fun x hx => by
    have := skelM_sk (proOk_of h) (fun _ hy => nfdL_fix (decOk_of h) hy) hx
    exact ⟨this.1, this.2.1⟩
  unfold skelR
  rw [e2]
  simp only [ne_eq, not_true_eq_false, if_false]
  rw [e4]
  simp only [not_true_eq_false, if_false]
  rw [e5, nfdR_ok (by rw [flatD_done _ hd]; exact h2)]
  unfold skelL
  rw [nfdL_done hd]
/-- A short one has. -/
theorem skelR_short {T : Tab} (h : T.check = 0) {l : List Int} (hs : l.all scalarB = true) (hl : l.length ≤ 12) : skelR T l = (skelL T l, 0) := by
  have h1 := (flatD_len (decOk_of h) l).2
  have h2 := skelM_len (proOk_of h) (nfdL T l)
  rw [nfdL_length] at h2
  exact skelR_ok h hs (by omega) (by omega) (by omega)
/-- A skeleton's skeleton. -/
theorem skelR_twice {T : Tab} (h : T.check = 0) {l : List Int} (hs : l.all scalarB = true) (hl : (skelL T l).length ≤ 4096) : skelR T (skelL T l) = (skelL T l, 0) := by
  have e1 : flatD T (skelL T l) = skelL T l := flatD_done _ fun x hx => ⟨(skelL_sk h hx).1, (skelL_sk h hx).2.1⟩
  have e2 : skelM T (nfdL T (skelL T l)) = skelL T l := by rw [skelL_nfdL h, skelM_done _ fun x hx => skelL_sk h hx]
  rw [skelR_ok h (skelL_scal h hs) hl (by rw [e1]; exact hl) (by rw [e2]; exact hl), skelL_twice h]
/-- A sequence in NFD has no more room to ask for. -/
theorem skelR_nfd {T : Tab} (h : T.check = 0) {l : List Int} (hs : l.all scalarB = true) (hl : l.length ≤ 12) : skelR T (nfdL T l) = (skelL T l, 0) := by
  have h1 := (flatD_len (decOk_of h) l).2
  have h2 := skelM_len (proOk_of h) (nfdL T l)
  have h3 : (nfdL T l).length = _ := nfdL_length l
  have e1 := nfdL_flat (decOk_of h) l
  rw [skelR_ok h (nfdL_scal (decOk_of h) hs) (by omega) (by rw [e1]; omega) (by rw [nfdL_twice (decOk_of h)]; omega), skelL_nfd h]

theorem can_split {f : Int → Int} (hf : ∀ x, 0 ≤ f x) {a b : List Int} {c : Int} (hc : f c = 0) (h : can f (a ++ c :: b) = a ++ c :: b) : can f a = a ∧ can f b = b := by
  rw [can_app hf hc] at h
  have := List.append_inj h (can_length f a)
  simpa using this
theorem can_zeros {f : Int → Int} (hf : ∀ x, 0 ≤ f x) : ∀ (p b : List Int), (∀ x ∈ p, f x = 0) → can f (p ++ b) = p ++ can f b := by
  intro p
  induction p with
  | nil => intro b _; rfl
  | cons x r ih =>
    intro b h
    have h1 := can_app hf (h x List.mem_cons_self) (r ++ b) []
    rw [List.nil_append] at h1
    rw [List.cons_append, h1, ih b fun y hy => h y (List.mem_cons_of_mem _ hy)]; rfl
/-- A code point is replaced by its prototype. -/
theorem skelL_proto {T : Tab} (h : T.check = 0) {l0 a b : List Int} {c : Int} (hl : nfdL T l0 = a ++ c :: b) (hc : T.classOf c = 0) (hp : findL T.prototypes c ≠ []) (hz : ∀ x ∈ findL T.prototypes c, T.classOf x = 0) :
    skelL T (a ++ findL T.prototypes c ++ b) = skelL T l0 ∧ nfdL T (a ++ findL T.prototypes c ++ b) = a ++ findL T.prototypes c ++ b ∧ flatD T (a ++ findL T.prototypes c ++ b) = a ++ findL T.prototypes c ++ b ∧ skelM T (a ++ findL T.prototypes c ++ b) = skelM T (nfdL T l0) := by
  have hP := proOk_of h
  have hD := decOk_of h
  have hf : ∀ x, 0 ≤ T.classOf x := fun x => (cls_range h x).1
  have hfix : ∀ x ∈ nfdL T l0, findL T.decomps x = [] ∧ sylB x = false := fun _ hx => nfdL_fix hD hx
  rw [hl] at hfix
  have hel := hP.el _ (findL_mem hp)
  have hsorted : can T.classOf (a ++ c :: b) = a ++ c :: b := by rw [← hl]; exact can_can _ _
  obtain ⟨ha, hb⟩ := can_split hf hc hsorted
  have hdone : ∀ x ∈ a ++ findL T.prototypes c ++ b, findL T.decomps x = [] ∧ sylB x = false := fun x hx => by
    simp only [List.mem_append] at hx
    rcases hx with (hx | hx) | hx
    · exact hfix x (by simp [hx])
    · exact ⟨(hel x hx).1, (hel x hx).2.2.1⟩
    · exact hfix x (by simp [hx])
  have hn : nfdL T (a ++ findL T.prototypes c ++ b) = a ++ findL T.prototypes c ++ b := by
    rw [nfdL_done hdone]
    cases he : findL T.prototypes c with
    | nil => exact absurd he hp
    | cons p0 pr =>
      rw [he] at hz
      have h1 := can_app hf (hz p0 List.mem_cons_self) (pr ++ b) a
      rw [List.append_assoc, List.cons_append, h1, ha, can_zeros hf pr b fun x hx => hz x (List.mem_cons_of_mem _ hx), hb]
  have hm : skelM T (a ++ findL T.prototypes c ++ b) = skelM T (nfdL T l0) := by
    rw [hl, skelM_app, skelM_app, skelM_app, skelM_cons, skelM_done (findL T.prototypes c) fun x hx => ⟨(hel x hx).1, (hel x hx).2.2.1, (hel x hx).2.1, (hel x hx).2.2.2.1⟩, List.append_assoc]
    congr 2
    unfold protoOne
    rw [if_neg (by rw [(hP.key _ (findL_mem hp)).2]; simp), if_pos hp]
  refine ⟨?_, hn, flatD_done _ hdone, hm⟩
  unfold skelL
  rw [hn, hm]
end Go.Proofs.YtecpbicfiaifdaaGreatDoor
/-
  Tables without prototypes and ignorable code points: the skeleton is the normalization form D. No program in sight.
-/
namespace Go.Proofs.YtecpbicfiaifdaaGreatDoor
open Go.RowKit ND

/-- The tables, without prototypes and ignorable code points. -/
def bare (T : Tab) : Tab := { T with ignorable := [], prototypes := [] }
theorem bare_check {T : Tab} (h : T.check = 0) : (bare T).check = 0 := by
  obtain ⟨r1, r2, r3, r4, r5, r6, r7, r8, _⟩ := rules_of h
  have q1 : (bare T).rule1 = true := by
    unfold Tab.rule1 Tab.cols Tab.mps at r1 ⊢
    simp only [List.all_cons, List.all_nil, Bool.and_true, Bool.and_eq_true, bare] at r1 ⊢
    exact ⟨r1.1, ⟨r1.2.1.1, r1.2.1.2.1, r1.2.1.2.2.1, r1.2.1.2.2.2.1, r1.2.1.2.2.2.2.1, r1.2.1.2.2.2.2.2.1, by decide⟩, r1.2.2.1, r1.2.2.2.1, r1.2.2.2.2.1, by decide⟩
  have q2 : (bare T).rule2 = true := by
    unfold Tab.rule2 Tab.rule2m Tab.cols at r2 ⊢
    simp only [List.all_cons, List.all_nil, Bool.and_true, Bool.and_eq_true, bare] at r2 ⊢
    refine ⟨⟨r2.1.1, r2.1.2.1, r2.1.2.2.1, r2.1.2.2.2.1, r2.1.2.2.2.2.1, r2.1.2.2.2.2.2.1, by decide⟩, ⟨r2.2.1.1, r2.2.1.2.1, r2.2.1.2.2.1, by decide⟩, r2.2.2⟩
  have q3 : (bare T).rule3 = true := by
    unfold Tab.rule3 Tab.cols at r3 ⊢
    simp only [List.all_cons, List.all_nil, Bool.and_true, Bool.and_eq_true, bare] at r3 ⊢
    refine ⟨r3.1, r3.2.1, r3.2.2.1, r3.2.2.2.1, r3.2.2.2.2.1, r3.2.2.2.2.2.1, by decide⟩
  have q4 : (bare T).rule4 = true := by
    unfold Tab.rule4 at r4 ⊢
    simp only [Bool.and_eq_true, bare] at r4 ⊢
    exact ⟨r4.1, r4.2.1, r4.2.2.1, rfl⟩
  have q5 : (bare T).rule5 = true := r5
  have q6 : (bare T).rule6 = true := r6
  have q7 : (bare T).rule7 = true := r7
  have hc : ∀ f c, (bare T).compF f c = T.compF f c := by
    intro f
    induction f with
    | zero => intro c; rfl
    | succ f ih =>
      intro c
      rw [Tab.compF, Tab.compF]
      have e : findL (bare T).decomps c = findL T.decomps c := rfl
      rw [e]
      generalize findL T.decomps c = l
      cases l with
      | nil => rfl
      | cons a r =>
        cases r with
        | nil => rfl
        | cons b r =>
          cases r with
          | nil => simp only [ih a]; rfl
          | cons z r => rfl
  have q8 : (bare T).rule8 = true := by
    unfold Tab.rule8 Tab.pairs Tab.comp at r8 ⊢
    simp only [hc]
    exact r8
  have q9 : (bare T).rule9 = true := rfl
  unfold Tab.check
  simp [q1, q2, q3, q4, q5, q6, q7, q8, q9]
theorem bare_nfdL {T : Tab} (l : List Int) : nfdL (bare T) l = nfdL T l := rfl
theorem bare_skelM {T : Tab} : ∀ l : List Int, skelM (bare T) l = l := by
  intro l
  induction l with
  | nil => rfl
  | cons a r ih =>
    rw [skelM_cons, ih]
    have : protoOne (bare T) a = [a] := by
      unfold protoOne
      rw [if_neg (by show ¬ ((0 : Int) == 1) = true; decide), if_neg (by simp [bare, findL])]
    rw [this]; rfl
theorem bare_skelL {T : Tab} (l : List Int) : skelL (bare T) l = nfdL T l := by
  unfold skelL
  rw [bare_skelM]
  exact can_can _ _
end Go.Proofs.YtecpbicfiaifdaaGreatDoor
/-
  Plain mathematics of chapter 21: classes of sequences with the same skeleton. No program in sight.
-/
namespace Go.Proofs.YtecpbicfiaifdaaGreatDoor
open Go.RowKit ND

/-- The skeleton of each sequence. -/
def skels (T : Tab) (ls : List (List Int)) : List (List Int) := ls.map fun l => (skelR T l).1
/-- The first error. -/
def firstE (T : Tab) : List (List Int) → Int
  | [] => 0
  | l :: r => if (skelR T l).2 ≠ 0 then (skelR T l).2 else firstE T r
/-- The index of the first that equals s. -/
def firstI (s : List Int) : Nat → List (List Int) → Nat
  | i, [] => i
  | i, x :: r => if x = s then i else firstI s (i + 1) r
def classOfI (ss : List (List Int)) (s : List Int) : Int := (firstI s 0 ss : Nat)
def classesL (T : Tab) (ls : List (List Int)) : List Int := (skels T ls).map (classOfI (skels T ls))
/-- What Classes hands back. -/
def classesR (T : Tab) (ls : List (List Int)) : List Int × Int := if 256 < ls.length then ([], 7) else if firstE T ls ≠ 0 then ([], firstE T ls) else (classesL T ls, 0)
/-- What Twins finds in the classes. -/
def twinsGo : Nat → List Int → Int × Int × Bool
  | _, [] => (0, 0, false)
  | j, i :: r => if i < (j : Int) then (i, (j : Int), true) else twinsGo (j + 1) r
def twinsR (T : Tab) (ls : List (List Int)) : Int × Int × Bool := twinsGo 0 (classesR T ls).1
/-- The first index at which two lists differ, or -1. -/
def diffGo : Nat → List Int → List Int → Int
  | _, [], [] => -1
  | i, [], _ :: _ => i
  | i, _ :: _, [] => i
  | i, x :: a, y :: b => if x = y then diffGo (i + 1) a b else i
def differL (x y : List Int) : Int := diffGo 0 x y
/-- The first of two errors. -/
def bothE (T : Tab) (a b : List Int) : Int := if (skelR T a).2 ≠ 0 then (skelR T a).2 else (skelR T b).2
def differR (T : Tab) (a b : List Int) : Int × Int := if bothE T a b ≠ 0 then (0, bothE T a b) else (differL (skelR T a).1 (skelR T b).1, 0)
def sameR (T : Tab) (a b : List Int) : Bool × Int := (bothE T a b == 0 && decide ((skelR T a).1 = (skelR T b).1), bothE T a b)

theorem firstE_zero {T : Tab} : ∀ {ls : List (List Int)}, firstE T ls = 0 ↔ ∀ l ∈ ls, (skelR T l).2 = 0 := by
  intro ls
  induction ls with
  | nil => simp [firstE]
  | cons l r ih =>
    rw [firstE]
    by_cases h : (skelR T l).2 = 0
    · rw [if_neg (by omega), ih]; simp [h]
    · rw [if_pos h]; simp [h]
theorem firstE_step {T : Tab} {ls : List (List Int)} {i : Nat} {l : List Int} (hl : ls[i]? = some l) : firstE T (ls.drop i) = if (skelR T l).2 ≠ 0 then (skelR T l).2 else firstE T (ls.drop (i + 1)) := by
  obtain ⟨h1, e⟩ := List.getElem?_eq_some_iff.1 hl
  rw [List.drop_eq_getElem_cons h1, e, firstE]
theorem firstI_shift (s : List Int) : ∀ (ss : List (List Int)) (i : Nat), firstI s i ss = firstI s 0 ss + i := by
  intro ss
  induction ss with
  | nil => intro i; simp [firstI]
  | cons x r ih =>
    intro i
    rw [firstI, firstI]
    split
    · omega
    · rw [ih (i + 1), ih (0 + 1)]; omega
theorem firstI_le (s : List Int) : ∀ ss : List (List Int), firstI s 0 ss ≤ ss.length := by
  intro ss
  induction ss with
  | nil => simp [firstI]
  | cons x r ih =>
    rw [firstI]
    split
    · omega
    · rw [firstI_shift, List.length_cons]; omega
/-- The first that equals s, found. -/
theorem firstI_at {s : List Int} : ∀ {ss : List (List Int)} {k : Nat}, ss[k]? = some s → (∀ j x, j < k → ss[j]? = some x → x ≠ s) → firstI s 0 ss = k := by
  intro ss
  induction ss with
  | nil => intro k h; simp at h
  | cons x r ih =>
    intro k h hn
    rw [firstI]
    cases k with
    | zero => simp at h; rw [if_pos h]
    | succ k =>
      rw [if_neg (hn 0 x (by omega) (by simp)), firstI_shift, ih (by simpa using h) fun j y hj hy => hn (j + 1) y (by omega) (by simpa using hy)]
theorem firstI_spec {s : List Int} {ss : List (List Int)} {i : Nat} (h : ss[i]? = some s) : firstI s 0 ss ≤ i ∧ ss[firstI s 0 ss]? = some s ∧ ∀ j x, j < firstI s 0 ss → ss[j]? = some x → x ≠ s := by
  have key : ∀ (n : Nat), (∃ k, k ≤ n ∧ ss[k]? = some s) → ∃ k, k ≤ n ∧ ss[k]? = some s ∧ ∀ j x, j < k → ss[j]? = some x → x ≠ s := by
    intro n
    induction n with
    | zero => rintro ⟨k, hk, e⟩; exact ⟨k, hk, e, fun j x hj => by omega⟩
    | succ n ih =>
      rintro ⟨k, hk, e⟩
      by_cases h1 : ∃ k, k ≤ n ∧ ss[k]? = some s
      · obtain ⟨k', h2, h3, h4⟩ := ih h1
        exact ⟨k', by omega, h3, h4⟩
      · refine ⟨k, hk, e, fun j x hj hx hxs => h1 ⟨j, by omega, ?_⟩⟩
        rw [hx, hxs]
  obtain ⟨k, h1, h2, h3⟩ := key i ⟨i, Nat.le_refl _, h⟩
  rw [firstI_at h2 h3]
  exact ⟨h1, h2, h3⟩
/-- Two have the same class exactly if they are the same. -/
theorem classOfI_eq {ss : List (List Int)} {s u : List Int} {i j : Nat} (hs : ss[i]? = some s) (hu : ss[j]? = some u) : classOfI ss s = classOfI ss u ↔ s = u := by
  constructor
  · intro h
    unfold classOfI at h
    have h1 := (firstI_spec hs).2.1
    have h2 := (firstI_spec hu).2.1
    rw [show firstI s 0 ss = firstI u 0 ss by omega] at h1
    rw [h1] at h2; cases h2; rfl
  · rintro rfl; rfl
theorem skels_at {T : Tab} {ls : List (List Int)} {i : Nat} {l : List Int} (h : ls[i]? = some l) : (skels T ls)[i]? = some (skelR T l).1 := by unfold skels; rw [List.getElem?_map, h]; rfl
theorem classesL_at {T : Tab} {ls : List (List Int)} {i : Nat} {l : List Int} (h : ls[i]? = some l) : (classesL T ls)[i]? = some (classOfI (skels T ls) (skelR T l).1) := by unfold classesL; rw [List.getElem?_map, skels_at h]; rfl
theorem classesL_length (T : Tab) (ls : List (List Int)) : (classesL T ls).length = ls.length := by unfold classesL skels; simp
theorem skels_length (T : Tab) (ls : List (List Int)) : (skels T ls).length = ls.length := by unfold skels; simp
/-- The class of the i-th, out of those ahead of it. -/
theorem class_hit {T : Tab} {ls : List (List Int)} {k : Nat} {l x : List Int} (hx : ls[k]? = some x) (he : (skelR T x).1 = (skelR T l).1) (hn : ∀ j y, j < k → ls[j]? = some y → (skelR T y).1 ≠ (skelR T l).1) : classOfI (skels T ls) (skelR T l).1 = (k : Int) := by
  unfold classOfI
  rw [firstI_at (k := k) (by rw [skels_at hx, he]) fun j y hj hy => ?_]
  unfold skels at hy
  rw [List.getElem?_map] at hy
  cases hz : ls[j]? with
  | none => rw [hz] at hy; cases hy
  | some z => rw [hz] at hy; cases hy; exact hn j z hj hz
theorem class_new {T : Tab} {ls : List (List Int)} {i : Nat} {l : List Int} (hl : ls[i]? = some l) (hn : ∀ j y, j < i → ls[j]? = some y → (skelR T y).1 ≠ (skelR T l).1) : classOfI (skels T ls) (skelR T l).1 = (i : Int) := by
  unfold classOfI
  rw [firstI_at (k := i) (skels_at hl) fun j y hj hy => ?_]
  unfold skels at hy
  rw [List.getElem?_map] at hy
  cases hz : ls[j]? with
  | none => rw [hz] at hy; cases hy
  | some z => rw [hz] at hy; cases hy; exact hn j z hj hz
theorem twins_step {cl : List Int} {j : Nat} {i : Int} (h : cl[j]? = some i) : twinsGo j (cl.drop j) = if i < (j : Int) then (i, (j : Int), true) else twinsGo (j + 1) (cl.drop (j + 1)) := by
  obtain ⟨h1, e⟩ := List.getElem?_eq_some_iff.1 h
  rw [List.drop_eq_getElem_cons h1, e, twinsGo]
theorem twins_end {cl : List Int} {j : Nat} (h : cl.length ≤ j) : twinsGo j (cl.drop j) = (0, 0, false) := by rw [List.drop_of_length_le h]; rfl
/-- The first that has twins. -/
theorem twins_hit {cl : List Int} : ∀ (n j : Nat) {i : Int}, cl[n]? = some i → j ≤ n → i < (n : Int) → (∀ k x, j ≤ k → k < n → cl[k]? = some x → ¬ x < (k : Int)) → twinsGo j (cl.drop j) = (i, (n : Int), true) := by
  intro n j
  induction h : n - j generalizing j with
  | zero =>
    intro i h1 h2 h3 h4
    obtain rfl : j = n := by omega
    rw [twins_step h1, if_pos h3]
  | succ m ih =>
    intro i h1 h2 h3 h4
    obtain ⟨x, hx⟩ : ∃ x, cl[j]? = some x := ⟨_, List.getElem?_eq_getElem (by have := (List.getElem?_eq_some_iff.1 h1).1; omega)⟩
    rw [twins_step hx, if_neg (h4 j x (Nat.le_refl _) (by omega) hx)]
    exact ih (j + 1) (by omega) h1 (by omega) h3 fun k y hk => h4 k y (by omega)
theorem twins_none {cl : List Int} : ∀ (n j : Nat), n = cl.length - j → (∀ k x, j ≤ k → cl[k]? = some x → ¬ x < (k : Int)) → twinsGo j (cl.drop j) = (0, 0, false) := by
  intro n
  induction n with
  | zero => intro j h _; exact twins_end (by omega)
  | succ m ih =>
    intro j h h4
    obtain ⟨x, hx⟩ : ∃ x, cl[j]? = some x := ⟨_, List.getElem?_eq_getElem (by omega)⟩
    rw [twins_step hx, if_neg (h4 j x (Nat.le_refl _) hx)]
    exact ih (j + 1) (by omega) fun k y hk => h4 k y (by omega)
theorem diffGo_neg : ∀ (x y : List Int) (i : Nat), diffGo i x y = -1 ↔ x = y := by
  intro x
  induction x with
  | nil =>
    intro y i
    cases y with
    | nil => simp [diffGo]
    | cons b r => simp only [diffGo]; constructor
                  · intro h; omega
                  · intro h; cases h
  | cons a r ih =>
    intro y i
    cases y with
    | nil => simp only [diffGo]; constructor
             · intro h; omega
             · intro h; cases h
    | cons b s =>
      rw [diffGo]
      by_cases h : a = b
      · rw [if_pos h, ih]; simp [h]
      · rw [if_neg h]; constructor
        · intro h2; omega
        · intro h2; cases h2; exact absurd rfl h
theorem diffGo_ge : ∀ (x y : List Int) (i : Nat), -1 ≤ diffGo i x y := by
  intro x
  induction x with
  | nil => intro y i; cases y <;> simp only [diffGo] <;> omega
  | cons a r ih =>
    intro y i
    cases y with
    | nil => simp only [diffGo]; omega
    | cons b s => rw [diffGo]; split
                  · exact ih s (i + 1)
                  · omega
theorem differL_neg (x y : List Int) : differL x y = -1 ↔ x = y := diffGo_neg x y 0
theorem diff_on {x y : List Int} {i : Nat} {a b : Int} (hx : x[i]? = some a) (hy : y[i]? = some b) : diffGo i (x.drop i) (y.drop i) = if a = b then diffGo (i + 1) (x.drop (i + 1)) (y.drop (i + 1)) else (i : Int) := by
  obtain ⟨h1, e1⟩ := List.getElem?_eq_some_iff.1 hx
  obtain ⟨h2, e2⟩ := List.getElem?_eq_some_iff.1 hy
  rw [List.drop_eq_getElem_cons h1, List.drop_eq_getElem_cons h2, e1, e2, diffGo]
theorem diff_end {x y : List Int} {i : Nat} (h : x.length ≤ i ∨ y.length ≤ i) (hx : i ≤ x.length) (hy : i ≤ y.length) : diffGo i (x.drop i) (y.drop i) = if x.length = y.length then -1 else (i : Int) := by
  rcases h with h | h
  · rw [List.drop_of_length_le h]
    cases hd : y.drop i with
    | nil => have := congrArg List.length hd; simp at this; rw [if_pos (by omega)]; rfl
    | cons b r => have := congrArg List.length hd; simp at this; rw [if_neg (by omega)]; rfl
  · rw [List.drop_of_length_le h]
    cases hd : x.drop i with
    | nil => have := congrArg List.length hd; simp at this; rw [if_pos (by omega)]; rfl
    | cons b r => have := congrArg List.length hd; simp at this; rw [if_neg (by omega)]; rfl
end Go.Proofs.YtecpbicfiaifdaaGreatDoor
/-
  A witness for a row that lists the variable table.blocks: the heap that the door's own run leaves.
-/
namespace Go.Proofs.YtecpbicfiaifdaaGreatDoor
open Go.ChangeShapes Go.WideShapes Go.ChangeAt Go.RowKit

theorem witness_door {H : Type} {enc : TypeId × Value → H} {C : Checked} {os : Os} {f : FuncId} {fn : Func} {s : OpenSpec} {conds : List PathCond} {apart : Bool} {laid : List (String × DataW Unit)} (w0 : World) (args : Array Value) (hos : w0.os = os)
    (hsh : (w0.forCall (fun _ _ => 0) ⟨#[], args, []⟩).Shaped C.prog)
    (hok : Input.okWideB C.prog (w0.forCall (fun _ _ => 0) ⟨#[], args, []⟩) f ⟨#[], args, []⟩ = true)
    (hrow : s.preRow enc C.prog fn conds apart laid (w0.forCall (fun _ _ => 0) ⟨#[], args, []⟩).memory args) :
    ∃ (w : World) (tape : Tape) (i : Input), w.os = os ∧ (w.forCall tape i).Shaped C.prog ∧ i.vars = [] ∧ Input.okWide C.prog (w.forCall tape i) .any w.heap.size f i ∧
      s.preRow enc C.prog fn conds apart laid (w.forCall tape i).memory i.args ∧ ({ modest := false } : Assume).holds C.prog (lone (Frame.enter C.prog f i.args .normal) [] (w.forCall tape i)) :=
  ⟨w0, fun _ _ => 0, ⟨#[], args, []⟩, hos, hsh, (Input.okWide_of_okWideB (base := 0) hok).1, (Input.okWide_of_okWideB hok).2, hrow, by
    simp only [Assume.holds]
    exact ⟨by simp, by simp, fun _ => Modest.zero, by simp, by simp⟩⟩
end Go.Proofs.YtecpbicfiaifdaaGreatDoor
/-
  What every law's row asks of the call, once the walk is there: the call returns true, and below the old heap nothing has turned; so each argument reads as it read.
-/
namespace Go.Proofs.YtecpbicfiaifdaaGreatDoor
open Go.ChangeShapes Go.WideShapes Go.ChangeAt Go.RowKit

theorem Tryz.own_ : ownKnob Tryz.prog.godebug = none := by kernel_rfl
theorem Tryz.laidOut_ : laidOutB Tryz.prog = true := by kernel_rfl

section
variable {H : Type} {enc : TypeId × Value → H} {P : Program} {W W' : World}

theorem trodAll_below (hl : laidOutB P = true) (hb : Below W.heap.size W W') : ∀ (ts : List TypeId) (vs : List Value) (ds : List (DataW H)) (ps : List MemPlace),
    (∀ t ∈ ts, P.readableRec t = true ∧ t < P.types.size) → (∀ x ∈ ps, x.block < W.heap.size) →
    DataW.TrodAll enc P W 0 (fun _ => true) true ts vs ds ps → DataW.TrodAll enc P W' 0 (fun b => decide (b < W.heap.size)) true ts vs ds ps
  | [], [], [], _, _, _, h => h
  | t :: ts, v :: vs, d :: ds, ps, hk, hlt, h => by
    obtain ⟨p, q, hp, hq, rfl⟩ := h
    have ht := hk t (by simp)
    exact ⟨p, q, Below.trod hl ht.1 ht.2 hp hb (fun x hx => hlt x (by simp [hx])),
      trodAll_below hl hb ts vs ds q (fun t h => hk t (by simp [h])) (fun x hx => hlt x (by simp [hx])) hq, rfl⟩
  | [], _ :: _, _, _, _, _, h => by simp [DataW.TrodAll] at h
  | [], [], _ :: _, _, _, _, h => by simp [DataW.TrodAll] at h
  | _ :: _, [], _, _, _, _, h => by simp [DataW.TrodAll] at h
  | _ :: _, _ :: _, [], _, _, _, h => by simp [DataW.TrodAll] at h

theorem law_post {f : Func} {s : ChangeSpec} {tb : TypeId} {args : Array Value} {ds : List (DataW H)} {before : List MemPlace} (hl : laidOutB P = true)
    (hk : ∀ t ∈ f.params.toList, P.readableRec t = true ∧ t < P.types.size) (hres : f.resultTypes = #[tb]) (hbool : P.underlying tb = some .bool) (hvars : s.vars = [])
    (hW : DataW.Whole enc P f.params.toList s.vars false W args.toList ds [] before) (hfn : s.fn H (ds ++ []) = { results := [.lit (.bool true)], args := ds })
    (hb : Below W.heap.size W W') : s.post enc P f false true false false W args (.bool true) W' := by
  have hlt : ∀ x ∈ before, x.block < W.heap.size := fun x hx => hW.lt x hx
  have hW' := hW
  obtain ⟨p, q, hA, hV, rfl, _, _⟩ := hW'
  rw [hvars] at hV
  obtain ⟨_, rfl⟩ := trodVars_none hV
  refine ⟨ds, [], p ++ [], [], p, [], hW, ?_, ?_, ?_, hb.frame _, fun h => by cases h⟩
  · rw [hfn, hres]
    exact trodAll_cons_mk (shut_bool hbool true) trodAll_mk0
  · rw [hfn]
    exact trodAll_below hl hb _ _ _ _ hk (fun x hx => hlt x (by simp [hx])) hA
  · rw [hfn, hvars]; rfl
end
end Go.Proofs.YtecpbicfiaifdaaGreatDoor
