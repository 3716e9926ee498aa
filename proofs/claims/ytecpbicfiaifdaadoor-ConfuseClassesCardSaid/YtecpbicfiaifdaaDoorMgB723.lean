/-
  Merged texts: lemmas and walks that the last text of this claim leans on.
-/
import Derived.Test.YtecpbicfiaifdaaDoorMgB721
import Derived.Test.YtecpbicfiaifdaaDoorMgB718
import Derived.Test.YtecpbicfiaifdaaDoorMgB719
import Derived.Test.YtecpbicfiaifdaaDoorMgB715
import Derived.Test.YtecpbicfiaifdaaDoorMgB75
import Derived.Test.YtecpbicfiaifdaaDoorMgB722
/-
  Plain mathematics of chapter 20: skeletons. No program in sight.
-/
namespace Go.Proofs.YtecpbicfiaifdaaDoor
open Go.RowKit ND

/-- What a code point is replaced by. -/
def protoOne (T : Tab) (c : Int) : List Int := if T.ignB c = true then [] else if findL T.prototypes c ≠ [] then findL T.prototypes c else [c]
def skelM (T : Tab) (l : List Int) : List Int := l.flatMap (protoOne T)
/-- What skeleton.Map hands back. -/
def skmR (T : Tab) (e : Int) (l : List Int) : List Int × Int := if e ≠ 0 then ([], e) else if 4096 < (skelM T l).length then ([], 7) else (skelM T l, 0)
/-- What skeleton.Of hands back. -/
def skelR (T : Tab) (l : List Int) : List Int × Int :=
  if (nfdR T (accE T l) l).2 ≠ 0 then ([], (nfdR T (accE T l) l).2)
  else if (skmR T (accE T (nfdR T (accE T l) l).1) (nfdR T (accE T l) l).1).2 ≠ 0 then ([], (skmR T (accE T (nfdR T (accE T l) l).1) (nfdR T (accE T l) l).1).2)
  else nfdR T (accE T (skmR T (accE T (nfdR T (accE T l) l).1) (nfdR T (accE T l) l).1).1) (skmR T (accE T (nfdR T (accE T l) l).1) (nfdR T (accE T l) l).1).1
def skelL (T : Tab) (l : List Int) : List Int := can T.classOf (skelM T (nfdL T l))

theorem skmR_err {T : Tab} {e : Int} {l : List Int} (h : e ≠ 0) : skmR T e l = ([], e) := by unfold skmR; rw [if_pos h]
theorem skmR_full {T : Tab} {l : List Int} (h : 4096 < (skelM T l).length) : skmR T 0 l = ([], 7) := by unfold skmR; rw [if_neg (by omega), if_pos h]
theorem skmR_ok {T : Tab} {l : List Int} (h : (skelM T l).length ≤ 4096) : skmR T 0 l = (skelM T l, 0) := by unfold skmR; rw [if_neg (by omega), if_neg (by omega)]
theorem skelM_app {T : Tab} (a b : List Int) : skelM T (a ++ b) = skelM T a ++ skelM T b := by unfold skelM; rw [List.flatMap_append]
theorem skelM_cons {T : Tab} (a : Int) (b : List Int) : skelM T (a :: b) = protoOne T a ++ skelM T b := by unfold skelM; rw [List.flatMap_cons]

/-- What well-formed tables say of prototypes. -/
structure ProOk (T : Tab) : Prop where
  key : ∀ m ∈ T.prototypes, findL T.decomps m.1 = [] ∧ T.ignB m.1 = false
  el : ∀ m ∈ T.prototypes, ∀ c ∈ m.2, findL T.decomps c = [] ∧ T.ignB c = false ∧ sylB c = false ∧ findL T.prototypes c = [] ∧ scalarB c = true
  len : ∀ m ∈ T.prototypes, m.2.length ≤ 18
theorem proOk_of {T : Tab} (h : T.check = 0) : ProOk T := by
  obtain ⟨_, _, _, r4, _, _, _, _, r9⟩ := rules_of h
  unfold Tab.rule4 at r4
  simp only [Bool.and_eq_true] at r4
  have r4' := List.all_eq_true.1 r4.2.2.2
  unfold Tab.rule9 at r9
  rw [List.all_eq_true] at r9
  have hp : ∀ c, T.plainB c = true → findL T.decomps c = [] ∧ T.ignB c = false := fun c hc => by
    unfold Tab.plainB at hc
    rw [Bool.and_eq_true, decide_eq_true_eq, Bool.not_eq_true'] at hc
    exact hc
  refine ⟨fun m hm => ?_, fun m hm c hc => ?_, fun m hm => (toB_iff.1 (r4' m hm)).2.1⟩
  · have h1 := r9 m hm
    unfold Tab.protoOk at h1
    rw [Bool.and_eq_true] at h1
    exact hp _ h1.1
  · have h1 := r9 m hm
    unfold Tab.protoOk at h1
    rw [Bool.and_eq_true, List.all_eq_true] at h1
    have h2 := h1.2 c hc
    unfold Tab.protoEl at h2
    rw [Bool.and_eq_true, Bool.and_eq_true, decide_eq_true_eq, Bool.not_eq_true'] at h2
    have h3 := (toB_iff.1 (r4' m hm)).2.2
    simp only [Bool.false_eq_true, if_false] at h3
    rw [List.all_eq_true] at h3
    exact ⟨(hp c h2.1).1, (hp c h2.1).2, h2.2.1, h2.2.2, h3 c hc⟩
/-- A code point of a skeleton. -/
def isSk (T : Tab) (x : Int) : Prop := findL T.decomps x = [] ∧ sylB x = false ∧ T.ignB x = false ∧ findL T.prototypes x = []
theorem protoOne_sk {T : Tab} (h : ProOk T) {c x : Int} (hc : findL T.decomps c = [] ∧ sylB c = false) (hx : x ∈ protoOne T c) : isSk T x := by
  unfold protoOne at hx
  split at hx
  · cases hx
  · rename_i hi
    split at hx
    · rename_i hp
      obtain ⟨h1, h2, h3, h4, _⟩ := h.el _ (findL_mem hp) x hx
      exact ⟨h1, h3, h2, h4⟩
    · rename_i hp
      simp only [List.mem_singleton] at hx
      subst hx
      exact ⟨hc.1, hc.2, by simpa using hi, by simpa using hp⟩
theorem protoOne_done {T : Tab} {x : Int} (h : isSk T x) : protoOne T x = [x] := by
  unfold protoOne
  rw [if_neg (by rw [h.2.2.1]; simp), if_neg (by rw [h.2.2.2]; simp)]
theorem protoOne_len {T : Tab} (h : ProOk T) (c : Int) : (protoOne T c).length ≤ 18 := by
  unfold protoOne
  split
  · simp
  · split
    · rename_i hp
      exact h.len _ (findL_mem hp)
    · simp
theorem protoOne_scal {T : Tab} (h : ProOk T) {c x : Int} (hc : scalarB c = true) (hx : x ∈ protoOne T c) : scalarB x = true := by
  unfold protoOne at hx
  split at hx
  · cases hx
  · split at hx
    · rename_i hp
      exact (h.el _ (findL_mem hp) x hx).2.2.2.2
    · simp only [List.mem_singleton] at hx
      subst hx; exact hc
theorem skelM_sk {T : Tab} (h : ProOk T) {l : List Int} (hl : ∀ x ∈ l, findL T.decomps x = [] ∧ sylB x = false) {x : Int} (hx : x ∈ skelM T l) : isSk T x := by
  unfold skelM at hx
  rw [List.mem_flatMap] at hx
  obtain ⟨c, hc, hx⟩ := hx
  exact protoOne_sk h (hl c hc) hx
theorem skelM_done {T : Tab} : ∀ l : List Int, (∀ x ∈ l, isSk T x) → skelM T l = l := by
  intro l
  induction l with
  | nil => intro _; rfl
  | cons a r ih =>
    intro h
    rw [skelM_cons, ih fun x hx => h x (List.mem_cons_of_mem _ hx), protoOne_done (h a List.mem_cons_self)]; rfl
theorem skelM_len {T : Tab} (h : ProOk T) : ∀ l : List Int, (skelM T l).length ≤ 18 * l.length := by
  intro l
  induction l with
  | nil => simp [skelM]
  | cons a r ih =>
    have := protoOne_len h a
    rw [skelM_cons, List.length_append, List.length_cons]; omega
theorem skelM_scal {T : Tab} (h : ProOk T) {l : List Int} (hl : l.all scalarB = true) : (skelM T l).all scalarB = true := by
  rw [List.all_eq_true] at hl ⊢
  intro x hx
  unfold skelM at hx
  rw [List.mem_flatMap] at hx
  obtain ⟨c, hc, hx⟩ := hx
  exact protoOne_scal h (hl c hc) hx
theorem skelL_sk {T : Tab} (h : T.check = 0) {l : List Int} {x : Int} (hx : x ∈ skelL T l) : isSk T x :=
  skelM_sk (proOk_of h) (fun _ hy => nfdL_fix (decOk_of h) hy) (can_mem.1 hx)
theorem skelL_length {T : Tab} (l : List Int) : (skelL T l).length = (skelM T (nfdL T l)).length := can_length _ _
theorem nfdL_done {T : Tab} {l : List Int} (h : ∀ x ∈ l, findL T.decomps x = [] ∧ sylB x = false) : nfdL T l = can T.classOf l := by unfold nfdL; rw [flatD_done l h]
theorem skelL_nfdL {T : Tab} (h : T.check = 0) (l : List Int) : nfdL T (skelL T l) = skelL T l := by
  rw [nfdL_done fun x hx => ⟨(skelL_sk h hx).1, (skelL_sk h hx).2.1⟩]; exact can_can _ _
theorem skelL_twice {T : Tab} (h : T.check = 0) (l : List Int) : skelL T (skelL T l) = skelL T l := by
  show can _ (skelM T (nfdL T (skelL T l))) = _
  rw [skelL_nfdL h, skelM_done _ fun x hx => skelL_sk h hx]; exact can_can _ _
theorem skelL_nfd {T : Tab} (h : T.check = 0) (l : List Int) : skelL T (nfdL T l) = skelL T l := by
  unfold skelL; rw [nfdL_twice (decOk_of h)]
theorem skelL_same {T : Tab} {a b : List Int} (h : nfdL T a = nfdL T b) : skelL T a = skelL T b := by unfold skelL; rw [h]
theorem skelL_scal {T : Tab} (h : T.check = 0) {l : List Int} (hl : l.all scalarB = true) : (skelL T l).all scalarB = true :=
  all_can (skelM_scal (proOk_of h) (nfdL_scal (decOk_of h) hl))
/-- A sequence whose skeleton has room. -/
theorem skelR_ok {T : Tab} (h : T.check = 0) {l : List Int} (hs : l.all scalarB = true) (hl : l.length ≤ 4096) (h1 : (flatD T l).length ≤ 4096) (h2 : (skelM T (nfdL T l)).length ≤ 4096) : skelR T l = (skelL T l, 0) := by
  have e1 : accE T l = 0 := accE_ok h hl hs
  have e2 : nfdR T (accE T l) l = (nfdL T l, 0) := by rw [e1]; exact nfdR_ok h1
  have s2 := nfdL_scal (decOk_of h) hs
  have e3 : accE T (nfdL T l) = 0 := accE_ok h (by rw [nfdL_length]; exact h1) s2
  have e4 : skmR T (accE T (nfdL T l)) (nfdL T l) = (skelM T (nfdL T l), 0) := by rw [e3]; exact skmR_ok h2
  have e5 : accE T (skelM T (nfdL T l)) = 0 := accE_ok h h2 (skelM_scal (proOk_of h) s2)
  have hd : ∀ x ∈ skelM T (nfdL T l), findL T.decomps x = [] ∧ sylB x = false := fun x hx => by
    have := skelM_sk (proOk_of h) (fun _ hy => nfdL_fix (decOk_of h) hy) hx
    exact ⟨this.1, this.2.1⟩
  unfold skelR
  rw [e2]
  simp only [ne_eq, not_true_eq_false, if_false]
  rw [e4]
  simp only [not_true_eq_false, if_false]
  rw [e5, nfdR_ok (by rw [flatD_done _ hd]; exact h2)]
  unfold skelL
  rw [nfdL_done hd]
/-- A short one has. -/
theorem skelR_short {T : Tab} (h : T.check = 0) {l : List Int} (hs : l.all scalarB = true) (hl : l.length ≤ 12) : skelR T l = (skelL T l, 0) := by
  have h1 := (flatD_len (decOk_of h) l).2
  have h2 := skelM_len (proOk_of h) (nfdL T l)
  rw [nfdL_length] at h2
  exact skelR_ok h hs (by omega) (by omega) (by omega)
/-- A skeleton's skeleton. -/
theorem skelR_twice {T : Tab} (h : T.check = 0) {l : List Int} (hs : l.all scalarB = true) (hl : (skelL T l).length ≤ 4096) : skelR T (skelL T l) = (skelL T l, 0) := by
  have e1 : flatD T (skelL T l) = skelL T l := flatD_done _ fun x hx => ⟨(skelL_sk h hx).1, (skelL_sk h hx).2.1⟩
  have e2 : skelM T (nfdL T (skelL T l)) = skelL T l := by rw [skelL_nfdL h, skelM_done _ fun x hx => skelL_sk h hx]
  rw [skelR_ok h (skelL_scal h hs) hl (by rw [e1]; exact hl) (by rw [e2]; exact hl), skelL_twice h]
/-- A sequence in NFD has no more room to ask for. -/
theorem skelR_nfd {T : Tab} (h : T.check = 0) {l : List Int} (hs : l.all scalarB = true) (hl : l.length ≤ 12) : skelR T (nfdL T l) = (skelL T l, 0) := by
  have h1 := (flatD_len (decOk_of h) l).2
  have h2 := skelM_len (proOk_of h) (nfdL T l)
  have h3 : (nfdL T l).length = _ := nfdL_length l
  have e1 := nfdL_flat (decOk_of h) l
  rw [skelR_ok h (nfdL_scal (decOk_of h) hs) (by omega) (by rw [e1]; omega) (by rw [nfdL_twice (decOk_of h)]; omega), skelL_nfd h]

theorem can_split {f : Int → Int} (hf : ∀ x, 0 ≤ f x) {a b : List Int} {c : Int} (hc : f c = 0) (h : can f (a ++ c :: b) = a ++ c :: b) : can f a = a ∧ can f b = b := by
  rw [can_app hf hc] at h
  have := List.append_inj h (can_length f a)
  simpa using this
theorem can_zeros {f : Int → Int} (hf : ∀ x, 0 ≤ f x) : ∀ (p b : List Int), (∀ x ∈ p, f x = 0) → can f (p ++ b) = p ++ can f b := by
  intro p
  induction p with
  | nil => intro b _; rfl
  | cons x r ih =>
    intro b h
    have h1 := can_app hf (h x List.mem_cons_self) (r ++ b) []
    rw [List.nil_append] at h1
    rw [List.cons_append, h1, ih b fun y hy => h y (List.mem_cons_of_mem _ hy)]; rfl
/-- A code point is replaced by its prototype. -/
theorem skelL_proto {T : Tab} (h : T.check = 0) {l0 a b : List Int} {c : Int} (hl : nfdL T l0 = a ++ c :: b) (hc : T.classOf c = 0) (hp : findL T.prototypes c ≠ []) (hz : ∀ x ∈ findL T.prototypes c, T.classOf x = 0) :
    skelL T (a ++ findL T.prototypes c ++ b) = skelL T l0 ∧ nfdL T (a ++ findL T.prototypes c ++ b) = a ++ findL T.prototypes c ++ b ∧ flatD T (a ++ findL T.prototypes c ++ b) = a ++ findL T.prototypes c ++ b ∧ skelM T (a ++ findL T.prototypes c ++ b) = skelM T (nfdL T l0) := by
  have hP := proOk_of h
  have hD := decOk_of h
  have hf : ∀ x, 0 ≤ T.classOf x := fun x => (cls_range h x).1
  have hfix : ∀ x ∈ nfdL T l0, findL T.decomps x = [] ∧ sylB x = false := fun _ hx => nfdL_fix hD hx
  rw [hl] at hfix
  have hel := hP.el _ (findL_mem hp)
  have hsorted : can T.classOf (a ++ c :: b) = a ++ c :: b := by rw [← hl]; exact can_can _ _
  obtain ⟨ha, hb⟩ := can_split hf hc hsorted
  have hdone : ∀ x ∈ a ++ findL T.prototypes c ++ b, findL T.decomps x = [] ∧ sylB x = false := fun x hx => by
    simp only [List.mem_append] at hx
    rcases hx with (hx | hx) | hx
    · exact hfix x (by simp [hx])
    · exact ⟨(hel x hx).1, (hel x hx).2.2.1⟩
    · exact hfix x (by simp [hx])
  have hn : nfdL T (a ++ findL T.prototypes c ++ b) = a ++ findL T.prototypes c ++ b := by
    rw [nfdL_done hdone]
    cases he : findL T.prototypes c with
    | nil => exact absurd he hp
    | cons p0 pr =>
      rw [he] at hz
      have h1 := can_app hf (hz p0 List.mem_cons_self) (pr ++ b) a
      rw [List.append_assoc, List.cons_append, h1, ha, can_zeros hf pr b fun x hx => hz x (List.mem_cons_of_mem _ hx), hb]
  have hm : skelM T (a ++ findL T.prototypes c ++ b) = skelM T (nfdL T l0) := by
    rw [hl, skelM_app, skelM_app, skelM_app, skelM_cons, skelM_done (findL T.prototypes c) fun x hx => ⟨(hel x hx).1, (hel x hx).2.2.1, (hel x hx).2.1, (hel x hx).2.2.2.1⟩, List.append_assoc]
    congr 2
    unfold protoOne
    rw [if_neg (by rw [(hP.key _ (findL_mem hp)).2]; simp), if_pos hp]
  refine ⟨?_, hn, flatD_done _ hdone, hm⟩
  unfold skelL
  rw [hn, hm]
end Go.Proofs.YtecpbicfiaifdaaDoor
/-
  What skeleton.Of hands back, by cases.
-/
namespace Go.Proofs.YtecpbicfiaifdaaDoor
open Go.RowKit ND

theorem skelM_step {T : Tab} {l : List Int} {k : Nat} {x : Int} (h : l[k]? = some x) : skelM T (l.take (k + 1)) = skelM T (l.take k) ++ protoOne T x := by
  obtain ⟨h1, e⟩ := List.getElem?_eq_some_iff.1 h
  rw [List.take_succ_eq_append_getElem h1, skelM_app, e]
  simp [skelM]
theorem proto_ign {T : Tab} {x : Int} (h : T.ignB x = true) : protoOne T x = [] := by unfold protoOne; rw [if_pos h]
theorem proto_some {T : Tab} {x : Int} (h : T.ignB x = false) (h2 : findL T.prototypes x ≠ []) : protoOne T x = findL T.prototypes x := by unfold protoOne; rw [if_neg (by rw [h]; simp), if_pos h2]
theorem proto_none {T : Tab} {x : Int} (h : T.ignB x = false) (h2 : findL T.prototypes x = []) : protoOne T x = [x] := by unfold protoOne; rw [if_neg (by rw [h]; simp), if_neg (by rw [h2]; simp)]
theorem proto_flen {T : Tab} (h : T.check = 0) (x : Int) : (findL T.prototypes x).length ≤ 18 := by
  by_cases h2 : findL T.prototypes x = []
  · rw [h2]; simp
  · exact (proOk_of h).len _ (findL_mem h2)
theorem skelR_e1 {T : Tab} {l d : List Int} {e : Int} (h1 : nfdR T (accE T l) l = (d, e)) (h : e ≠ 0) : skelR T l = ([], e) := by
  unfold skelR; rw [h1]; simp only; rw [if_pos h]
theorem skelR_e2 {T : Tab} {l d m : List Int} {f : Int} (h1 : nfdR T (accE T l) l = (d, 0)) (h2 : skmR T (accE T d) d = (m, f)) (h : f ≠ 0) : skelR T l = ([], f) := by
  unfold skelR; rw [h1]; simp only; rw [if_neg (by simp), h2]; simp only; rw [if_pos h]
theorem skelR_e3 {T : Tab} {l d m : List Int} (h1 : nfdR T (accE T l) l = (d, 0)) (h2 : skmR T (accE T d) d = (m, 0)) : skelR T l = nfdR T (accE T m) m := by
  unfold skelR; rw [h1]; simp only; rw [if_neg (by simp), h2]; simp only; rw [if_neg (by simp)]
/-- Whether a sequence is its own skeleton. -/
def isSkB (T : Tab) (xs : List Int) : Bool := (skelR T xs).2 == 0 && decide ((skelR T xs).1 = xs)
end Go.Proofs.YtecpbicfiaifdaaDoor
/-
  The walk through one sequence of table.
-/
namespace Go.Proofs.YtecpbicfiaifdaaDoor
open Go.RowKit ND

set_option maxRecDepth 100000 in
set_option maxHeartbeats 400000 in
theorem prototype_any (t : Tv) (T : Tab) (c : Int) (w : World) (ht : TabR w w.heap.size t T) (hs : sortM T.prototypes) (hne : ∀ m ∈ T.prototypes, m.2 ≠ [] ∧ m.2.length ≤ 1000) (hlen : T.prototypes.length ≤ 256) :
    Calls Tryd.prog 44 #[t.val, .int .i64 c] w (RetSeq w (findL T.prototypes c)) := by
  have HP := Lib.hid (fun W (h : Mapps W W.heap.size t.c11 T.prototypes) => find_any t.c11 T.prototypes c W h hs (fun m hm => (hne m hm).1) hlen)
  have HS := Lib.hid (find_len (c := c) (fun m hm => (hne m hm).2))
  have hr := ht.r11
  have HR := Lib.hid (fun o : Obj => hr.later ((Below.refl _ _).alloc (Nat.le_refl _) o))
  clear hr ht hs hlen hne
  go_enter Tryd.func44, Tryd.ntmps44
  go_wp2_with fail
  refine (HP.out _ (HR.out _)).mono ?_
  rintro e w1 ⟨v, rfl, hv, hn, b1⟩
  go_wp2_with fail
  refine (copied_any v _ w1 hv HS.out).mono ?_
  rintro e w2 ⟨v', rfl, hv', hn', b2⟩
  go_wp2_with fail
  go_ret
  exact ⟨_, rfl, hv', hn', below_next ((Below.refl _ _).alloc (Nat.le_refl _) _) (below_next b1 b2)⟩
end Go.Proofs.YtecpbicfiaifdaaDoor
/-
  The walk through skeleton.Map.
-/
namespace Go.Proofs.YtecpbicfiaifdaaDoor
open Go.RowKit ND

set_option maxRecDepth 100000 in
set_option maxHeartbeats 4000000 in
theorem skm_any (t : Tv) (T : Tab) (v : Value) (xs : List Int) (w : World) (ht : TabR w w.heap.size t T) (hg : Glob w) (hv : Ints w w.heap.size .i64 v xs) :
    Calls Tryd.prog 34 #[t.val, v] w (RetTwo w (skmR T (accE T xs) xs).1 (skmR T (accE T xs) xs).2) := by
  obtain ⟨A, c, rfl, _⟩ := id hv
  have HB0 : Hid (Below w.heap.size w (w.alloc (.cells t.cells 31))) := Lib.hid ((Below.refl _ _).alloc (Nat.le_refl _) _)
  have HT : Hid (Tbl (w.alloc (.cells t.cells 31)) w.heap.size t T) := Lib.hid ⟨Blk.new _ _ _, ht.later HB0.out⟩
  have HV := Lib.hid (hv.later HB0.out)
  have HG := Lib.hid (hg.later HB0.out)
  clear ht hv hg
  have HO := Lib.hid (order_any t T _ xs _ HT.out.2 HG.out HV.out)
  by_cases h0 : accE T xs = 0
  · obtain ⟨hck, hlen, _⟩ := accE_zero h0
    have hsh := shape_of hck
    have hsz := sized_of hck
    have HI : Hid (∀ (b : Nat) (W : World) (x : Int), Tbl W b t T → Calls Tryd.prog 43 #[.agg #[t.c0, t.c1, t.c2, t.c3, t.c4, t.c5, t.c6, t.c7, t.c8, t.c9, t.c10, t.c11], .int .i64 x] W (fun e W' => e = .returned (.bool (T.ignB x)) ∧ Below W.heap.size W W')) := Lib.hid fun b W x h => ignorable_any t T x 0 1114111 W h.2 hsh.c6.1 hsh.c6.2.1
    have HP : Hid (∀ (b : Nat) (W : World) (x : Int), Tbl W b t T → Calls Tryd.prog 44 #[.agg #[t.c0, t.c1, t.c2, t.c3, t.c4, t.c5, t.c6, t.c7, t.c8, t.c9, t.c10, t.c11], .int .i64 x] W (RetSeq W (findL T.prototypes x))) := Lib.hid fun b W x h => prototype_any t T x W h.2 (keysB_sort hsh.kp) hsz.np hsh.lp
    have HML := Lib.hid (fun x => proto_flen hck x)
    have HEF : Hid (4096 < (skelM T xs).length → skmR T (accE T xs) xs = ([], 7)) := Lib.hid (by rw [h0]; exact fun h => skmR_full h)
    have HEO : Hid ((skelM T xs).length ≤ 4096 → skmR T (accE T xs) xs = (skelM T xs, 0)) := Lib.hid (by rw [h0]; exact fun h => skmR_ok h)
    rw [h0] at HO
    generalize skmR T (accE T xs) xs = R at *
    clear h0 hck hsh hsz
    generalize ordL T xs = ol at *
    go_enter Tryd.func34, Tryd.ntmps34
    go_upto_region 1 with fail
    generalize w.alloc (.cells t.cells 31) = w1 at *
    obtain ⟨x0, x1, x2, x3, x4, x5, x6, x7, x8, x9, x10, x11⟩ := HT.out.1.tab
    go_upto_region 2 with (go_at_call 41; refine HO.out.mono ?_; rintro e w2 ⟨u2, rfl, ho2, b2⟩; obtain ⟨A2, c2, rfl, _⟩ := id (Ints.of_own ho2); clear ho2)
    clear x0 x1 x2 x3 x4 x5 x6 x7 x8 x9 x10 x11
    obtain ⟨tb, htb⟩ : ∃ tb, w.heap.size = tb := ⟨_, rfl⟩
    have HT2 : Hid (Tbl w2 tb t T) := Lib.hid (htb ▸ HT.out.later b2)
    have HV2 := Lib.hid (HV.out.later b2)
    have HB2 := Lib.hid (below_next HB0.out b2)
    simp only [htb]
    clear HT HV HB0 HO b2
    obtain ⟨i0, hi, hz0, hz1, hz2⟩ := info_parts Tryd.infoInt'
    go_wp2_with fail
    go_loopw [23, 8] (fun si so wr => ∃ (k : Nat) (acc : List Int) (A9 : Option Addr) (c9 : Nat), k ≤ xs.length ∧ si = .int .i64 k ∧ so = .slice A9 acc.length c9 ∧ acc.length ≤ 18 * k ∧ Hid (acc = skelM T (xs.take k)) ∧ Hid (wr.ownsRow w2.heap.size 3 1 (.slice A9 acc.length c9) acc.length (acc.map (Value.int .i64))) ∧ Hid (Below w2.heap.size w2 wr)) (fun i _ _ => xs.length - (intOf i).toNat)
    case atStart => exact ⟨0, [], none, 0, by omega, rfl, rfl, by simp, Lib.hid rfl, Lib.hid (World.ownsRow_nil _ _ _ _), Lib.hid (Below.refl _ _)⟩
    case round =>
      obtain ⟨k, acc, A9, c9, hk, rfl, rfl, hal, HS, HOr, HBr⟩ := hrel
      by_cases hlt : k < xs.length
      · obtain ⟨x, hxk, _⟩ := get_of hlt
        obtain ⟨_, _, hve, _, _, _, hcell⟩ := HV2.out
        cases hve
        obtain ⟨ad, rfl, ha, hce⟩ := hcell k x hxk
        have e1 := (HBr.out.cell (p := ad.add k) (by rw [block_of_add]; exact ha)).trans hce
        have HX := Lib.hid hxk
        have k0 : (0 : Int) ≤ (k : Int) := by omega
        have k1 : (k : Int) < (xs.length : Int) := by omega
        have HTr := Lib.hid (HT2.out.later HBr.out)
        have HOS := Lib.hid (skelM_step (T := T) HX.out)
        have HIx := Lib.hid (fun W (h : Below wr.heap.size wr W) => HI.out tb W x (HTr.out.later h))
        have HPx := Lib.hid (fun W (h : Below wr.heap.size wr W) => HP.out tb W x (HTr.out.later h))
        have hml := HML.out x
        clear hcell hxk ha hce
        obtain ⟨ig, hig⟩ : ∃ ig, T.ignB x = ig := ⟨_, rfl⟩
        simp only [hig] at HIx
        cases ig with
        | true =>
          have HN : Hid (acc = skelM T (xs.take (k + 1))) := Lib.hid (by rw [HOS.out, proto_ign hig, List.append_nil]; exact HS.out)
          clear hig
          generalize findL T.prototypes x = ml at *
          obtain ⟨x0, x1, x2, x3, x4, x5, x6, x7, x8, x9, x10, x11⟩ := HTr.out.1.tab
          go_wp2_with ((go_at_call 43; refine (HIx.out _ (Below.refl _ _)).mono ?_; rintro e w5 ⟨rfl, b5⟩; have HO5 := Lib.hid (own_later HOr.out b5); have HB5 := Lib.hid (below_then HBr.out (Nat.le_refl _) b5); have HT5 := Lib.hid (HTr.out.later b5); clear x0 x1 x2 x3 x4 x5 x6 x7 x8 x9 x10 x11; obtain ⟨x0, x1, x2, x3, x4, x5, x6, x7, x8, x9, x10, x11⟩ := HT5.out.1.tab))
          go_roundw
          case rel => exact ⟨k + 1, acc, A9, c9, by omega, by go_num, rfl, by omega, HN, HO5, HB5⟩
          case measure => simp [intOf]; omega
        | false =>
          by_cases hp : findL T.prototypes x = []
          · have HN : Hid (acc ++ [x] = skelM T (xs.take (k + 1))) := Lib.hid (by rw [HOS.out, proto_none hig hp, ← HS.out])
            rw [hp] at HPx
            clear hig hp hml
            obtain ⟨x0, x1, x2, x3, x4, x5, x6, x7, x8, x9, x10, x11⟩ := HTr.out.1.tab
            go_wp2_with (first
              | (go_at_call 43; refine (HIx.out _ (Below.refl _ _)).mono ?_; rintro e w5 ⟨rfl, b5⟩; have HO5 := Lib.hid (own_later HOr.out b5); have HB5 := Lib.hid (below_then HBr.out (Nat.le_refl _) b5); have HT5 := Lib.hid (HTr.out.later b5); clear x0 x1 x2 x3 x4 x5 x6 x7 x8 x9 x10 x11; obtain ⟨x0, x1, x2, x3, x4, x5, x6, x7, x8, x9, x10, x11⟩ := HT5.out.1.tab)
              | (go_at_call 44; refine (HPx.out _ b5).mono ?_; rintro e w7 ⟨u7, rfl, hi7, _, b7⟩; obtain ⟨A7, c7, rfl, _⟩ := id hi7; have HI7 := Lib.hid hi7; have HO7 := Lib.hid (own_later HO5.out b7); have HB7 := Lib.hid (below_then HB5.out (Nat.le_refl _) b7); clear hi7 b7)
              | (at_builtin; refine wpList_append_ints (by rfl) (.tmp 39) (.tmp 41) rfl Tryd.underlying24 hi hz0 hz1 hz2 (w7.heap.size + 1) w2.heap.size (.slice A9 acc.length c9) acc (.slice (some ⟨w7.heap.size, 0, none⟩) 1 1) [x] rfl (HO7.out.alloc _) rfl (by have h := Ints.of_own (own_new w7 3 [x] (by simp)); simpa using h) (by simp; omega) (by have := HB7.out.size; simp; omega) ?_; intro v6 w6 ho6 hg6 _; obtain ⟨A6, c6, rfl, _⟩ := id (Ints.of_own ho6); have HO6 := Lib.hid ho6; have HB6 := Lib.hid ((HB7.out.alloc HB7.out.size (.cells #[.int .i64 x] 3)).grown hg6 (by have := HB7.out.size; simp; omega) (fun q hq => (HO7.out.lt q hq).1)); clear ho6 hg6))
            go_roundw
            case rel => exact ⟨k + 1, acc ++ [x], A6, c6, by omega, by go_num, by simp, by simp; omega, HN, HO6, HB6⟩
            case measure => simp [intOf]; omega
          · have HN : Hid (acc ++ findL T.prototypes x = skelM T (xs.take (k + 1))) := Lib.hid (by rw [HOS.out, proto_some hig hp, ← HS.out])
            have gp : (0 : Int) < ((findL T.prototypes x).length : Int) := by have := List.length_pos_iff.2 hp; omega
            clear hig hp
            generalize findL T.prototypes x = ml at *
            obtain ⟨x0, x1, x2, x3, x4, x5, x6, x7, x8, x9, x10, x11⟩ := HTr.out.1.tab
            go_wp2_with (first
              | (go_at_call 43; refine (HIx.out _ (Below.refl _ _)).mono ?_; rintro e w5 ⟨rfl, b5⟩; have HO5 := Lib.hid (own_later HOr.out b5); have HB5 := Lib.hid (below_then HBr.out (Nat.le_refl _) b5); have HT5 := Lib.hid (HTr.out.later b5); clear x0 x1 x2 x3 x4 x5 x6 x7 x8 x9 x10 x11; obtain ⟨x0, x1, x2, x3, x4, x5, x6, x7, x8, x9, x10, x11⟩ := HT5.out.1.tab)
              | (go_at_call 44; refine (HPx.out _ b5).mono ?_; rintro e w7 ⟨u7, rfl, hi7, _, b7⟩; obtain ⟨A7, c7, rfl, _⟩ := id hi7; have HI7 := Lib.hid hi7; have HO7 := Lib.hid (own_later HO5.out b7); have HB7 := Lib.hid (below_then HB5.out (Nat.le_refl _) b7); clear hi7 b7)
              | (at_builtin; refine wpList_append_ints (by rfl) (.tmp 36) (.tmp 37) rfl Tryd.underlying24 hi hz0 hz1 hz2 w7.heap.size w2.heap.size (.slice A9 acc.length c9) acc (.slice A7 ml.length c7) ml rfl HO7.out rfl HI7.out (by omega) HB7.out.size ?_; intro v6 w6 ho6 hg6 _; obtain ⟨A6, c6, rfl, _⟩ := id (Ints.of_own ho6); have HO6 := Lib.hid ho6; have HB6 := Lib.hid (HB7.out.grown hg6 HB7.out.size (fun q hq => (HO7.out.lt q hq).1)); clear ho6 hg6))
            go_roundw
            case rel => exact ⟨k + 1, acc ++ ml, A6, c6, by omega, by go_num, by simp, by simp; omega, HN, HO6, HB6⟩
            case measure => simp [intOf]; omega
      · have HA : Hid (acc = skelM T xs) := Lib.hid (by have := HS.out; rwa [List.take_of_length_le (by omega)] at this)
        by_cases hfl : 4096 < acc.length
        · have HR := Lib.hid (HEF.out (by rw [← HA.out]; exact hfl))
          have g : (4096 : Int) < (acc.length : Int) := by omega
          clear hfl
          go_wp2_with fail
          go_ret2
          rw [HR.out]
          exact ⟨_, rfl, World.ownsRow_nil _ _ _ _, below_next HB2.out HBr.out⟩
        · have HR := Lib.hid (HEO.out (by rw [← HA.out]; omega))
          rw [← HA.out] at HR
          have g : ¬ (4096 : Int) < (acc.length : Int) := by omega
          clear hfl
          go_wp2_with fail
          go_ret2
          rw [HR.out]
          exact ⟨_, rfl, row_le HOr.out HB2.out.size, below_next HB2.out HBr.out⟩
  · have HE := Lib.hid (skmR_err (T := T) (l := xs) h0)
    have hb : (accE T xs != 0) = true := by simpa using h0
    clear h0
    go_enter Tryd.func34, Tryd.ntmps34
    go_upto_region 1 with fail
    generalize w.alloc (.cells t.cells 31) = w1 at *
    obtain ⟨x0, x1, x2, x3, x4, x5, x6, x7, x8, x9, x10, x11⟩ := HT.out.1.tab
    go_wp2_with (go_at_call 41; refine HO.out.mono ?_; rintro e w2 ⟨u2, rfl, ho2, b2⟩; obtain ⟨A2, c2, rfl, _⟩ := id (Ints.of_own ho2); clear ho2)
    go_ret2
    rw [HE.out]
    exact ⟨_, rfl, World.ownsRow_nil _ _ _ _, below_next HB0.out b2⟩
end Go.Proofs.YtecpbicfiaifdaaDoor
/-
  The walk through skeleton.Of.
-/
namespace Go.Proofs.YtecpbicfiaifdaaDoor
open Go.RowKit ND

set_option maxRecDepth 100000 in
set_option maxHeartbeats 2000000 in
theorem skOf_any (t : Tv) (T : Tab) (v : Value) (xs : List Int) (w : World) (ht : TabR w w.heap.size t T) (hg : Glob w) (hv : Ints w w.heap.size .i64 v xs) :
    Calls Tryd.prog 12 #[t.val, v] w (RetTwo w (skelR T xs).1 (skelR T xs).2) := by
  obtain ⟨A, c, rfl, _⟩ := id hv
  have HB0 : Hid (Below w.heap.size w (w.alloc (.cells t.cells 31))) := Lib.hid ((Below.refl _ _).alloc (Nat.le_refl _) _)
  have HT : Hid (Tbl (w.alloc (.cells t.cells 31)) w.heap.size t T) := Lib.hid ⟨Blk.new _ _ _, ht.later HB0.out⟩
  have HV := Lib.hid (hv.later HB0.out)
  have HG := Lib.hid (hg.later HB0.out)
  clear ht hv hg
  have H1 := Lib.hid (nfd7_any t T _ xs _ HT.out.2 HG.out HV.out)
  obtain ⟨dl, e1, hd⟩ : ∃ dl e1, nfdR T (accE T xs) xs = (dl, e1) := ⟨_, _, rfl⟩
  rw [hd] at H1
  have H2 := Lib.hid (fun W v (h : Below (w.alloc (.cells t.cells 31)).heap.size (w.alloc (.cells t.cells 31)) W) hi => skm_any t T v dl W (HT.out.later h).2 (HG.out.later h) hi)
  obtain ⟨ml, e2, hm⟩ : ∃ ml e2, skmR T (accE T dl) dl = (ml, e2) := ⟨_, _, rfl⟩
  rw [hm] at H2
  have H3 := Lib.hid (fun W v (h : Below (w.alloc (.cells t.cells 31)).heap.size (w.alloc (.cells t.cells 31)) W) hi => nfd7_any t T v ml W (HT.out.later h).2 (HG.out.later h) hi)
  obtain ⟨rl, e3, hr⟩ : ∃ rl e3, nfdR T (accE T ml) ml = (rl, e3) := ⟨_, _, rfl⟩
  rw [hr] at H3
  by_cases h1 : e1 = 0
  · subst h1
    by_cases h2 : e2 = 0
    · subst h2
      have HR := Lib.hid ((skelR_e3 hd hm).trans hr)
      clear hd hm hr
      generalize skelR T xs = R at *
      go_enter Tryd.func12, Tryd.ntmps12
      go_upto_region 1 with fail
      generalize w.alloc (.cells t.cells 31) = w1 at *
      obtain ⟨x0, x1, x2, x3, x4, x5, x6, x7, x8, x9, x10, x11⟩ := HT.out.1.tab
      go_upto_region 2 with (go_at_call 33; refine H1.out.mono ?_; rintro e w2 ⟨u2, rfl, ho2, b2⟩; obtain ⟨A2, c2, rfl, _⟩ := id (Ints.of_own ho2); have HU2 := Lib.hid (Ints.of_own ho2); clear ho2)
      clear x0 x1 x2 x3 x4 x5 x6 x7 x8 x9 x10 x11
      obtain ⟨x0, x1, x2, x3, x4, x5, x6, x7, x8, x9, x10, x11⟩ := (HT.out.later b2).1.tab
      go_upto_region 5 with (go_at_call 34; refine (H2.out _ _ b2 HU2.out).mono ?_; rintro e w3 ⟨u3, rfl, ho3, b3⟩; obtain ⟨A3, c3, rfl, _⟩ := id (Ints.of_own ho3); have HU3 := Lib.hid (Ints.of_own ho3); have b23 := below_next b2 b3; clear ho3)
      clear x0 x1 x2 x3 x4 x5 x6 x7 x8 x9 x10 x11
      obtain ⟨x0, x1, x2, x3, x4, x5, x6, x7, x8, x9, x10, x11⟩ := (HT.out.later b23).1.tab
      go_wp2_with (go_at_call 33; refine (H3.out _ _ b23 HU3.out).mono ?_; rintro e w4 ⟨u4, rfl, ho4, b4⟩; obtain ⟨A4, c4, rfl, _⟩ := id (Ints.of_own ho4))
      go_ret2
      rw [HR.out]
      exact ⟨_, rfl, row_le ho4 (by have := HB0.out.size; have := b23.size; omega), below_next (below_next HB0.out b23) b4⟩
    · have HR := Lib.hid (skelR_e2 hd hm h2)
      have hb : (e2 != 0) = true := by simpa using h2
      clear hd hm hr h2
      generalize skelR T xs = R at *
      go_enter Tryd.func12, Tryd.ntmps12
      go_upto_region 1 with fail
      generalize w.alloc (.cells t.cells 31) = w1 at *
      obtain ⟨x0, x1, x2, x3, x4, x5, x6, x7, x8, x9, x10, x11⟩ := HT.out.1.tab
      go_upto_region 2 with (go_at_call 33; refine H1.out.mono ?_; rintro e w2 ⟨u2, rfl, ho2, b2⟩; obtain ⟨A2, c2, rfl, _⟩ := id (Ints.of_own ho2); have HU2 := Lib.hid (Ints.of_own ho2); clear ho2)
      clear x0 x1 x2 x3 x4 x5 x6 x7 x8 x9 x10 x11
      obtain ⟨x0, x1, x2, x3, x4, x5, x6, x7, x8, x9, x10, x11⟩ := (HT.out.later b2).1.tab
      go_wp2_with (go_at_call 34; refine (H2.out _ _ b2 HU2.out).mono ?_; rintro e w3 ⟨u3, rfl, ho3, b3⟩; obtain ⟨A3, c3, rfl, _⟩ := id (Ints.of_own ho3); have HU3 := Lib.hid (Ints.of_own ho3); have b23 := below_next b2 b3; clear ho3)
      go_ret2
      rw [HR.out]
      exact ⟨_, rfl, World.ownsRow_nil _ _ _ _, below_next HB0.out b23⟩
  · have HR := Lib.hid (skelR_e1 hd h1)
    have hb : (e1 != 0) = true := by simpa using h1
    clear hd hm hr h1
    generalize skelR T xs = R at *
    go_enter Tryd.func12, Tryd.ntmps12
    go_upto_region 1 with fail
    generalize w.alloc (.cells t.cells 31) = w1 at *
    obtain ⟨x0, x1, x2, x3, x4, x5, x6, x7, x8, x9, x10, x11⟩ := HT.out.1.tab
    go_wp2_with (go_at_call 33; refine H1.out.mono ?_; rintro e w2 ⟨u2, rfl, ho2, b2⟩; obtain ⟨A2, c2, rfl, _⟩ := id (Ints.of_own ho2); have HU2 := Lib.hid (Ints.of_own ho2); clear ho2)
    go_ret2
    rw [HR.out]
    exact ⟨_, rfl, World.ownsRow_nil _ _ _ _, below_next HB0.out b2⟩
end Go.Proofs.YtecpbicfiaifdaaDoor
/-
  The walk through skeleton.Is.
-/
namespace Go.Proofs.YtecpbicfiaifdaaDoor
open Go.RowKit ND

set_option maxRecDepth 100000 in
set_option maxHeartbeats 1000000 in
theorem skIs_any (t : Tv) (T : Tab) (v : Value) (xs : List Int) (w : World) (ht : TabR w w.heap.size t T) (hg : Glob w) (hv : Ints w w.heap.size .i64 v xs) :
    Calls Tryd.prog 16 #[t.val, v] w fun e w' => e = .returned (.bool (isSkB T xs)) ∧ Below w.heap.size w w' := by
  obtain ⟨A, c, rfl, _⟩ := id hv
  have HB0 : Hid (Below w.heap.size w (w.alloc (.cells t.cells 31))) := Lib.hid ((Below.refl _ _).alloc (Nat.le_refl _) _)
  have HT : Hid (Tbl (w.alloc (.cells t.cells 31)) w.heap.size t T) := Lib.hid ⟨Blk.new _ _ _, ht.later HB0.out⟩
  have HV := Lib.hid (hv.later HB0.out)
  have HO := Lib.hid (skOf_any t T _ xs _ HT.out.2 (hg.later HB0.out) HV.out)
  clear hv ht hg
  unfold isSkB
  obtain ⟨ys, er, hr⟩ : ∃ ys er, skelR T xs = (ys, er) := ⟨_, _, rfl⟩
  rw [hr] at HO ⊢
  clear hr
  show Calls _ _ _ _ fun e w' => e = .returned (.bool (er == 0 && decide (ys = xs))) ∧ _
  obtain ⟨R, hR⟩ : ∃ R, R = decide (ys = xs) := ⟨_, rfl⟩
  have HR := Lib.hid hR
  rw [← hR]
  clear hR
  go_enter Tryd.func16, Tryd.ntmps16
  go_upto_region 1 with fail
  generalize w.alloc (.cells t.cells 31) = w1 at *
  obtain ⟨x0, x1, x2, x3, x4, x5, x6, x7, x8, x9, x10, x11⟩ := HT.out.1.tab
  go_upto_region 2 with (go_at_call 12; refine HO.out.mono ?_; rintro e w2 ⟨u, rfl, ho2, b2⟩; obtain ⟨A2, c2, rfl, _⟩ := id (Ints.of_own ho2); have HU := Lib.hid (Ints.of_own ho2); clear ho2)
  have HEQ : Hid (∀ V, Below w2.heap.size w2 V → Calls Tryd.prog 23 #[.slice A2 ys.length c2, .slice A xs.length c] V fun e V' => e = .returned (.bool R) ∧ Below V.heap.size V V') := Lib.hid fun V hV => by
    have h := equal_any _ _ ys xs V (HU.out.later hV) ((HV.out.later b2).later hV)
    rw [← HR.out] at h; exact h
  clear x0 x1 x2 x3 x4 x5 x6 x7 x8 x9 x10 x11
  by_cases h0 : er = 0
  · have hb : (er == 0) = true := by rw [h0]; rfl
    clear h0
    go_wp2_with (go_at_call 23; refine (HEQ.out _ (Below.refl _ _)).mono ?_; rintro e w3 ⟨rfl, b3⟩)
    go_ret
    exact ⟨by rw [hb]; rfl, below_next (below_next HB0.out b2) b3⟩
  · have hb : (er == 0) = false := by simpa using h0
    clear h0
    go_wp2_with fail
    go_ret
    exact ⟨by rw [hb]; rfl, below_next HB0.out b2⟩
end Go.Proofs.YtecpbicfiaifdaaDoor
/-
  Contracts whose result is known.
-/
namespace Go.Proofs.YtecpbicfiaifdaaDoor
open Go.RowKit ND

/-- A skeleton with room comes back. -/
theorem skOf_eq (t : Tv) (T : Tab) (v : Value) (xs : List Int) (w : World) (r : List Int × Int) (ht : TabR w w.heap.size t T) (hg : Glob w) (hv : Ints w w.heap.size .i64 v xs) (hr : skelR T xs = r) :
    Calls Tryd.prog 12 #[t.val, v] w (RetTwo w r.1 r.2) := by subst hr; exact skOf_any t T v xs w ht hg hv
end Go.Proofs.YtecpbicfiaifdaaDoor
