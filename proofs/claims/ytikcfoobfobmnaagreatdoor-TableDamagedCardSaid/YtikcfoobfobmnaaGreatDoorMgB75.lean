/-
  Merged texts: lemmas and walks that the last text of this claim leans on.
-/
import Derived.Test.YtikcfoobfobmnaaGreatDoorMgB74
import Derived.Test.YtikcfoobfobmnaaGreatDoorMgB73
/-
  Plain mathematics of the tables that keep.Tables makes: they are well-formed. No program in sight.
-/
namespace ND
open Go

def poolL : List Int := [0xad, 0xb7, 0x301, 0x308, 0x323, 0x345, 0x375, 0x3b1, 0x3b2, 0x3b3, 0x430, 0x5d0, 0x5f3, 0x628, 0x629, 0x660, 0x6f0, 0x94d, 0x1e00, 0x1e01, 0x1e02, 0x1e03, 0x1e04, 0x200c, 0x200d, 0x30fb, 0x4e00, 0x1f600]
theorem pool_sort : poolL.Pairwise (· < ·) := by decide
theorem pool_in : ∀ c ∈ poolL, 128 ≤ c ∧ c ≤ 1114111 ∧ resB c = false ∧ scalarB c = true := by decide

/-- A column after k code points of the pool. -/
def colN (k : Nat) (lo hi : Int) (L : List Sp) : Prop := (L.map (·.1)).Sublist (poolL.take k) ∧ ∀ s ∈ L, s.2.1 = s.1 ∧ lo ≤ s.2.2 ∧ s.2.2 ≤ hi
theorem colN_nil (k : Nat) (lo hi : Int) : colN k lo hi [] := ⟨List.nil_sublist _, by simp⟩
theorem colN_skip {k : Nat} {lo hi : Int} {L : List Sp} (h : colN k lo hi L) : colN (k + 1) lo hi L :=
  ⟨h.1.trans (List.take_sublist_take_left (by omega)), h.2⟩
theorem take_snoc_get {α : Type} {l : List α} {k : Nat} {c : α} (h : l[k]? = some c) : l.take (k + 1) = l.take k ++ [c] := by
  rw [List.take_add_one, h]; rfl
theorem colN_add {k : Nat} {lo hi c v : Int} {L : List Sp} (h : colN k lo hi L) (hc : poolL[k]? = some c) (h1 : lo ≤ v) (h2 : v ≤ hi) : colN (k + 1) lo hi (L ++ [(c, c, v)]) := by
  refine ⟨?_, ?_⟩
  · rw [take_snoc_get hc, List.map_append]
    exact h.1.append (List.Sublist.refl _)
  · intro s hs
    rcases List.mem_append.1 hs with hs | hs
    · exact h.2 s hs
    · rw [List.mem_singleton] at hs; subst hs; exact ⟨rfl, h1, h2⟩
theorem colN_mem {k : Nat} {lo hi : Int} {L : List Sp} (h : colN k lo hi L) {s : Sp} (hs : s ∈ L) : s.1 ∈ poolL :=
  List.mem_of_mem_take (h.1.subset (List.mem_map_of_mem hs))
theorem colN_len {k : Nat} {lo hi : Int} {L : List Sp} (h : colN k lo hi L) : L.length ≤ 28 := by
  have h1 := h.1.length_le
  rw [List.length_map, List.length_take] at h1
  have : poolL.length = 28 := rfl
  omega
theorem okS_points {L : List Sp} : ∀ {last : Int}, (L.map (·.1)).Pairwise (· < ·) → (∀ s ∈ L, s.2.1 = s.1 ∧ last < s.1 ∧ 0 ≤ s.1 ∧ s.1 ≤ 1114111) → okS 0 1114111 last L = true := by
  induction L with
  | nil => intro last _ _; rfl
  | cons s r ih =>
    intro last hp h
    rw [List.map_cons, List.pairwise_cons] at hp
    have hs := h s List.mem_cons_self
    rw [okS_cons]
    refine ⟨by omega, ih hp.2 fun x hx => ?_⟩
    have h1 := h x (List.mem_cons_of_mem _ hx)
    have h2 := hp.1 x.1 (List.mem_map_of_mem hx)
    omega
theorem colN_ok {k : Nat} {lo hi : Int} {L : List Sp} (h : colN k lo hi L) : okS 0 1114111 (-1) L = true := by
  refine okS_points ((pool_sort.sublist (List.take_sublist _ _)).sublist h.1) fun s hs => ?_
  have := pool_in s.1 (colN_mem h hs)
  have := h.2 s hs
  omega
theorem colN_col {k : Nat} {lo hi : Int} {L : List Sp} (h : colN k lo hi L) : colOk L = true := by
  unfold colOk checkS
  have h2 := colN_len h
  rw [colN_ok h, Bool.true_and, Bool.and_eq_true, decide_eq_true_eq, List.all_eq_true]
  refine ⟨by omega, fun s hs => ?_⟩
  rw [(h.2 s hs).1]
  exact outB_one (pool_in s.1 (colN_mem h hs)).2.2.1
theorem colN_vals {k : Nat} {lo hi a b : Int} {L : List Sp} (h : colN k lo hi L) (ha : a ≤ lo) (hb : hi ≤ b) : valsOk (L, a, b) = true := by
  unfold valsOk
  rw [List.all_eq_true]
  intro s hs
  have := h.2 s hs
  rw [decide_eq_true_eq]; simp only; omega
theorem colN_zero {k : Nat} {lo hi c : Int} {L : List Sp} (h : colN k lo hi L) (hc : c ∉ poolL) : valueL L c = 0 :=
  value_out fun s hs ⟨h1, h2⟩ => by
    have := h.2 s hs
    obtain rfl : c = s.1 := by omega
    exact hc (colN_mem h hs)
theorem colN_at {k : Nat} {lo hi : Int} {L : List Sp} (h : colN k lo hi L) {s : Sp} (hs : s ∈ L) : valueL L s.1 = s.2.2 := by
  have hp := (pool_sort.sublist (List.take_sublist k _)).sublist h.1
  have h2 := fun x hx => (h.2 x hx).1
  clear h
  induction L with
  | nil => cases hs
  | cons a r ih =>
    rw [List.map_cons, List.pairwise_cons] at hp
    rw [valueL]
    rcases List.mem_cons.1 hs with rfl | hs
    · rw [if_pos ⟨Int.le_refl _, by rw [h2 s List.mem_cons_self]; exact Int.le_refl _⟩]
    · have h3 := hp.1 s.1 (List.mem_map_of_mem hs)
      have h4 := h2 a List.mem_cons_self
      rw [if_neg (by omega)]
      exact ih hs hp.2 fun x hx => h2 x (List.mem_cons_of_mem _ hx)

/-- The decompositions and the exclusions after k rounds. -/
structure DecN (k : Nat) (D : List Mp) (X : List Int) : Prop where
  keys : (keysOf D).Pairwise (· < ·)
  rng : ∀ m ∈ D, 7680 ≤ m.1 ∧ m.1 < 7680 + k
  form : ∀ m ∈ D, ∃ a r, m.2 = a :: r ∧ (a = 97 ∨ a = 98 ∨ 7680 ≤ a ∧ a < m.1) ∧ (r = [] ∨ ∃ b, r = [b] ∧ (b = 769 ∨ b = 776 ∨ b = 803 ∨ b = 837 ∨ b = 945))
  exs : X.Pairwise (· < ·)
  exk : ∀ c ∈ X, c ∈ keysOf D
  uni : D.Pairwise (fun a b => a.2 = b.2 → b.1 ∈ X)
theorem DecN.nil (k : Nat) : DecN k [] [] := ⟨.nil, by simp, by simp, .nil, by simp, .nil⟩
theorem DecN.skip {k : Nat} {D : List Mp} {X : List Int} (h : DecN k D X) : DecN (k + 1) D X :=
  ⟨h.keys, fun m hm => by have := h.rng m hm; omega, h.form, h.exs, h.exk, h.uni⟩
theorem pw_snoc {α : Type} {R : α → α → Prop} {l : List α} {x : α} (h : l.Pairwise R) (hx : ∀ a ∈ l, R a x) : (l ++ [x]).Pairwise R :=
  List.pairwise_append.2 ⟨h, List.pairwise_singleton _ _, fun a ha b hb => by rw [List.mem_singleton] at hb; subst hb; exact hx a ha⟩
/-- One decomposition more; t: whether it is excluded. -/
theorem DecN.add {k : Nat} {D : List Mp} {X : List Int} (h : DecN k D X) {l : List Int} (t : Bool) (hl : ∃ a r, l = a :: r ∧ (a = 97 ∨ a = 98 ∨ 7680 ≤ a ∧ a < 7680 + k) ∧ (r = [] ∨ ∃ b, r = [b] ∧ (b = 769 ∨ b = 776 ∨ b = 803 ∨ b = 837 ∨ b = 945)))
    (ht : t = false → ∀ d ∈ D, d.2 ≠ l) : DecN (k + 1) (D ++ [(7680 + (k : Int), l)]) (if t then X ++ [7680 + (k : Int)] else X) := by
  have hk : keysOf (D ++ [(7680 + (k : Int), l)]) = keysOf D ++ [7680 + (k : Int)] := by simp [keysOf]
  have hlt : ∀ c ∈ keysOf D, c < 7680 + (k : Int) := by
    intro c hc
    obtain ⟨m, hm, rfl⟩ := List.mem_map.1 hc
    exact (h.rng m hm).2
  refine ⟨by rw [hk]; exact pw_snoc h.keys hlt, ?_, ?_, ?_, ?_, ?_⟩
  · intro m hm
    rcases List.mem_append.1 hm with hm | hm
    · have := h.rng m hm; omega
    · rw [List.mem_singleton] at hm; subst hm; simp only; omega
  · intro m hm
    rcases List.mem_append.1 hm with hm | hm
    · exact h.form m hm
    · rw [List.mem_singleton] at hm; subst hm; exact hl
  · cases t
    · exact h.exs
    · exact pw_snoc h.exs fun c hc => hlt c (h.exk c hc)
  · rw [hk]
    intro c hc
    cases t
    · exact List.mem_append_left _ (h.exk c hc)
    · rcases List.mem_append.1 hc with hc | hc
      · exact List.mem_append_left _ (h.exk c hc)
      · exact List.mem_append_right _ hc
  · have hmono : ∀ c ∈ X, c ∈ (if t then X ++ [7680 + (k : Int)] else X) := by
      intro c hc; cases t
      · exact hc
      · exact List.mem_append_left _ hc
    refine pw_snoc (h.uni.imp fun hab e => hmono _ (hab e)) fun d hd e => ?_
    cases t
    · exact absurd e (ht rfl d hd)
    · exact List.mem_append_right _ (List.mem_singleton.2 rfl)

section
variable {D : List Mp} {X : List Int}
theorem DecN.key_none (h : DecN 5 D X) {c : Int} (hc : c < 7680 ∨ 7684 < c) : findL D c = [] :=
  findL_no fun _ a hi e => by have := h.rng a (List.mem_of_getElem? hi); omega
theorem find_key {D : List Mp} (hp : (keysOf D).Pairwise (· < ·)) {m : Mp} (hm : m ∈ D) : findL D m.1 = m.2 := by
  induction D with
  | nil => cases hm
  | cons a r ih =>
    unfold keysOf at hp
    rw [List.map_cons, List.pairwise_cons] at hp
    rw [findL]
    rcases List.mem_cons.1 hm with rfl | hm
    · rw [if_pos rfl]
    · have := hp.1 m.1 (List.mem_map_of_mem hm)
      rw [if_neg (by omega)]
      exact ih hp.2 hm
theorem DecN.size (h : DecN 5 D X) : ∀ (n : Nat) (c : Int), c < 7680 + n ∨ findL D c = [] → fin D n c = true ∧ (expF D n c).length ≤ n + 1 := by
  intro n
  induction n with
  | zero =>
    intro c hc
    have : findL D c = [] := by
      rcases hc with hc | hc
      · exact h.key_none (by omega)
      · exact hc
    exact ⟨fin_none this _, by rw [expF_none this]; simp⟩
  | succ n ih =>
    intro c hc
    by_cases hn : findL D c = []
    · exact ⟨fin_none hn _, by rw [expF_none hn]; simp⟩
    · have hc' : c < 7680 + ((n + 1 : Nat) : Int) := by
        rcases hc with hc | hc
        · exact hc
        · exact absurd hc hn
      have hm := findL_mem hn
      obtain ⟨a, r, he, ha, hr⟩ := h.form _ hm
      simp only at he ha
      have h1 : fin D n a = true ∧ (expF D n a).length ≤ n + 1 := by
        rcases ha with rfl | rfl | ha
        · exact ih _ (.inl (by omega))
        · exact ih _ (.inl (by omega))
        · exact ih _ (.inl (by omega))
      rw [fin_succ hn, expF_some hn, he, List.flatMap_cons, List.length_append, List.all_cons, h1.1, Bool.true_and]
      rcases hr with rfl | ⟨b, rfl, hb⟩
      · simp; omega
      · have hb' : findL D b = [] := h.key_none (by omega)
        simp [fin_none hb', expF_none hb']
        omega
end

def protoL : List Mp := [(48, [111]), (109, [114, 110]), (945, [97]), (1072, [97]), (1632, [111, 803])]
/-- The mappings and the statuses after k code points of the pool. -/
structure MapN (k : Nat) (S : List Sp) (M : List Mp) : Prop where
  col : colN k 1 4 S
  same : (S.filter (fun s => s.2.2 = 3)).map (·.1) = keysOf M
  form : ∀ m ∈ M, ∃ a, (a = 97 ∨ a = 98 ∨ a = 99) ∧ (m.2 = [a] ∨ m.2 = [a, 46])
theorem MapN.nil (k : Nat) : MapN k [] [] := ⟨colN_nil _ _ _, rfl, by simp⟩
theorem MapN.skip {k : Nat} {S : List Sp} {M : List Mp} (h : MapN k S M) : MapN (k + 1) S M := ⟨colN_skip h.col, h.same, h.form⟩
theorem MapN.plain {k : Nat} {S : List Sp} {M : List Mp} {c v : Int} (h : MapN k S M) (hc : poolL[k]? = some c) (h1 : 1 ≤ v) (h2 : v ≤ 4) (h3 : v ≠ 3) : MapN (k + 1) (S ++ [(c, c, v)]) M :=
  ⟨colN_add h.col hc h1 h2, by rw [List.filter_append, List.map_append, h.same]; simp [h3], h.form⟩
theorem MapN.mapped {k : Nat} {S : List Sp} {M : List Mp} {c : Int} {l : List Int} (h : MapN k S M) (hc : poolL[k]? = some c) (hl : ∃ a, (a = 97 ∨ a = 98 ∨ a = 99) ∧ (l = [a] ∨ l = [a, 46])) : MapN (k + 1) (S ++ [(c, c, 3)]) (M ++ [(c, l)]) := by
  refine ⟨colN_add h.col hc (by omega) (by omega), ?_, ?_⟩
  · rw [List.filter_append, List.map_append, h.same]; simp [keysOf]
  · intro m hm
    rcases List.mem_append.1 hm with hm | hm
    · exact h.form m hm
    · rw [List.mem_singleton] at hm; subst hm; exact hl

/-- What keep.Tables makes. -/
structure Made (T : Tab) : Prop where
  c0 : colN 28 1 8 T.category
  c1 : colN 28 1 254 T.cls
  c2 : colN 28 1 5 T.joining
  c3 : colN 28 1 11 T.bidi
  c4 : colN 28 1 60 T.script
  c6 : colN 28 1 1 T.ignorable
  dec : DecN 5 T.decomps T.excluded
  map : MapN 28 T.status T.maps
  ext : T.extensions = [] ∨ T.extensions = [(12539, [7, 8])]
  pro : T.prototypes.Sublist protoL
  ign : ∀ m ∈ T.prototypes, T.ignB m.1 = false ∧ T.ignB (m.2.getLastD 0) = false

theorem keysB_of {p : Bool} {l : List Int} : ∀ {last : Int}, l.Pairwise (· < ·) → (∀ c ∈ l, last < c ∧ c ≤ 1114111 ∧ (resB c = false ∨ p = true ∧ nameB c = true)) → keysB p last l = true := by
  induction l with
  | nil => intro last _ _; rfl
  | cons a r ih =>
    intro last hp h
    rw [List.pairwise_cons] at hp
    obtain ⟨h1, h2, h3⟩ := h a List.mem_cons_self
    rw [keysB, Bool.and_eq_true]
    refine ⟨?_, ih hp.2 fun c hc => ⟨hp.1 c hc, (h c (List.mem_cons_of_mem _ hc)).2⟩⟩
    unfold keyOk
    simp only [Bool.and_eq_true, decide_eq_true_eq, Bool.or_eq_true, Bool.not_eq_true']
    exact ⟨⟨h1, h2⟩, h3⟩
theorem mapCount_points {S : List Sp} (h : ∀ s ∈ S, s.2.1 = s.1) : mapCount S = ((S.filter (fun s => s.2.2 = 3)).length : Int) := by
  induction S with
  | nil => rfl
  | cons s r ih =>
    have h1 := h s List.mem_cons_self
    rw [mapCount, ih fun x hx => h x (List.mem_cons_of_mem _ hx), List.filter_cons]
    by_cases h3 : s.2.2 = 3
    · rw [if_pos h3, if_pos (by simpa using h3), List.length_cons]; omega
    · rw [if_neg h3, if_neg (by simpa using h3)]; omega

section
variable {T : Tab}
theorem Made.rule1 (h : Made T) : T.rule1 = true := by
  have e1 := colN_len h.c0
  have e2 := colN_len h.c1
  have e3 := colN_len h.c2
  have e4 := colN_len h.c3
  have e5 := colN_len h.c4
  have e6 := colN_len h.map.col
  have e7 := colN_len h.c6
  have d1 : T.decomps.length ≤ 5 := by
    have := List.Nodup.length_le_of_subset (l₁ := keysOf T.decomps) (l₂ := [7680, 7681, 7682, 7683, 7684]) (h.dec.keys.imp fun h => by omega) (fun c hc => by
      obtain ⟨m, hm, rfl⟩ := List.mem_map.1 hc
      have := h.dec.rng m hm
      simp; omega)
    simpa [keysOf] using this
  have d2 : T.excluded.length ≤ 5 := by
    have := List.Nodup.length_le_of_subset (l₁ := T.excluded) (l₂ := [7680, 7681, 7682, 7683, 7684]) (h.dec.exs.imp fun h => by omega) (fun c hc => by
      obtain ⟨m, hm, rfl⟩ := List.mem_map.1 (h.dec.exk c hc)
      have := h.dec.rng m hm
      simp; omega)
    simpa using this
  have d3 : T.maps.length ≤ 28 := by
    have := congrArg List.length h.map.same
    rw [List.length_map] at this
    simp only [keysOf, List.length_map] at this
    have := List.length_filter_le (fun s : Sp => decide (s.2.2 = 3)) T.status
    omega
  have d4 : T.prototypes.length ≤ 5 := h.pro.length_le
  have d5 : T.extensions.length ≤ 1 := by rcases h.ext with h | h <;> rw [h] <;> simp
  unfold Tab.rule1 Tab.cols Tab.mps
  simp only [List.all_cons, List.all_nil, Bool.and_true, Bool.and_eq_true, decide_eq_true_eq]
  omega
theorem Made.keym (h : Made T) : keysB false (-1) (keysOf T.maps) = true := by
  have hs : (keysOf T.maps).Sublist poolL := by
    rw [← h.map.same]
    exact ((List.filter_sublist).map _).trans (h.map.col.1.trans (List.take_sublist _ _))
  exact keysB_of (pool_sort.sublist hs) fun c hc => by
    have := pool_in c (hs.subset hc)
    exact ⟨by omega, this.2.1, .inl this.2.2.1⟩
theorem Made.rule2 (h : Made T) : T.rule2 = true := by
  unfold Tab.rule2 Tab.rule2m Tab.cols
  simp only [List.all_cons, List.all_nil, Bool.and_true, Bool.and_eq_true]
  have hd : ∀ c, 7680 ≤ c → c < 7685 → -1 < c ∧ c ≤ 1114111 ∧ (resB c = false ∨ false = true ∧ nameB c = true) := fun c h1 h2 => ⟨by omega, by omega, .inl (by rw [resB_not]; omega)⟩
  refine ⟨⟨colN_col h.c0, colN_col h.c1, colN_col h.c2, colN_col h.c3, colN_col h.c4, colN_col h.map.col, colN_col h.c6⟩, ⟨?_, h.keym, ?_, ?_⟩, ?_⟩
  · rcases h.ext with h | h <;> rw [h] <;> decide
  · refine keysB_of h.dec.keys fun c hc => ?_
    obtain ⟨m, hm, rfl⟩ := List.mem_map.1 hc
    have := h.dec.rng m hm
    exact hd _ this.1 (by omega)
  · have hp : (keysOf protoL).Pairwise (· < ·) := by decide
    have ha : ∀ c ∈ keysOf protoL, -1 < c ∧ c ≤ 1114111 ∧ (resB c = false ∨ true = true ∧ nameB c = true) := by decide
    have hs : (keysOf T.prototypes).Sublist (keysOf protoL) := h.pro.map _
    exact keysB_of (hp.sublist hs) fun c hc => ha c (hs.subset hc)
  · refine keysB_of h.dec.exs fun c hc => ?_
    obtain ⟨m, hm, rfl⟩ := List.mem_map.1 (h.dec.exk c hc)
    have := h.dec.rng m hm
    exact hd _ this.1 (by omega)
theorem Made.rule3 (h : Made T) : T.rule3 = true := by
  unfold Tab.rule3 Tab.cols
  simp only [List.all_cons, List.all_nil, Bool.and_true, Bool.and_eq_true]
  exact ⟨colN_vals h.c0 (by decide) (by decide), colN_vals h.c1 (by decide) (by decide), colN_vals h.c2 (by decide) (by decide), colN_vals h.c3 (by decide) (by decide), colN_vals h.c4 (by decide) (by decide), colN_vals h.map.col (by decide) (by decide), colN_vals h.c6 (by decide) (by decide)⟩
theorem Made.dform (h : Made T) : ∀ m ∈ T.decomps, m.2 ≠ [] ∧ m.2.length ≤ 2 ∧ ∀ c ∈ m.2, c = 97 ∨ c = 98 ∨ 7680 ≤ c ∧ c ≤ 7684 ∨ c = 769 ∨ c = 776 ∨ c = 803 ∨ c = 837 ∨ c = 945 := by
  intro m hm
  obtain ⟨a, r, he, ha, hr⟩ := h.dec.form m hm
  have := h.dec.rng m hm
  rw [he]
  rcases hr with rfl | ⟨b, rfl, hb⟩
  · refine ⟨by simp, by simp, fun c hc => ?_⟩
    rw [List.mem_singleton] at hc; subst hc; omega
  · refine ⟨by simp, by simp, fun c hc => ?_⟩
    simp only [List.mem_cons, List.not_mem_nil, or_false] at hc
    rcases hc with rfl | rfl <;> omega
theorem Made.rule4 (h : Made T) : T.rule4 = true := by
  unfold Tab.rule4
  simp only [Bool.and_eq_true, List.all_eq_true]
  refine ⟨?_, ?_, ?_, ?_⟩
  · rcases h.ext with h | h <;> rw [h] <;> decide
  · intro m hm
    obtain ⟨a, ha, hl⟩ := h.map.form m hm
    rw [toB_iff]
    rcases hl with hl | hl <;> rw [hl] <;> rcases ha with rfl | rfl | rfl <;> decide
  · intro m hm
    obtain ⟨h1, h2, h3⟩ := h.dform m hm
    rw [toB_iff]
    refine ⟨length_pos_ne h1, by omega, ?_⟩
    simp only [Bool.false_eq_true, if_false, List.all_eq_true, scalarB_iff]
    intro c hc
    have := h3 c hc
    omega
  · intro m hm
    have hp : ∀ m ∈ protoL, toB false m = true := by decide
    exact hp m (h.pro.subset hm)
theorem Made.shape (h : Made T) : Shape T := Shape.of h.rule1 h.rule2
theorem Made.status_pool (h : Made T) {c : Int} (hc : c ∈ poolL) : T.statusOf c = valueL T.status c := by
  unfold Tab.statusOf
  rw [propL_ref (colN_ok h.map.col) (fun s hs => h.shape.c5.2.2 s hs)]
  rw [if_neg]
  rw [(pool_in c hc).2.2.1]
  rintro ⟨h, _⟩; cases h
theorem status_ascii (T : Tab) {c : Int} (hc : c = 97 ∨ c = 98 ∨ c = 99 ∨ c = 46) : T.statusOf c = 1 := by
  rcases hc with rfl | rfl | rfl | rfl <;> rfl
theorem Made.rule5 (h : Made T) : T.rule5 = true := by
  unfold Tab.rule5
  rw [Bool.and_eq_true, decide_eq_true_eq, mapCount_points fun s hs => (h.map.col.2 s hs).1]
  refine ⟨?_, ?_⟩
  · have := congrArg List.length h.map.same
    rw [List.length_map] at this
    simp only [keysOf, List.length_map] at this
    rw [this]
  · rw [List.all_eq_true]
    intro m hm
    unfold Tab.mapOk
    rw [Bool.and_eq_true, decide_eq_true_eq, List.all_eq_true]
    refine ⟨?_, ?_⟩
    · have hk : m.1 ∈ keysOf T.maps := List.mem_map_of_mem hm
      rw [← h.map.same] at hk
      obtain ⟨s, hs, he⟩ := List.mem_map.1 hk
      obtain ⟨hs1, hs2⟩ := List.mem_filter.1 hs
      rw [← he, h.status_pool (colN_mem h.map.col hs1), colN_at h.map.col hs1]
      simpa using hs2
    · obtain ⟨a, ha, hl⟩ := h.map.form m hm
      intro c hc
      have hc' : c = a ∨ c = 46 := by
        rcases hl with hl | hl <;> rw [hl] at hc <;> simp at hc
        · exact .inl hc
        · exact hc
      rw [status_ascii T (by rcases hc' with rfl | rfl <;> omega)]
      rfl
theorem Made.rule6 (h : Made T) : T.rule6 = true := by
  unfold Tab.rule6
  rw [Bool.and_eq_true, List.all_eq_true, List.all_eq_true]
  refine ⟨?_, ?_⟩
  · intro m hm
    obtain ⟨_, h2, h3⟩ := h.dform m hm
    unfold decOk
    rw [Bool.and_eq_true, decide_eq_true_eq, List.all_eq_true]
    refine ⟨h2, fun c hc => ?_⟩
    have := h3 c hc
    unfold decEl sylB jamoB
    simp only [Bool.not_eq_true', Bool.or_eq_false_iff, decide_eq_false_iff_not]
    omega
  · intro m hm
    have hr := h.dec.rng m hm
    obtain ⟨h1, h2⟩ := h.dec.size 5 m.1 (.inl (by omega))
    have h3 := fin_len h1
    obtain ⟨h4, h5⟩ := fin_up h3 (T.decomps.length + 1) (by omega)
    unfold Tab.szOk
    rw [decide_eq_true_eq, sizeF_le]
    refine ⟨h4, ?_⟩
    rcases Nat.le_total 5 (T.decomps.length + 1) with hle | hle
    · rw [(fin_up h1 _ hle).2]; omega
    · rw [← (fin_up h4 5 hle).2]; omega
theorem Made.rule7 (h : Made T) : T.rule7 = true := by
  unfold Tab.rule7
  rw [List.all_eq_true]
  intro c hc
  obtain ⟨m, hm, rfl⟩ := List.mem_map.1 (h.dec.exk c hc)
  unfold Tab.exOk
  rw [decide_eq_true_eq, find_key h.dec.keys hm]
  exact (h.dform m hm).1
theorem comp_ex {T : Tab} {c : Int} (h : c ∈ T.excluded) : T.comp c = false := by
  have he : T.excB c = true := by unfold Tab.excB; exact decide_eq_true h
  unfold Tab.comp
  cases T.decomps.length with
  | zero => rfl
  | succ f =>
    rw [Tab.compF]
    split
    · rw [he]; rfl
    · rfl
theorem Made.rule8 (h : Made T) : T.rule8 = true := by
  unfold Tab.rule8 Tab.pairs
  rw [decide_eq_true_eq]
  have hp : (T.decomps.filter (fun m => T.comp m.1)).Pairwise (fun a b => a.2 = b.2 → b.1 ∈ T.excluded) := h.dec.uni.sublist List.filter_sublist
  refine List.Pairwise.map _ (fun a b (hab : a.2 ≠ b.2) => hab) (List.Pairwise.imp_of_mem ?_ hp)
  intro a b _ hb hab e
  have := (List.mem_filter.1 hb).2
  rw [comp_ex (hab e)] at this
  cases this
theorem Made.ign_none (h : Made T) {c : Int} (hc : c ∉ poolL) : T.ignB c = false := by
  unfold Tab.ignB; rw [colN_zero h.c6 hc]; rfl
theorem Made.rule9 (h : Made T) : T.rule9 = true := by
  unfold Tab.rule9
  rw [List.all_eq_true]
  intro m hm
  have hi := h.ign m hm
  have hpr : ∀ c, c ∉ keysOf protoL → findL T.prototypes c = [] := fun c hc => findL_no fun _ a ha e => hc (by
    have := h.pro.subset (List.mem_of_getElem? ha)
    rw [← e]; exact List.mem_map_of_mem this)
  have hel : ∀ c, c < 7680 → T.ignB c = false → c ∉ keysOf protoL → T.protoEl c = true := by
    intro c h1 h2 h3
    unfold Tab.protoEl Tab.plainB
    rw [h.dec.key_none (.inl h1), h2, hpr c h3]
    have : sylB c = false := by unfold sylB; rw [decide_eq_false_iff_not]; omega
    rw [this]; rfl
  have hpl : ∀ c, c < 7680 → T.ignB c = false → T.plainB c = true := by
    intro c h1 h2
    unfold Tab.plainB
    rw [h.dec.key_none (.inl h1), h2]; rfl
  have hm' := h.pro.subset hm
  unfold Tab.protoOk
  rw [Bool.and_eq_true, List.all_eq_true]
  simp only [protoL, List.mem_cons, List.not_mem_nil, or_false] at hm'
  rcases hm' with rfl | rfl | rfl | rfl | rfl
  all_goals
    refine ⟨hpl _ (by decide) hi.1, ?_⟩
    intro c hc
    simp only [List.mem_cons, List.not_mem_nil, or_false] at hc
  · subst hc; exact hel _ (by decide) (h.ign_none (by decide)) (by decide)
  · rcases hc with rfl | rfl <;> exact hel _ (by decide) (h.ign_none (by decide)) (by decide)
  · subst hc; exact hel _ (by decide) (h.ign_none (by decide)) (by decide)
  · subst hc; exact hel _ (by decide) (h.ign_none (by decide)) (by decide)
  · rcases hc with rfl | rfl
    · exact hel _ (by decide) (h.ign_none (by decide)) (by decide)
    · exact hel _ (by decide) hi.2 (by decide)
theorem check_zero {T : Tab} (h1 : T.rule1 = true) (h2 : T.rule2 = true) (h3 : T.rule3 = true) (h4 : T.rule4 = true) (h5 : T.rule5 = true) (h6 : T.rule6 = true) (h7 : T.rule7 = true) (h8 : T.rule8 = true) (h9 : T.rule9 = true) : T.check = 0 := by
  unfold Tab.check
  rw [h1, h2, h3, h4, h5, h6, h7, h8, h9]; rfl
theorem Made.check (h : Made T) : T.check = 0 := check_zero h.rule1 h.rule2 h.rule3 h.rule4 h.rule5 h.rule6 h.rule7 h.rule8 h.rule9
end
end ND
/-
  The state of keep.maps' loop, and what keeps it.
-/
namespace Go.Proofs.YtikcfoobfobmnaaGreatDoor
open Go.RowKit ND

/-- The statuses from the k-th code point on. -/
def StRow (w : World) (sb k : Nat) (st : List Int) : Prop := ∃ cs, Blk w sb 3 cs ∧ ∀ j x, k ≤ j → st[j]? = some x → cs[j]? = some (.int .i64 x)

theorem Tryz.infoMap : (Tryz.prog.info? 51).map (fun i => (i.zero, i.size, i.bytes)) = some (some (.agg #[.int .i64 0, .slice none 0 0]), 2, 32) := by kernel_rfl

theorem Ints.veil_own {S : List Nat} {w : World} {base : Nat} {e : TypeId} {k : IntKind} {v : Value} {xs : List Int} (h : w.ownsRow base e 1 v xs.length (xs.map (Value.int k))) (hS : ∀ x ∈ S, x < base) : Ints (veil S w) (veil S w).heap.size k v xs := by
  obtain ⟨A, c, hv, h1, h2, h3, h4⟩ := Ints.of_own h
  refine ⟨A, c, hv, h1, h2, h3, fun i x hi => ?_⟩
  obtain ⟨ad, rfl, hb, c0⟩ := h4 i x hi
  have hob : base ≤ ad.block := by
    rcases h.2 with ⟨hv', _⟩ | ⟨g, cap, cur, hv', hbg, _⟩
    · rw [hv] at hv'; cases hv'
    · rw [hv] at hv'; cases hv'; exact hbg
  have hn : ad.block ∉ S := fun hx => by have := hS _ hx; omega
  exact ⟨ad, rfl, by rw [veil_size]; exact hb, by rw [cell_veil (by rw [block_of_add]; exact hn)]; exact c0⟩
theorem own_ne {W : World} {base g : Nat} {t e : TypeId} {size n : Nat} {v : Value} {xs : List Value} {cs : Array Value} (h : W.ownsRow base e size v n xs) (hb : Blk W g t cs) (hne : t ≠ e) : v.ownBlock ≠ some g := by
  rcases h.2 with ⟨rfl, _⟩ | ⟨g', cap, cur, rfl, _, hg, _⟩
  · intro h; cases h
  · intro he
    simp only [Value.ownBlock, Option.some.injEq] at he
    subst he
    rw [hb] at hg
    cases hg
    exact hne rfl

/-- A new block of integers is an own row. -/
theorem own_new (w : World) (e : TypeId) (ys : List Int) (hl : ys.length ≤ 1000000) :
    (w.alloc (.cells (ys.map (Value.int .i64)).toArray e)).ownsRow w.heap.size e 1 (.slice (some ⟨w.heap.size, 0, none⟩) ys.length ys.length) ys.length (ys.map (Value.int .i64)) :=
  ⟨by simp, .inr ⟨w.heap.size, ys.length, (ys.map (Value.int .i64)).toArray, rfl, Nat.le_refl _, heap_alloc_new w _, Nat.le_refl _, by unfold maxLen; omega, by simp, by simp [List.take_of_length_le]⟩⟩

/-- A mapping of the call's own: its block x, its sequence an own row from block B on. -/
def XAt (W : World) (x B : Nat) (c : Int) (sv : Value) (l : List Int) : Prop :=
  Blk W x 51 #[.int .i64 c, sv] ∧ W.ownsRow B 3 1 sv l.length (l.map (Value.int .i64))
theorem XAt.grown {W W' : World} {x B g : Nat} {c : Int} {sv : Value} {l : List Int} (h : XAt W x B c sv l) (hg : W.grownBy W' (some g)) (hx : g ≠ x) (hB : g < B) : XAt W' x B c sv l :=
  ⟨h.1.grown hg (by intro e; injection e with e; exact hx e.symm), own_grown h.2 hg hB⟩

theorem onlyIn.far {S : List Nat} {a w w' : World} {row : Option Nat} (h : onlyIn S a w) (hg : w.grownBy w' row) (hr : ∀ x, row = some x → a.heap.size ≤ x) : onlyIn S a w' :=
  ⟨hg.os.trans h.1, hg.tape.trans h.2.1, hg.output.trans h.2.2.1, Nat.le_trans h.2.2.2.1 hg.size, fun k hk hl => (hg.block k (Nat.lt_of_lt_of_le hl h.2.2.2.1) (fun e => by have := hr k e.symm; omega)).trans (h.2.2.2.2 k hk hl)⟩
theorem XAt.put1 {W : World} {x B : Nat} {c : Int} {sv sv' : Value} {l : List Int} (hb : Blk W x 51 #[.int .i64 c, sv]) (ho : W.ownsRow B 3 1 sv' l.length (l.map (Value.int .i64))) : XAt (W.setCell ⟨x, 1, none⟩ sv') x B c sv' l :=
  ⟨by simpa using hb.put 1 sv', ho.kept (grown_setCell (grown_refl W (some x)) 1 sv') (.inr (own_ne ho hb (by decide)))⟩

structure MSt (w : World) (g b sb n : Nat) (v c0 c1 c2 c3 c4 c6 c7 c9 c10 c11 : Value) (k : Nat) (v5 v8 : Value) (S : List Sp) (M : List Mp) (st : List Int) (wr : World) : Prop where
  blk : Blk wr b 29 #[c0, c1, c2, c3, c4, v5, c6, c7, v8, c9, c10, c11]
  sp : Spans (veil ([g, b, sb] ++ v8.ownBlock.toList) wr) wr.heap.size v5 S
  om : OwnM [g, b, sb] wr (w.heap.size + 1) v8 M
  src : Src wr g v n
  oi : onlyIn [g, b, sb] w wr
  pool : Blk wr w.heap.size 3 (poolL.map (Value.int .i64)).toArray
  row : StRow wr sb k st

section
variable {w : World} {g b sb n : Nat} {v c0 c1 c2 c3 c4 c6 c7 c9 c10 c11 : Value} {k : Nat} {v5 v8 : Value} {S : List Sp} {M : List Mp} {st : List Int} {wr w' : World}
theorem MSt.own (h : MSt w g b sb n v c0 c1 c2 c3 c4 c6 c7 c9 c10 c11 k v5 v8 S M st wr) : ∀ q, v8.ownBlock = some q → w.heap.size + 1 ≤ q ∧ q < wr.heap.size := fun q hq => by
  obtain ⟨ps, _, _, ho, _⟩ := h.om
  exact ho.lt q hq
theorem MSt.only (h : MSt w g b sb n v c0 c1 c2 c3 c4 c6 c7 c9 c10 c11 k v5 v8 S M st wr) (hgb : g < b) (hbs : b < sb) (hsb : sb < w.heap.size) (ho : onlyIn [g] wr w') (hs : Src w' g v n) :
    MSt w g b sb n v c0 c1 c2 c3 c4 c6 c7 c9 c10 c11 k v5 v8 S M st w' := by
  have ho3 : onlyIn [g, b, sb] wr w' := ho.more fun x hx => by simp at hx ⊢; exact .inl hx
  have hown := h.own
  refine ⟨ho.blk h.blk (by simp; omega), ?_, h.om.kept ho3 (fun q hq hx => by have := hown q hq; simp at hx; omega), hs, h.oi.trans ho3, ho.blk h.pool (by simp; omega), ?_⟩
  · exact (h.sp.reveil (onlyIn_reveil ho3 fun x hx => List.mem_append_left _ hx)).more ho.2.2.2.1
  · obtain ⟨cs, h1, h2⟩ := h.row
    exact ⟨cs, ho.blk h1 (by simp; omega), h2⟩
/-- One status is added; the rest stands. -/
theorem MSt.add (h : MSt w g b sb n v c0 c1 c2 c3 c4 c6 c7 c9 c10 c11 k v5 v8 S M st wr) (hgb : g < b) (hbs : b < sb) (hsb : sb < w.heap.size) {c x : Int} {e : Ending}
    (ret : RetAdd wr.drew b 5 29 #[c0, c1, c2, c3, c4, v5, c6, c7, v8, c9, c10, c11] v5 S c c x e w') :
    ∃ v5' S', e = .returned (.tuple #[]) ∧ MSt w g b sb n v c0 c1 c2 c3 c4 c6 c7 c9 c10 c11 k v5' v8 S' M st w' ∧ (x ≤ 0 → S' = S) ∧ (0 < x → S' = S ++ [(c, c, x)]) := by
  obtain ⟨v5', rfl, hb5, hg0, hz5, hp5⟩ := ret
  have hg5 := undrew hg0
  have ho5 : onlyIn [g, b, sb] wr w' := onlyIn.of_grown hg5 (by simp)
  have hsz := h.oi.2.2.2.1
  have hown := h.own
  have hP5 := h.pool.grown hg5 (by intro e; injection e; omega)
  have hT5 : StRow w' sb k st := by
    obtain ⟨cs, h1, h2⟩ := h.row
    exact ⟨cs, h1.grown hg5 (by intro e; injection e; omega), h2⟩
  have hs5 : Src w' g v n := by
    obtain ⟨i, h1, h2⟩ := h.src
    exact ⟨i, h1, h2.grown hg5 (by intro e; injection e; omega)⟩
  have hM5 := h.om.kept ho5 (fun q hq hx => by have := hown q hq; simp at hx; omega)
  by_cases h0 : x ≤ 0
  · refine ⟨v5', S, rfl, ⟨by simpa using hb5, ?_, hM5, hs5, h.oi.trans ho5, hP5, hT5⟩, fun _ => rfl, fun h => absurd h (by omega)⟩
    rw [hz5 h0]
    exact (h.sp.reveil (onlyIn_reveil ho5 fun x hx => List.mem_append_left _ hx)).more hg5.size
  · refine ⟨v5', S ++ [(c, c, x)], rfl, ⟨by simpa using hb5, ?_, hM5, hs5, h.oi.trans ho5, hP5, hT5⟩, fun h => absurd h h0, fun _ => rfl⟩
    have h' := hp5 (by omega) ([g, b, sb] ++ v8.ownBlock.toList) (fun q hq => by
      show q < wr.heap.size
      rcases List.mem_append.1 hq with hq | hq
      · simp at hq; omega
      · rw [Option.mem_toList] at hq; exact (hown q hq).2)
    rw [veil_size] at h'
    exact h'
theorem MSt.up (h : MSt w g b sb n v c0 c1 c2 c3 c4 c6 c7 c9 c10 c11 k v5 v8 S M st wr) {st' : List Int} (hst : ∀ j x, k + 1 ≤ j → st'[j]? = some x → st[j]? = some x) : MSt w g b sb n v c0 c1 c2 c3 c4 c6 c7 c9 c10 c11 (k + 1) v5 v8 S M st' wr :=
  ⟨h.blk, h.sp, h.om, h.src, h.oi, h.pool, by
    obtain ⟨cs, h1, h2⟩ := h.row
    exact ⟨cs, h1, fun j x hj hx => h2 j x (by omega) (hst j x hj hx)⟩⟩
/-- A mapping is appended to the own row. -/
theorem MSt.append (h : MSt w g b sb n v c0 c1 c2 c3 c4 c6 c7 c9 c10 c11 k v5 v8 S M st wr) (hgb : g < b) (hbs : b < sb) (hsb : sb < w.heap.size) {X : World} {v8' : Value} {M' : List Mp}
    (ho : onlyIn [] wr X) (hg : X.grownBy w' v8.ownBlock) (hr : ∀ q, v8'.ownBlock = some q → v8.ownBlock = some q ∨ q = X.heap.size) (hM : OwnM [g, b, sb] w' (w.heap.size + 1) v8' M') :
    MSt w g b sb n v c0 c1 c2 c3 c4 c6 c7 c9 c10 c11 k v5 v8' S M' st (w'.setCell ⟨b, 8, none⟩ v8') := by
  have hown := h.own
  have hsz := h.oi.2.2.2.1
  have hnot : ∀ q, q < w.heap.size + 1 → some q ≠ v8.ownBlock := fun q hq e => by have := hown q e.symm; omega
  have hbX : Blk X b 29 #[c0, c1, c2, c3, c4, v5, c6, c7, v8, c9, c10, c11] := ho.blk h.blk (by simp)
  have ho3 : onlyIn [g, b, sb] wr X := ho.more (by simp)
  have hset : onlyIn [g, b, sb] w' (w'.setCell ⟨b, 8, none⟩ v8') := onlyIn.of_grown (grown_setCell (grown_refl w' (some b)) 8 v8') (by simp)
  have hgs : w'.grownBy (w'.setCell ⟨b, 8, none⟩ v8') (some b) := grown_setCell (grown_refl w' (some b)) 8 v8'
  have hXs : wr.heap.size ≤ X.heap.size := ho.2.2.2.1
  refine ⟨?_, ?_, ?_, ?_, ?_, ?_, ?_⟩
  · simpa using (hbX.grown hg (hnot b (by omega))).put 8 v8'
  · exact (((((h.sp.reveil (onlyIn_reveil ho3 fun x hx => List.mem_append_left _ hx)).more hXs).reveil (grown_reveil (v' := v8') hg hr)).more hg.size).reveil (onlyIn_reveil hset fun x hx => List.mem_append_left _ hx)).more hset.2.2.2.1
  · exact hM.kept hset (fun q hq hx => by
      rcases hr q hq with e | e
      · have := hown q e; simp at hx; omega
      · simp at hx; omega)
  · obtain ⟨i, h1, h2⟩ := h.src
    exact ⟨i, h1, ((ho.blk h2 (by simp)).grown hg (hnot g (by omega))).far (by simp; omega) _⟩
  · have oX := h.oi.trans ho3
    refine onlyIn.trans ⟨hg.os.trans oX.1, hg.tape.trans oX.2.1, hg.output.trans oX.2.2.1, Nat.le_trans oX.2.2.2.1 hg.size, fun q hq hl => (hg.block q (by have := oX.2.2.2.1; omega) (hnot q (by omega))).trans (oX.2.2.2.2 q hq hl)⟩ hset
  · exact ((ho.blk h.pool (by simp)).grown hg (hnot _ (by omega))).far (by simp; omega) _
  · obtain ⟨cs, h1, h2⟩ := h.row
    exact ⟨cs, ((ho.blk h1 (by simp)).grown hg (hnot _ (by omega))).far (by simp; omega) _, h2⟩
theorem MSt.status (h : MSt w g b sb n v c0 c1 c2 c3 c4 c6 c7 c9 c10 c11 k v5 v8 S M st wr) (hgb : g < b) (hbs : b < sb) (hsb : sb < w.heap.size) (x : Int) :
    MSt w g b sb n v c0 c1 c2 c3 c4 c6 c7 c9 c10 c11 k v5 v8 S M (st.set k x) (wr.setCell ⟨sb, k, none⟩ (.int .i64 x)) := by
  have ho : onlyIn [g, b, sb] wr (wr.setCell ⟨sb, k, none⟩ (.int .i64 x)) := onlyIn.of_grown (grown_setCell (grown_refl wr (some sb)) k _) (by simp)
  have hown := h.own
  refine ⟨h.blk.far (by simp; omega) _, (h.sp.reveil (onlyIn_reveil ho fun x hx => List.mem_append_left _ hx)).more ho.2.2.2.1, h.om.kept ho (fun q hq hx => by have := hown q hq; simp at hx; omega), ?_, h.oi.trans ho, h.pool.far (by simp; omega) _, ?_⟩
  · obtain ⟨i, h1, h2⟩ := h.src
    exact ⟨i, h1, h2.far (by simp; omega) _⟩
  · obtain ⟨cs, h1, h2⟩ := h.row
    refine ⟨_, h1.put k _, fun j y hj hy => ?_⟩
    rw [Array.getElem?_setIfInBounds]
    by_cases hjk : k = j
    · subst hjk
      rw [List.getElem?_set] at hy
      simp only [if_true] at hy
      split at hy
      · cases hy
        have := h2 k _ (Nat.le_refl _) (List.getElem?_eq_getElem (by assumption))
        have := (Array.getElem?_eq_some_iff.1 this).1
        simp [this]
      · cases hy
    · rw [if_neg hjk]
      exact h2 j y hj (by rw [List.getElem?_set_ne hjk] at hy; exact hy)
end
end Go.Proofs.YtikcfoobfobmnaaGreatDoor
