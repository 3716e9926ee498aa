/-
  Merged texts: lemmas and walks that the last text of this claim leans on.
-/
import Derived.Test.YtecpbicfiaifdaaDoorMgB78
import Derived.Test.YtecpbicfiaifdaaDoorMgB76
import Derived.Deep.LoopGhost
import Derived.BigQuiet
import Derived.Test.YtecpbicfiaifdaaDoorMgB77
/-
  The walks through table.last and table.Composable.
-/
namespace Go.Proofs.YtecpbicfiaifdaaDoor
open Go.RowKit ND

theorem quiet_t {P : Program} {f : FuncId} {args : Array Value} {w : World} {d : Nat} {os : Array Obj} {v : Value} (h : ∀ W, Below w.heap.size w W → Calls P f args W fun e w' => e = .returned v ∧ Below W.heap.size W w') :
    Calls P f args (Go.Sort.grow (redrawn w d) os) fun e w'' => e = .returned v ∧ ∃ p : Regrown, w'' = Go.Sort.grow (redrawn w p.d) p.os := Calls.regrown_of (h _ (below_regrown w d os))
theorem getLastD_app {a b : List Int} (h : b ≠ []) : (a ++ b).getLastD 0 = b.getLastD 0 := by
  rw [List.getLastD_eq_getLast?, List.getLastD_eq_getLast?, List.getLast?_append]
  cases hb : b.getLast? with
  | none => exact absurd (List.getLast?_eq_none_iff.1 hb) h
  | some x => rfl
theorem snoc_of {l : List Int} {n : Nat} (h : l.length = n + 1) : ∃ a z, l = a ++ [z] ∧ l[n]? = some z := by
  refine ⟨l.take n, l[n]'(by omega), ?_, List.getElem?_eq_getElem (by omega)⟩
  have h1 : l.take (n + 1) = l := List.take_of_length_le (by omega)
  rw [← take_snoc' (List.getElem?_eq_getElem (show n < l.length by omega)), h1]
theorem lastF_step {D : List Mp} {k : Nat} {c : Int} {n : Nat} (hl : (findL D c).length = n + 1) (hf : fin D (k + 1) c = true) : ∃ z, (findL D c)[n]? = some z ∧ lastF D (k + 1) c = lastF D k z ∧ fin D k z = true := by
  obtain ⟨a, z, he, hz⟩ := snoc_of hl
  have hne : findL D c ≠ [] := fun e => by rw [e] at hl; cases hl
  refine ⟨z, hz, ?_, ?_⟩
  · unfold lastF
    rw [expF_some hne, he, List.flatMap_append, List.flatMap_cons, List.flatMap_nil, List.append_nil, getLastD_app (expF_ne D k z)]
  · rw [fin_succ hne, he, List.all_append, Bool.and_eq_true] at hf
    simpa using hf.2
theorem lastF_none {D : List Mp} {k : Nat} {c : Int} (h : findL D c = []) : lastF D k c = c := by unfold lastF; rw [expF_none h]; rfl

set_option maxRecDepth 100000 in
set_option maxHeartbeats 2000000 in
theorem last_any (t : Tv) (T : Tab) (hs : sortM T.decomps) (hne : ∀ m ∈ T.decomps, m.2 ≠ [] ∧ m.2.length ≤ 1000) (hlen : T.decomps.length ≤ 256) (f : Nat) (c : Int) (w : World) (ht : TabR w w.heap.size t T) (hf : fin T.decomps f c = true) :
    Calls Tryd.prog 94 #[t.val, .int .i64 c] w fun e w' => e = .returned (.int .i64 (lastF T.decomps f c)) ∧ Below w.heap.size w w' := by
  obtain ⟨tc, htc⟩ : ∃ tc, tc = t.cells := ⟨_, rfl⟩
  have HT := Lib.hid (fun W (h : Below w.heap.size w W) => (ht.later h).r9)
  obtain ⟨A0, A1, A2, A3, A4, A5, A6, A7, A8, A9, A10, A11, k0, k1, k2, k3, k4, k5, k6, k7, k8, k9, k10, k11, rfl⟩ := ht.shape
  have HF := Lib.hid (fun c W (h : Mapps W W.heap.size (.slice A9 T.decomps.length k9) T.decomps) => find_any _ T.decomps c W h hs (fun m hm => (hne m hm).1) hlen)
  have HNL := Lib.hid (fun x => findL_len (c := x) (fun m hm => (hne m hm).2))
  have HTC := Lib.hid htc
  have hnq := fun (w : World) (a : Option Addr) (n c : Nat) => run_neq_slice_nil_any (P := Tryd.prog) w 24 3 a n c 0 0 Tryd.underlying24
  clear ht htc hs hne
  have HFC := Lib.hid hf
  obtain ⟨R, hR⟩ : ∃ R, R = lastF T.decomps f c := ⟨_, rfl⟩
  rw [← hR]
  have HR := Lib.hid hR.symm
  clear hR hf
  go_enter Tryd.func94, Tryd.ntmps94
  go_wp2_with fail
  have HB0 := Lib.hid (show Blk (w.alloc (.cells #[.slice A0 T.category.length k0, .slice A1 T.cls.length k1, .slice A2 T.joining.length k2, .slice A3 T.bidi.length k3, .slice A4 T.script.length k4, .slice A5 T.status.length k5, .slice A6 T.ignorable.length k6, .slice A7 T.extensions.length k7, .slice A8 T.maps.length k8, .slice A9 T.decomps.length k9, .slice A10 T.excluded.length k10, .slice A11 T.prototypes.length k11] 31)) w.heap.size 31 tc from by rw [HTC.out]; exact Blk.new _ _ _)
  refine (HF.out c _ (HT.out _ ((Below.refl _ _).alloc (Nat.le_refl _) _))).mono ?_
  rintro e w1 ⟨u, rfl, hu, hun, b1⟩
  have HB1 := Lib.hid (HB0.out.later b1)
  have hbel1 := below_next ((Below.refl _ _).alloc (Nat.le_refl _) _) b1
  have HU := Lib.hid hu
  have HUN := Lib.hid hun
  clear hu hun HB0 b1
  go_wp2_with fail
  go_loopg [1, 5] f (fun k cv lv wr => ∃ (c' : Int), cv = .int .i64 c' ∧ Hid (Ints wr wr.heap.size .i64 lv (findL T.decomps c') ∧ (findL T.decomps c' = [] → lv = .slice none 0 0) ∧ fin T.decomps k c' = true ∧ lastF T.decomps k c' = R) ∧ Below w.heap.size w wr ∧ Hid (Blk wr w.heap.size 31 tc))
  case atStart => exact ⟨c, rfl, Lib.hid ⟨HU.out, HUN.out, HFC.out, HR.out⟩, hbel1, HB1⟩
  case round =>
    obtain ⟨c', rfl, HS, hbel, HB⟩ := hrel
    clear HU HUN HFC HR hbel1 HB1
    obtain ⟨hi, hin, hfc, hla⟩ := HS.out
    rcases nilB_ways hi hin with ⟨hn, rfl⟩ | ⟨hn, ad, cu, rfl⟩
    · have HN := Lib.hid ((lastF_none (k := gk) hn).symm.trans hla)
      clear hi hin hfc hla hn HS
      go_wp2_with fail
      go_ret
      rw [HN.out]
      exact ⟨rfl, hbel⟩
    · obtain ⟨k', rfl⟩ : ∃ k', gk = k' + 1 := by
        cases gk with
        | zero => rw [fin_zero, decide_eq_true_eq] at hfc; exact absurd hfc hn
        | succ k' => exact ⟨k', rfl⟩
      have hlen1 := HNL.out c'
      have hpos := length_pos_ne hn
      obtain ⟨n, hnl⟩ : ∃ n, (findL T.decomps c').length = n + 1 := ⟨(findL T.decomps c').length - 1, by omega⟩
      obtain ⟨z, hz, hlz, hfz⟩ := lastF_step hnl hfc
      obtain ⟨ad', cu', he, hau, _, _, hcell⟩ := hi.some_ hn
      cases he
      have e0 := hcell n z hz
      have HZ := Lib.hid (And.intro hfz (hlz.symm.trans hla))
      have hw2 : ((findL T.decomps c').length : Int) - 1 = n := by omega
      have s0 : (0 : Int) ≤ (n : Int) := by omega
      have s1 : (n : Int) < ((findL T.decomps c').length : Int) := by omega
      have x9 := (show Blk _ _ _ #[_, _, _, _, _, _, _, _, _, _, _, _] from by have h := HB.out; rw [HTC.out] at h; exact h).at_ (i := 9) rfl
      have HCA := Lib.hid (HF.out z _ (HT.out _ hbel))
      generalize (findL T.decomps c').length = ln at *
      clear hi hin hfc hla hn HS hz hlz hfz hcell hpos hnl
      go_wp2_with fail
      refine HCA.out.mono ?_
      rintro e w2 ⟨u, rfl, hu, hun, b2⟩
      have HU := Lib.hid (And.intro hu hun)
      have HB2 := Lib.hid (HB.out.later b2)
      clear hu hun x9 e0 HB hnq
      go_wp2_with fail
      go_roundg k'
      case measure => omega
      case rel => exact ⟨z, rfl, Lib.hid ⟨HU.out.1, HU.out.2, HZ.out.1, HZ.out.2⟩, below_next hbel b2, HB2⟩
end Go.Proofs.YtecpbicfiaifdaaDoor
/-
  The walk through sort.SearchInts and table.Excluded.
-/
namespace Go.Proofs.YtecpbicfiaifdaaDoor
open Go.RowKit ND

def pE (xs : List Int) (c : Int) (i : Nat) : Bool := match xs[i]? with | some a => decide (c ≤ a) | none => true
theorem pE_some {xs : List Int} {c : Int} {i : Nat} {a : Int} (h : xs[i]? = some a) : pE xs c i = decide (c ≤ a) := by unfold pE; rw [h]
theorem asc_at {xs : List Int} (h : xs.Pairwise (· < ·)) {i j : Nat} {a b : Int} (hij : i < j) (ha : xs[i]? = some a) (hb : xs[j]? = some b) : a < b := by
  obtain ⟨hi, rfl⟩ := List.getElem?_eq_some_iff.1 ha
  obtain ⟨hj, rfl⟩ := List.getElem?_eq_some_iff.1 hb
  exact List.pairwise_iff_getElem.1 h i j hi hj hij
theorem pE_mono {xs : List Int} {c : Int} (hs : xs.Pairwise (· < ·)) (a b : Nat) (hab : a ≤ b) (hb : b < xs.length) (h : pE xs c a = true) : pE xs c b = true := by
  rcases Nat.lt_or_ge a b with hlt | hge
  · have ha : xs[a]? = some (xs[a]'(by omega)) := List.getElem?_eq_getElem (by omega)
    have hb' : xs[b]? = some xs[b] := List.getElem?_eq_getElem hb
    rw [pE_some ha, decide_eq_true_eq] at h
    rw [pE_some hb', decide_eq_true_eq]
    have := asc_at hs hlt ha hb'
    omega
  · obtain rfl : a = b := by omega
    exact h
theorem keysB_asc {p : Bool} {l : List Int} : ∀ {last : Int}, keysB p last l = true → l.Pairwise (· < ·) := by
  induction l with
  | nil => intro _ _; exact .nil
  | cons a r ih =>
    intro last h
    rw [keysB, Bool.and_eq_true] at h
    exact List.pairwise_cons.2 ⟨fun c hc => (keysB_at h.2 c hc).1, ih h.2⟩

set_option maxRecDepth 100000 in
set_option maxHeartbeats 400000 in
theorem intsClos (bl bc : Nat) (A : Option Addr) (cap : Nat) (xs : List Int) (c : Int) (W : World) (i : Nat) (hi : i < xs.length) (hbl : W.cell? ⟨bl, 0, none⟩ = some (.slice A xs.length cap)) (hbc : W.cell? ⟨bc, 0, none⟩ = some (.int .i64 c)) (hv : Ints W W.heap.size .i64 (.slice A xs.length cap) xs) :
    Calls Tryd.prog 98 #[.int .i64 i, .pointer (some ⟨bl, 0, none⟩), .pointer (some ⟨bc, 0, none⟩)] W fun e W' => e = .returned (.bool (pE xs c i)) ∧ Below W.heap.size W W' := by
  obtain ⟨A', c', hA, _, _, _, hcell⟩ := hv
  cases hA
  obtain ⟨f, hxi, _⟩ := get_el hi
  obtain ⟨ad, rfl, ha, d0⟩ := hcell i _ hxi
  rw [pE_some hxi]
  clear hcell hxi
  have k0 : (0 : Int) ≤ (i : Int) := by omega
  have k1 : (i : Int) < (xs.length : Int) := by omega
  go_enter Tryd.func98, Tryd.ntmps98
  go_wp2_with fail
  go_quiet (fail)
  go_wp2_with fail
  go_ret
  exact ⟨rfl, below_drewN (Below.refl _ _) nq⟩

set_option maxRecDepth 100000 in
set_option maxHeartbeats 1000000 in
theorem searchInts_any (v : Value) (xs : List Int) (c : Int) (w : World) (hv : Ints w w.heap.size .i64 v xs) (hs : xs.Pairwise (· < ·)) (hlen : xs.length ≤ 256) :
    Calls Tryd.prog 97 #[v, .int .i64 c] w (RetSearch w xs.length (pE xs c)) := by
  have eg := enters_of Tryd.func98 (by kernel_rfl) rfl
  have HV := Lib.hid hv
  obtain ⟨A, cap, rfl, _, _, _, _⟩ := hv
  have hbw : Below w.heap.size w ((w.alloc (.cells #[.slice A xs.length cap] 24)).alloc (.cells #[.int .i64 c] 3)) := ((Below.refl _ _).alloc (Nat.le_refl _) _).alloc (by simp) _
  have hboxes : ∀ W, Below ((w.alloc (.cells #[.slice A xs.length cap] 24)).alloc (.cells #[.int .i64 c] 3)).heap.size ((w.alloc (.cells #[.slice A xs.length cap] 24)).alloc (.cells #[.int .i64 c] 3)) W →
      W.cell? ⟨w.heap.size, 0, none⟩ = some (.slice A xs.length cap) ∧ W.cell? ⟨w.heap.size + 1, 0, none⟩ = some (.int .i64 c) := by
    intro W hb
    have hsz : (w.alloc (.cells #[.slice A xs.length cap] 24)).heap.size = w.heap.size + 1 := by simp
    have h1 := cell_new1 w (.slice A xs.length cap) 24
    have h2 := cell_new1 (w.alloc (.cells #[.slice A xs.length cap] 24)) (.int .i64 c) 3
    rw [hsz] at h2
    have h1' := (World.cell?_alloc_lt (w.alloc (.cells #[.slice A xs.length cap] 24)) (.cells #[.int .i64 c] 3) ⟨w.heap.size, 0, none⟩ (by simp)).trans h1
    exact ⟨(hb.cell (p := ⟨w.heap.size, 0, none⟩) (by simp; omega)).trans h1', (hb.cell (p := ⟨w.heap.size + 1, 0, none⟩) (by simp)).trans h2⟩
  have HB := Lib.hid hboxes
  have HBW := Lib.hid hbw
  clear hboxes hbw
  have HSR := Lib.hid (search_any 98 #[.pointer (some ⟨w.heap.size, 0, none⟩), .pointer (some ⟨w.heap.size + 1, 0, none⟩)] xs.length (pE xs c) ((w.alloc (.cells #[.slice A xs.length cap] 24)).alloc (.cells #[.int .i64 c] 3)) eg (by omega) (by
    intro W i hb hi
    exact intsClos _ _ A cap xs c W i hi (HB.out W hb).1 (HB.out W hb).2 ((HV.out.later HBW.out).later hb)) (pE_mono hs))
  go_enter Tryd.func97, Tryd.ntmps97
  go_wp2_with fail
  refine HSR.out.mono ?_
  rintro e w2 ⟨k, rfl, hk, hlow, hhigh, b2⟩
  have hbel := HBW.out.trans (b2.mono HBW.out.size)
  have HR := Lib.hid (And.intro hlow hhigh)
  clear HSR HB HBW HV b2 hlow hhigh eg
  go_wp2_with fail
  go_ret
  exact ⟨k, rfl, hk, HR.out.1, HR.out.2, hbel⟩

set_option maxRecDepth 100000 in
set_option maxHeartbeats 1000000 in
theorem excluded_any (t : Tv) (T : Tab) (c : Int) (w : World) (ht : TabR w w.heap.size t T) (hs : T.excluded.Pairwise (· < ·)) (hlen : T.excluded.length ≤ 256) :
    Calls Tryd.prog 93 #[t.val, .int .i64 c] w fun e w' => e = .returned (.bool (T.excB c)) ∧ Below w.heap.size w w' := by
  obtain ⟨A0, A1, A2, A3, A4, A5, A6, A7, A8, A9, A10, A11, k0, k1, k2, k3, k4, k5, k6, k7, k8, k9, k10, k11, rfl⟩ := ht.shape
  have hex := ht.r10
  have HR := Lib.hid (fun o : Obj => ht.r10.later ((Below.refl _ _).alloc (Nat.le_refl _) o))
  clear ht
  obtain ⟨R, hR⟩ : ∃ R, R = T.excB c := ⟨_, rfl⟩
  rw [← hR]
  have HRB := Lib.hid hR
  clear hR
  go_enter Tryd.func93, Tryd.ntmps93
  have HSI := Lib.hid (fun W h => searchInts_any (.slice A10 T.excluded.length k10) T.excluded c W h hs hlen)
  have HS := Lib.hid hs
  have HEX := Lib.hid hex
  clear hs hex
  go_wp2_with fail
  have HB0 := Lib.hid (show Blk (w.alloc (.cells #[.slice A0 T.category.length k0, .slice A1 T.cls.length k1, .slice A2 T.joining.length k2, .slice A3 T.bidi.length k3, .slice A4 T.script.length k4, .slice A5 T.status.length k5, .slice A6 T.ignorable.length k6, .slice A7 T.extensions.length k7, .slice A8 T.maps.length k8, .slice A9 T.decomps.length k9, .slice A10 T.excluded.length k10, .slice A11 T.prototypes.length k11] 31)) w.heap.size 31 _ from Blk.new _ _ _)
  refine (HSI.out _ (HR.out _)).mono ?_
  rintro e w2 ⟨k, rfl, hk, hlow, hhigh, b2⟩
  have x10 := (HB0.out.later b2).at_ (i := 10) rfl
  have hbel := below_next ((Below.refl w.heap.size w).alloc (Nat.le_refl _) _) b2
  have HLO := Lib.hid hlow
  have HHI := Lib.hid hhigh
  clear HB0 b2 hlow hhigh HSI HR
  by_cases hkn : k < T.excluded.length
  · obtain ⟨x, hxk, hxm⟩ := get_el hkn
    obtain ⟨A', c', hA, _, _, _, hcell⟩ := HEX.out
    cases hA
    obtain ⟨ad, rfl, ha, d0⟩ := hcell k _ hxk
    have e0 := (hbel.cell (p := ad.add k) (by rw [block_of_add]; exact ha)).trans d0
    have hge := HHI.out hkn
    rw [pE_some hxk, decide_eq_true_eq] at hge
    have s0 : (0 : Int) ≤ (k : Int) := by omega
    have s1 : (k : Int) < (T.excluded.length : Int) := by omega
    by_cases hx : x = c
    · have hr : T.excB c = true := by unfold Tab.excB; rw [decide_eq_true_eq, ← hx]; exact hxm
      have HRR := Lib.hid (HRB.out.trans hr)
      have p1 : (x == c) = true := by rw [beq_iff_eq]; exact hx
      clear hcell d0 ha hxk hxm hge hx hr
      go_wp2_with fail
      go_ret
      rw [HRR.out]
      exact ⟨rfl, hbel⟩
    · have hr : T.excB c = false := by
        unfold Tab.excB
        rw [decide_eq_false_iff_not]
        intro hm
        obtain ⟨i, hi, he⟩ := List.mem_iff_getElem.1 hm
        have hi' : T.excluded[i]? = some c := by rw [List.getElem?_eq_getElem hi, he]
        rcases Nat.lt_trichotomy i k with h | h | h
        · have := HLO.out i h
          rw [pE_some hi', decide_eq_false_iff_not] at this
          omega
        · subst h; rw [hxk] at hi'; cases hi'; exact hx rfl
        · have := asc_at HS.out h hxk hi'
          omega
      have HRR := Lib.hid (HRB.out.trans hr)
      have p1 : (x == c) = false := by rw [beq_eq_false_iff_ne]; exact hx
      clear hcell d0 ha hxk hxm hge hx hr
      go_wp2_with fail
      go_ret
      rw [HRR.out]
      exact ⟨rfl, hbel⟩
  · have hr : T.excB c = false := by
      unfold Tab.excB
      rw [decide_eq_false_iff_not]
      intro hm
      obtain ⟨i, hi, he⟩ := List.mem_iff_getElem.1 hm
      have := HLO.out i (by omega)
      rw [pE_some (show T.excluded[i]? = some c by rw [List.getElem?_eq_getElem hi, he]), decide_eq_false_iff_not] at this
      omega
    have HRR := Lib.hid (HRB.out.trans hr)
    have p1 : ¬ (k : Int) < (T.excluded.length : Int) := by omega
    have p2 : decide (k < T.excluded.length) = false := decide_eq_false hkn
    clear hr hkn
    go_wp2_with fail
    go_ret
    rw [HRR.out]
    exact ⟨rfl, hbel⟩
end Go.Proofs.YtecpbicfiaifdaaDoor
/-
  The walk through one property of table.
-/
namespace Go.Proofs.YtecpbicfiaifdaaDoor
open Go.RowKit ND

set_option maxRecDepth 100000 in
set_option maxHeartbeats 400000 in
theorem class_any (t : Tv) (T : Tab) (c lo hi : Int) (w : World) (ht : TabR w w.heap.size t T) (hs : okS lo hi (-1) T.cls = true) (hlen : T.cls.length ≤ 256) :
    Calls Tryd.prog 69 #[t.val, .int .i64 c] w fun e w' => e = .returned (.int .i64 (T.classOf c)) ∧ Below w.heap.size w w' := by
  have HP := Lib.hid (fun W (h : Spans W W.heap.size t.c1 T.cls) => value_any t.c1 T.cls c lo hi W h hs hlen)
  have hr := ht.r1
  have HR := Lib.hid (fun o : Obj => hr.later ((Below.refl _ _).alloc (Nat.le_refl _) o))
  clear hr ht hs hlen
  go_enter Tryd.func69, Tryd.ntmps69
  go_wp2_with fail
  refine (HP.out _ (HR.out _)).mono ?_
  rintro e w1 ⟨rfl, b1⟩
  go_wp2_with fail
  go_ret
  exact ⟨rfl, below_next ((Below.refl _ _).alloc (Nat.le_refl _) _) b1⟩
end Go.Proofs.YtecpbicfiaifdaaDoor
