/-
  Merged texts: lemmas and walks that the last text of this claim leans on.
-/
import Derived.Test.YtikcfoobfobmnaaGreatDoorMgB77
import Derived.Test.YtikcfoobfobmnaaGreatDoorMgB78
import Derived.Test.YtikcfoobfobmnaaGreatDoorMgB73
import Derived.Deep.AppendLies
/-
  table.find hands back a value that is known ahead of the call.
-/
namespace Go.Proofs.YtikcfoobfobmnaaGreatDoor
open Go.RowKit ND

theorem findL_len {l : List Mp} {c : Int} (h : ∀ m ∈ l, m.2.length ≤ 1000) : (findL l c).length ≤ 1000 := by
  by_cases hf : findL l c = []
  · rw [hf]; simp
  · exact h _ (findL_mem hf)
/-- What find hands back in whatever later world. -/
def FindsIn (w : World) (v : Value) (c : Int) (u : Value) : Prop := ∀ W, Below w.heap.size w W → Calls Tryz.prog 67 #[v, .int .i64 c] W fun e W' => e = .returned u ∧ Below W.heap.size W W'

set_option maxRecDepth 100000 in
set_option maxHeartbeats 1000000 in
theorem find_v (v : Value) (xs : List Mp) (c : Int) (w : World) (hv : Mapps w w.heap.size v xs) (hs : sortM xs) (hne : ∀ m ∈ xs, m.2 ≠ []) (hlen : xs.length ≤ 256) :
    ∃ u, Ints w w.heap.size .i64 u (findL xs c) ∧ (findL xs c = [] → u = .slice none 0 0) ∧ FindsIn w v c u := by
  have eg := enters_of Tryz.func105 (by kernel_rfl) rfl
  have HV := Lib.hid hv
  obtain ⟨A, cap, rfl, _, _, _, hcell⟩ := hv
  by_cases hk : ∃ (k0 : Nat) (a : Mp), xs[k0]? = some a ∧ a.1 = c
  · obtain ⟨k0, ⟨f, ys⟩, hx0, hfc⟩ := hk
    simp only at hfc
    subst hfc
    obtain ⟨ad, sv, rfl, ha, d0, d1, hsv⟩ := hcell k0 _ hx0
    simp only at d0 d1 hsv
    have hlow0 : ∀ i a, i < k0 → xs[i]? = some a → a.1 < f := fun i a hi hxi => hs i k0 a (f, ys) hi hxi hx0
    have hfind : findL xs f = ys := findL_at hlow0 hx0 rfl
    rw [hfind]
    refine ⟨sv, hsv, fun e => absurd e (hne _ (List.mem_of_getElem? hx0)), fun W hW => ?_⟩
    obtain ⟨e0, e1⟩ := map_cells hW ha d0 d1
    have hk0 : k0 < xs.length := (List.getElem?_eq_some_iff.1 hx0).1
    have HU : Hid (∀ k, k ≤ xs.length → (∀ i, i < k → pF xs f i = false) → (k < xs.length → pF xs f k = true) → k = k0) := Lib.hid (fun k hk hl hh => by
      have h1 : k ≤ k0 := by
        rcases Nat.lt_or_ge k0 k with h | h
        · have := hl k0 h
          rw [pF_some hx0, decide_eq_false_iff_not] at this
          simp at this
        · exact h
      have h2 : k < xs.length := by omega
      have h3 := hh h2
      obtain ⟨b, hxb, _⟩ := get_el h2
      rw [pF_some hxb, decide_eq_true_eq] at h3
      rcases Nat.lt_or_ge k k0 with h | h
      · have := hlow0 k b h hxb; omega
      · omega)
    have HVW := Lib.hid (HV.out.later hW)
    have HE0 := Lib.hid e0
    have HE1 := Lib.hid e1
    have hsvs : ∃ A' c', sv = .slice A' ys.length c' := by obtain ⟨A', c', h, _⟩ := hsv; exact ⟨A', c', h⟩
    obtain ⟨A', c', rfl⟩ := hsvs
    have hbA := Nat.lt_of_lt_of_le ha hW.size
    clear hcell hsv d0 d1 e0 e1 hfind hne ha hx0 hlow0 HV hW
    have hbw : Below W.heap.size W ((W.alloc (.cells #[.slice (some ad) xs.length cap] 27)).alloc (.cells #[.int .i64 f] 3)) := ((Below.refl _ _).alloc (Nat.le_refl _) _).alloc (by simp) _
    have hboxes : ∀ V, Below ((W.alloc (.cells #[.slice (some ad) xs.length cap] 27)).alloc (.cells #[.int .i64 f] 3)).heap.size ((W.alloc (.cells #[.slice (some ad) xs.length cap] 27)).alloc (.cells #[.int .i64 f] 3)) V →
        V.cell? ⟨W.heap.size, 0, none⟩ = some (.slice (some ad) xs.length cap) ∧ V.cell? ⟨W.heap.size + 1, 0, none⟩ = some (.int .i64 f) := by
      intro V hb
      have hsz : (W.alloc (.cells #[.slice (some ad) xs.length cap] 27)).heap.size = W.heap.size + 1 := by simp
      have h1 := cell_new1 W (.slice (some ad) xs.length cap) 27
      have h2 := cell_new1 (W.alloc (.cells #[.slice (some ad) xs.length cap] 27)) (.int .i64 f) 3
      rw [hsz] at h2
      have h1' := (World.cell?_alloc_lt (W.alloc (.cells #[.slice (some ad) xs.length cap] 27)) (.cells #[.int .i64 f] 3) ⟨W.heap.size, 0, none⟩ (by simp)).trans h1
      exact ⟨(hb.cell (p := ⟨W.heap.size, 0, none⟩) (by simp; omega)).trans h1', (hb.cell (p := ⟨W.heap.size + 1, 0, none⟩) (by simp)).trans h2⟩
    have HB := Lib.hid hboxes
    have HBW := Lib.hid hbw
    clear hboxes hbw
    have HSR := Lib.hid (search_any 105 #[.pointer (some ⟨W.heap.size, 0, none⟩), .pointer (some ⟨W.heap.size + 1, 0, none⟩)] xs.length (pF xs f) ((W.alloc (.cells #[.slice (some ad) xs.length cap] 27)).alloc (.cells #[.int .i64 f] 3)) eg (by omega) (by
      intro V i hb hi
      exact findClos _ _ (some ad) cap xs f V i hi (HB.out V hb).1 (HB.out V hb).2 ((HVW.out.later HBW.out).later hb)) (pF_mono hs))
    go_enter Tryz.func67, Tryz.ntmps67
    go_wp2_with fail
    refine HSR.out.mono ?_
    rintro e w2 ⟨k, rfl, hk, hlow, hhigh, b2⟩
    obtain rfl := HU.out k hk hlow hhigh
    obtain ⟨q0, q1⟩ := HB.out w2 b2
    have hbel := HBW.out.trans (b2.mono HBW.out.size)
    have e0 := (hbel.cell (p := ad.add (k * 2)) (by rw [block_of_add]; exact hbA)).trans HE0.out
    have e1 := (hbel.cell (p := { block := (ad.add (k * 2)).block, off := (ad.add (k * 2)).off + 1, spot := none }) (by show (ad.add (k * 2)).block < _; rw [block_of_add]; exact hbA)).trans HE1.out
    clear HSR HB HBW HVW b2 hlow hhigh eg HU HE0 HE1 hs
    have k0' : (0 : Int) ≤ (k : Int) := by omega
    have k1' : (k : Int) < (xs.length : Int) := by omega
    have hb0 : ((k : Int) == (xs.length : Int)) = false := by rw [beq_eq_false_iff_ne]; omega
    go_wp2_with fail
    go_quiet (fail)
    go_wp2_with fail
    go_ret
    exact ⟨rfl, below_drewN hbel nq⟩
  · have hfind : findL xs c = [] := findL_no fun i a hi e => hk ⟨i, a, hi, e⟩
    rw [hfind]
    refine ⟨.slice none 0 0, Ints.none_, fun _ => rfl, fun W hW => ?_⟩
    refine (find_any _ xs c W (HV.out.later hW) hs hne hlen).mono ?_
    rintro e w1 ⟨u, rfl, _, hn, b1⟩
    rw [hn hfind]
    exact ⟨rfl, b1⟩
end Go.Proofs.YtikcfoobfobmnaaGreatDoor
/-
  The walks through table.size and table.decomposed: rule 6.
-/
namespace Go.Proofs.YtikcfoobfobmnaaGreatDoor
open Go.RowKit ND

/-- A list that is not empty lies somewhere. -/
theorem Ints.some_ {w : World} {B : Nat} {k : IntKind} {v : Value} {xs : List Int} (h : Ints w B k v xs) (hne : xs ≠ []) : ∃ ad c, v = .slice (some ad) xs.length c ∧ ad.block < B ∧ xs.length ≤ c ∧ c ≤ maxLen ∧ ∀ i x, xs[i]? = some x → w.cell? (ad.add i) = some (.int k x) := by
  obtain ⟨A, c, rfl, h1, h2, h3, h4⟩ := h
  obtain ⟨x, r, rfl⟩ := List.exists_cons_of_ne_nil hne
  obtain ⟨ad, rfl, ha, _⟩ := h4 0 x rfl
  refine ⟨ad, c, rfl, ha, h1, h2, fun i y hi => ?_⟩
  obtain ⟨ad', e, _, hc⟩ := h4 i y hi
  cases e
  exact hc
theorem sizeF_some {D : List Mp} {f : Nat} {c : Int} (h : findL D c ≠ []) : sizeF D (f + 1) c = min 19 ((findL D c).map (sizeF D f)).sum := by rw [sizeF, if_neg h]
theorem sizeF_none {D : List Mp} {f : Nat} {c : Int} (h : findL D c = []) : sizeF D f c = 1 := by
  cases f with
  | zero => rw [sizeF, if_pos h]
  | succ f => rw [sizeF, if_pos h]
theorem sizeF_19 (D : List Mp) (f : Nat) (c : Int) : sizeF D f c ≤ 19 := by
  rw [sizeF_eq]; split <;> omega
theorem sum_go {D : List Mp} {f : Nat} {ys : List Int} {k n S : Nat} {y : Int} (hx : ys[k]? = some y) (h : n + ((ys.drop k).map (sizeF D f)).sum = S) : n + sizeF D f y + ((ys.drop (k + 1)).map (sizeF D f)).sum = S := by
  rw [drop_of_get hx, List.map_cons, List.sum_cons] at h; omega
theorem sum_end {D : List Mp} {f : Nat} {ys : List Int} {k n S : Nat} (hk : ys.length ≤ k) (h : n + ((ys.drop k).map (sizeF D f)).sum = S) : S = n := by
  rw [List.drop_eq_nil_of_le hk] at h; simpa using h.symm

set_option maxRecDepth 100000 in
set_option maxHeartbeats 2000000 in
theorem size_any (t : Tv) (T : Tab) (hs : sortM T.decomps) (hne : ∀ m ∈ T.decomps, m.2 ≠ [] ∧ m.2.length ≤ 1000) (hlen : T.decomps.length ≤ 256) : ∀ (f : Nat) (c depth : Int) (w : World), TabR w w.heap.size t T → depth = (T.decomps.length : Int) + 1 - f → 0 ≤ depth →
    Calls Tryz.prog 98 #[t.val, .int .i64 c, .int .i64 depth] w fun e w' => e = .returned (.int .i64 (sizeF T.decomps f c : Nat)) ∧ Below w.heap.size w w' := by
  intro f
  induction f with
  | zero =>
    intro c depth w ht hd hd0
    obtain ⟨tc, htc⟩ : ∃ tc, tc = t.cells := ⟨_, rfl⟩
    obtain ⟨A0, A1, A2, A3, A4, A5, A6, A7, A8, A9, A10, A11, k0, k1, k2, k3, k4, k5, k6, k7, k8, k9, k10, k11, rfl⟩ := ht.shape
    have HR := Lib.hid (fun o : Obj => ht.r9.later ((Below.refl _ _).alloc (Nat.le_refl _) o))
    have HF := Lib.hid (fun W (h : Mapps W W.heap.size (.slice A9 T.decomps.length k9) T.decomps) => find_any _ T.decomps c W h hs (fun m hm => (hne m hm).1) hlen)
    have hdl : (T.decomps.length : Int) < depth := by omega
    have HD := Lib.hid hd
    clear ht hs hne htc hd
    by_cases hn : findL T.decomps c = []
    · rw [sizeF_none hn]
      have HN := Lib.hid hn
      clear hn
      have heq := fun (w : World) (a : Option Addr) (n c : Nat) => Lib.run_eql_slice_nil (P := Tryz.prog) w 22 3 a n c 0 0 Tryz.underlying22
      go_enter Tryz.func98, Tryz.ntmps98
      go_wp2_with fail
      refine (HF.out _ (HR.out _)).mono ?_
      rintro e w1 ⟨u, rfl, hu, hun, b1⟩
      obtain rfl := hun HN.out
      clear hu hun
      go_wp2_with fail
      go_ret
      exact ⟨rfl, below_next ((Below.refl _ _).alloc (Nat.le_refl _) _) b1⟩
    · have h19 : sizeF T.decomps 0 c = 19 := by rw [sizeF, if_neg hn]
      rw [h19]
      have HN := Lib.hid hn
      clear hn h19
      have heq := fun (w : World) (a : Option Addr) (n c : Nat) => Lib.run_eql_slice_nil (P := Tryz.prog) w 22 3 a n c 0 0 Tryz.underlying22
      go_enter Tryz.func98, Tryz.ntmps98
      go_wp2_with fail
      have hB0 : Blk (w.alloc (.cells #[.slice A0 T.category.length k0, .slice A1 T.cls.length k1, .slice A2 T.joining.length k2, .slice A3 T.bidi.length k3, .slice A4 T.script.length k4, .slice A5 T.status.length k5, .slice A6 T.ignorable.length k6, .slice A7 T.extensions.length k7, .slice A8 T.maps.length k8, .slice A9 T.decomps.length k9, .slice A10 T.excluded.length k10, .slice A11 T.prototypes.length k11] 29)) w.heap.size 29 _ := Blk.new _ _ _
      have HB0 := Lib.hid hB0
      clear hB0
      refine (HF.out _ (HR.out _)).mono ?_
      rintro e w1 ⟨u, rfl, hu, hun, b1⟩
      obtain ⟨ad, cu, rfl, _⟩ := hu.some_ HN.out
      have x9 := (HB0.out.later b1).at_ (i := 9) rfl
      clear hu hun HB0
      go_wp2_with fail
      go_ret
      exact ⟨rfl, below_next ((Below.refl _ _).alloc (Nat.le_refl _) _) b1⟩
  | succ f ih =>
    intro c depth w ht hd hd0
    have HIH := Lib.hid (fun c W h => ih c (depth + 1) W h (by omega) (by omega))
    have HT := Lib.hid (fun W (h : Below w.heap.size w W) => ht.later h)
    obtain ⟨tc, htc⟩ : ∃ tc, tc = t.cells := ⟨_, rfl⟩
    obtain ⟨A0, A1, A2, A3, A4, A5, A6, A7, A8, A9, A10, A11, k0, k1, k2, k3, k4, k5, k6, k7, k8, k9, k10, k11, rfl⟩ := ht.shape
    have HR := Lib.hid (fun o : Obj => ht.r9.later ((Below.refl _ _).alloc (Nat.le_refl _) o))
    have HF := Lib.hid (fun W (h : Mapps W W.heap.size (.slice A9 T.decomps.length k9) T.decomps) => find_any _ T.decomps c W h hs (fun m hm => (hne m hm).1) hlen)
    have HNL := findL_len (c := c) (fun m hm => (hne m hm).2)
    have hdl : depth ≤ (T.decomps.length : Int) := by omega
    have HTC := Lib.hid htc
    clear ht hs hne htc hd ih
    by_cases hn : findL T.decomps c = []
    · rw [sizeF_none hn]
      have HN := Lib.hid hn
      clear hn
      have heq := fun (w : World) (a : Option Addr) (n c : Nat) => Lib.run_eql_slice_nil (P := Tryz.prog) w 22 3 a n c 0 0 Tryz.underlying22
      go_enter Tryz.func98, Tryz.ntmps98
      go_wp2_with fail
      refine (HF.out _ (HR.out _)).mono ?_
      rintro e w1 ⟨u, rfl, hu, hun, b1⟩
      obtain rfl := hun HN.out
      clear hu hun
      go_wp2_with fail
      go_ret
      exact ⟨rfl, below_next ((Below.refl _ _).alloc (Nat.le_refl _) _) b1⟩
    · rw [sizeF_some hn]
      have HN := Lib.hid hn
      generalize findL T.decomps c = ys at *
      obtain ⟨S, hS⟩ : ∃ S, S = (ys.map (sizeF T.decomps f)).sum := ⟨_, rfl⟩
      rw [← hS]
      have HS0 : Hid (0 + ((ys.drop 0).map (sizeF T.decomps f)).sum = S) := Lib.hid (by rw [hS, Nat.zero_add]; rfl)
      clear hn hS
      have heq := fun (w : World) (a : Option Addr) (n c : Nat) => Lib.run_eql_slice_nil (P := Tryz.prog) w 22 3 a n c 0 0 Tryz.underlying22
      go_enter Tryz.func98, Tryz.ntmps98
      go_wp2_with fail
      have HB0 := Lib.hid (show Blk (w.alloc (.cells #[.slice A0 T.category.length k0, .slice A1 T.cls.length k1, .slice A2 T.joining.length k2, .slice A3 T.bidi.length k3, .slice A4 T.script.length k4, .slice A5 T.status.length k5, .slice A6 T.ignorable.length k6, .slice A7 T.extensions.length k7, .slice A8 T.maps.length k8, .slice A9 T.decomps.length k9, .slice A10 T.excluded.length k10, .slice A11 T.prototypes.length k11] 29)) w.heap.size 29 tc from by rw [HTC.out]; exact Blk.new _ _ _)
      refine (HF.out _ (HR.out _)).mono ?_
      rintro e w1 ⟨u, rfl, hu, hun, b1⟩
      obtain ⟨ad, cu, rfl, hau, hcu1, hcu2, hcell⟩ := hu.some_ HN.out
      have HC := Lib.hid hcell
      have HB1 := Lib.hid (HB0.out.later b1)
      have hbel1 := below_next ((Below.refl _ _).alloc (Nat.le_refl _) _) b1
      have x9 := (show Blk _ _ _ #[_, _, _, _, _, _, _, _, _, _, _, _] from by have h := HB1.out; rw [HTC.out] at h; exact h).at_ (i := 9) rfl
      clear hu hun HB0 hcell hcu1 hcu2 HF HR b1
      go_wp2_with fail
      clear x9
      clear heq
      go_loopw [8, 24] (fun n i wr => ∃ (q m : Nat), q ≤ ys.length ∧ i = .int .i64 q ∧ n = .int .i64 m ∧ m ≤ 18 ∧ Hid (m + ((ys.drop q).map (sizeF T.decomps f)).sum = S) ∧ Below w.heap.size w wr ∧ Below w1.heap.size w1 wr) (fun _ i _ => ys.length - (intOf i).toNat)
      case atStart => exact ⟨0, 0, by omega, rfl, rfl, by omega, HS0, hbel1, Below.refl _ _⟩
      case round =>
        obtain ⟨q, m, hq, rfl, rfl, hm, HS, hbel, hbelq⟩ := hrel
        clear HS0 hbel1
        by_cases hql : q < ys.length
        · obtain ⟨y, hyq, _⟩ := get_el hql
          have e0 := (hbelq.cell (p := ad.add q) (by rw [block_of_add]; exact hau)).trans (HC.out q y hyq)
          have HNX := Lib.hid (sum_go hyq HS.out)
          obtain ⟨x0, x1, x2, x3, x4, x5, x6, x7, x8, x9, x10, x11⟩ := (show Blk _ _ _ #[_, _, _, _, _, _, _, _, _, _, _, _] from by have h := HB1.out.later hbelq; rw [HTC.out] at h; exact h).tab
          have h19 := sizeF_19 T.decomps f y
          have HCA := Lib.hid (HIH.out y _ (HT.out _ hbel))
          obtain ⟨s, hs⟩ : ∃ s, s = sizeF T.decomps f y := ⟨_, rfl⟩
          rw [← hs] at HNX h19 HCA
          clear hyq hs HS
          have s0 : (0 : Int) ≤ (q : Int) := by omega
          have s1 : (q : Int) < (ys.length : Int) := by omega
          by_cases hbig : 18 < m + s
          · have p1 : (18 : Int) < (m : Int) + (s : Int) := by omega
            clear hbig
            go_wp2_with fail
            refine HCA.out.mono ?_
            rintro e w2 ⟨rfl, b2⟩
            clear x0 x1 x2 x3 x4 x5 x6 x7 x8 x9 x10 x11 e0
            go_wp2_with fail
            go_ret
            refine ⟨?_, below_next hbel b2⟩
            have := HNX.out
            rw [Nat.min_eq_left (by omega)]; rfl
          · have p1 : (m : Int) + (s : Int) ≤ 18 := by omega
            clear hbig
            go_wp2_with fail
            refine HCA.out.mono ?_
            rintro e w2 ⟨rfl, b2⟩
            clear x0 x1 x2 x3 x4 x5 x6 x7 x8 x9 x10 x11 e0
            go_wp2_with fail
            go_roundw
            case rel => exact ⟨q + 1, m + s, by omega, by go_num, by go_num, by omega, HNX, below_next hbel b2, below_next hbelq b2⟩
            case measure => simp [intOf]; omega
        · have HE := Lib.hid (sum_end (by omega) HS.out)
          go_wp2_with fail
          go_ret
          refine ⟨?_, hbel⟩
          rw [HE.out, Nat.min_eq_right (by omega)]
          rfl

theorem el_ways (c : Int) : (decEl c = false ∧ (c == 46) = true) ∨ (decEl c = false ∧ (c == 46) = false ∧ sylB c = true) ∨ (decEl c = false ∧ (c == 46) = false ∧ sylB c = false ∧ jamoB c = true) ∨ (decEl c = true ∧ (c == 46) = false ∧ sylB c = false ∧ jamoB c = false) := by
  unfold decEl
  by_cases h : c = 46
  · exact .inl ⟨by rw [decide_eq_true h]; rfl, by rw [beq_iff_eq]; exact h⟩
  · have hb : (c == 46) = false := by rw [beq_eq_false_iff_ne]; exact h
    rw [hb, decide_eq_false h]
    cases sylB c <;> cases jamoB c <;> simp
theorem decOk_no {c : Int} {tg : List Int} (h : 2 < tg.length) : decOk (c, tg) = false := by unfold decOk; rw [decide_eq_false (by simp only; omega)]; rfl
theorem decOk_yes {c : Int} {tg : List Int} (h : ¬ 2 < tg.length) : decOk (c, tg) = tg.all decEl := by unfold decOk; rw [decide_eq_true (by simp only; omega)]; rfl

set_option maxRecDepth 100000 in
set_option maxHeartbeats 4000000 in
theorem decomposed_any (t : Tv) (T : Tab) (w : World) (ht : TabR w w.heap.size t T) (hs : sortM T.decomps) (hne : ∀ m ∈ T.decomps, m.2 ≠ [] ∧ m.2.length ≤ 1000) (hlen : T.decomps.length ≤ 256) :
    Calls Tryz.prog 60 #[t.val] w fun e w' => e = .returned (.bool T.rule6) ∧ Below w.heap.size w w' := by
  obtain ⟨tc, htc⟩ : ∃ tc, tc = t.cells := ⟨_, rfl⟩
  have HSZ := Lib.hid (fun c W h => size_any t T hs hne hlen (T.decomps.length + 1) c 0 W h (by omega) (by omega))
  have HT := Lib.hid (fun W (h : Below w.heap.size w W) => ht.later h)
  have hmp := ht.r9
  obtain ⟨A0, A1, A2, A3, A4, A5, A6, A7, A8, A9, A10, A11, k0, k1, k2, k3, k4, k5, k6, k7, k8, k9, k10, k11, rfl⟩ := ht.shape
  have HTC := Lib.hid htc
  obtain ⟨B, cq, hB, _, _, _, hcell2⟩ := hmp
  cases hB
  have HM := Lib.hid hcell2
  clear ht htc hs hne hcell2
  obtain ⟨R, hR⟩ : ∃ R, R = T.rule6 := ⟨_, rfl⟩
  rw [← hR]
  obtain ⟨Ra, hRa⟩ : ∃ Ra, Ra = T.decomps.all decOk := ⟨_, rfl⟩
  obtain ⟨Rb, hRb⟩ : ∃ Rb, Rb = T.decomps.all T.szOk := ⟨_, rfl⟩
  have HA0 : Hid ((T.decomps.drop 0).all decOk = Ra) := Lib.hid hRa.symm
  have HB0 : Hid ((T.decomps.drop 0).all T.szOk = Rb) := Lib.hid hRb.symm
  have HRR : Hid (R = (Ra && Rb)) := Lib.hid (by rw [hR, hRa, hRb]; rfl)
  clear hR hRa hRb
  go_enter Tryz.func60, Tryz.ntmps60
  go_wp2_with fail
  go_loopw [12] (fun i wr => ∃ (j : Nat), j ≤ T.decomps.length ∧ i = .int .i64 j ∧ Hid ((T.decomps.drop j).all decOk = Ra) ∧ Below w.heap.size w wr ∧ Hid (Blk wr w.heap.size 29 tc)) (fun i _ => T.decomps.length - (intOf i).toNat)
  case atStart => exact ⟨0, by omega, rfl, HA0, (Below.refl _ _).alloc (Nat.le_refl _) _, Lib.hid (by rw [HTC.out]; exact Blk.new _ _ _)⟩
  case round =>
    obtain ⟨j, hj, rfl, HS, hbel, HB⟩ := hrel
    clear HA0
    by_cases hjl : j < T.decomps.length
    · obtain ⟨⟨cc, tg⟩, hxj, _⟩ := get_el hjl
      obtain ⟨aj, sv, rfl, ha, d0, d1, hto⟩ := HM.out j _ hxj
      simp only at d0 d1 hto
      obtain ⟨A', c', rfl, he1, he2, _, hcl⟩ := id hto
      have HTO := Lib.hid hcl
      have hlt : tg.length ≤ 9223372036854775807 := by unfold maxLen at he2; omega
      obtain ⟨e0, e1⟩ := map_cells hbel ha d0 d1
      have HX := Lib.hid hxj
      have hbelw := hbel.alloc hbel.size (.cells #[.int .i64 cc, .slice A' tg.length c'] 51)
      have HB' := Lib.hid (HB.out.alloc (.cells #[.int .i64 cc, .slice A' tg.length c'] 51))
      clear d0 d1 hxj ha hto hcl he1 he2 HB
      have r0 : (0 : Int) ≤ (j : Int) := by omega
      have r1 : (j : Int) < (T.decomps.length : Int) := by omega
      by_cases h2 : 2 < tg.length
      · have HN := Lib.hid (each_no HX.out HS.out (decOk_no (c := cc) h2))
        have p1 : (2 : Int) < (tg.length : Int) := by omega
        clear h2
        go_wp2_with fail
        go_ret
        rw [HRR.out, HN.out]
        exact ⟨by simp, hbelw⟩
      · have HOK := Lib.hid (decOk_yes (c := cc) h2)
        have p1 : (tg.length : Int) ≤ 2 := by omega
        obtain ⟨Rt, hRt⟩ : ∃ Rt, Rt = tg.all decEl := ⟨_, rfl⟩
        have HO : Hid ((tg.drop 0).all decEl = Rt) := Lib.hid hRt.symm
        have HOK2 : Hid (decOk (cc, tg) = Rt) := Lib.hid (HOK.out.trans hRt.symm)
        clear h2 HOK hRt
        go_wp2_with fail
        generalize World.alloc _ (.cells #[.int .i64 cc, .slice A' tg.length c'] 51) = wo at *
        clear e0 e1 hbel
        go_loop [23] (fun i => ∃ (q : Nat), q ≤ tg.length ∧ i = .int .i64 q ∧ Hid ((tg.drop q).all decEl = Rt)) (fun i => tg.length - (intOf i).toNat)
        case atStart => exact ⟨0, by omega, rfl, HO⟩
        case round =>
          obtain ⟨q, hq, rfl, HSq⟩ := hrel
          clear HO
          by_cases hql : q < tg.length
          · obtain ⟨y, hyq, _⟩ := get_el hql
            obtain ⟨ay, rfl, hay, d0⟩ := HTO.out q _ hyq
            have e0 := (hbelw.cell (p := ay.add q) (by rw [block_of_add]; exact hay)).trans d0
            have HXq := Lib.hid hyq
            clear d0 hyq hay
            have s0 : (0 : Int) ≤ (q : Int) := by omega
            have s1 : (q : Int) < (tg.length : Int) := by omega
            have HSY := Lib.hid (fun W => syl_any y W)
            have HJA := Lib.hid (fun W => jamo_any y W)
            rcases el_ways y with ⟨ho, u0⟩ | ⟨ho, u0, u1⟩ | ⟨ho, u0, u1, u2⟩ | ⟨ho, u0, u1, u2⟩
            · have HN := Lib.hid (each_no HXq.out HSq.out ho)
              clear ho
              go_wp2_with fail
              go_ret
              rw [HRR.out, each_no HX.out HS.out (HOK2.out.trans HN.out)]
              exact ⟨by simp, hbelw⟩
            · have HN := Lib.hid (each_no HXq.out HSq.out ho)
              rw [u1] at HSY
              clear ho u1
              go_wp2_with fail
              refine (HSY.out _).mono ?_
              rintro e w2 ⟨rfl, rfl⟩
              go_wp2_with fail
              go_ret
              rw [HRR.out, each_no HX.out HS.out (HOK2.out.trans HN.out)]
              exact ⟨by simp, hbelw⟩
            · have HN := Lib.hid (each_no HXq.out HSq.out ho)
              rw [u1] at HSY
              rw [u2] at HJA
              clear ho u1 u2
              go_wp2_with fail
              refine (HSY.out _).mono ?_
              rintro e w2 ⟨rfl, rfl⟩
              go_wp2_with fail
              refine (HJA.out _).mono ?_
              rintro e w2 ⟨rfl, rfl⟩
              go_wp2_with fail
              go_ret
              rw [HRR.out, each_no HX.out HS.out (HOK2.out.trans HN.out)]
              exact ⟨by simp, hbelw⟩
            · have HN := Lib.hid (each_go HXq.out HSq.out ho)
              rw [u1] at HSY
              rw [u2] at HJA
              clear ho u1 u2
              go_wp2_with fail
              refine (HSY.out _).mono ?_
              rintro e w2 ⟨rfl, rfl⟩
              go_wp2_with fail
              refine (HJA.out _).mono ?_
              rintro e w2 ⟨rfl, rfl⟩
              go_wp2_with fail
              go_round
              case rel => exact ⟨q + 1, by omega, by go_num, HN⟩
              case measure => simp [intOf]; omega
          · have HN := Lib.hid (each_go HX.out HS.out (HOK2.out.trans (each_end (by omega) HSq.out)))
            go_wp2_with fail
            go_roundw
            case rel => exact ⟨j + 1, by omega, by go_num, HN, hbelw, HB'⟩
            case measure => simp [intOf]; omega
    · have HN := Lib.hid (each_end (by omega) HS.out)
      have HR2 : Hid (R = Rb) := Lib.hid (by rw [HRR.out, HN.out, Bool.true_and])
      have x9 := (show Blk _ _ _ #[_, _, _, _, _, _, _, _, _, _, _, _] from by have h := HB.out; rw [HTC.out] at h; exact h).at_ (i := 9) rfl
      clear HS HN HRR
      go_wp2_with fail
      clear x9
      go_loopw [42] (fun i wr => ∃ (j : Nat), j ≤ T.decomps.length ∧ i = .int .i64 j ∧ Hid ((T.decomps.drop j).all T.szOk = Rb) ∧ Below w.heap.size w wr ∧ Hid (Blk wr w.heap.size 29 tc)) (fun i _ => T.decomps.length - (intOf i).toNat)
      case atStart => exact ⟨0, by omega, rfl, HB0, hbel, HB⟩
      case round =>
        obtain ⟨j, hj, rfl, HS, hbel, HB⟩ := hrel
        clear HB0
        by_cases hjl : j < T.decomps.length
        · obtain ⟨⟨cc, tg⟩, hxj, _⟩ := get_el hjl
          obtain ⟨aj, sv, rfl, ha, d0, d1, hto⟩ := HM.out j _ hxj
          simp only at d0 d1 hto
          obtain ⟨A', c', rfl, _⟩ := id hto
          obtain ⟨e0, e1⟩ := map_cells hbel ha d0 d1
          have HX := Lib.hid hxj
          have HB' := Lib.hid (HB.out.alloc (.cells #[.int .i64 cc, .slice A' tg.length c'] 51))
          obtain ⟨x0, x1, x2, x3, x4, x5, x6, x7, x8, x9, x10, x11⟩ := (show Blk _ _ _ #[_, _, _, _, _, _, _, _, _, _, _, _] from by have h := HB'.out; rw [HTC.out] at h; exact h).tab
          have HCA := Lib.hid (HSZ.out cc _ (HT.out _ (hbel.alloc hbel.size (.cells #[.int .i64 cc, .slice A' tg.length c'] 51))))
          have HSO : Hid (T.szOk (cc, tg) = decide (sizeF T.decomps (T.decomps.length + 1) cc ≤ 18)) := Lib.hid rfl
          have h19 := sizeF_19 T.decomps (T.decomps.length + 1) cc
          clear d0 d1 hxj ha hto HB
          have r0 : (0 : Int) ≤ (j : Int) := by omega
          have r1 : (j : Int) < (T.decomps.length : Int) := by omega
          generalize sizeF T.decomps (T.decomps.length + 1) cc = s at *
          by_cases hbig : s ≤ 18
          · have HN := Lib.hid (each_go HX.out HS.out (HSO.out.trans (decide_eq_true hbig)))
            have p1 : (s : Int) ≤ 18 := by omega
            clear hbig
            go_wp2_with fail
            refine HCA.out.mono ?_
            rintro e w2 ⟨rfl, b2⟩
            have HB2 := Lib.hid (HB'.out.later b2)
            clear x0 x1 x2 x3 x4 x5 x6 x7 x8 x9 x10 x11 e0 e1 HB'
            go_wp2_with fail
            go_roundw
            case rel => exact ⟨j + 1, by omega, by go_num, HN, below_next (hbel.alloc hbel.size _) b2, HB2⟩
            case measure => simp [intOf]; omega
          · have HN := Lib.hid (each_no HX.out HS.out (HSO.out.trans (decide_eq_false hbig)))
            have p1 : (18 : Int) < (s : Int) := by omega
            clear hbig
            go_wp2_with fail
            refine HCA.out.mono ?_
            rintro e w2 ⟨rfl, b2⟩
            clear x0 x1 x2 x3 x4 x5 x6 x7 x8 x9 x10 x11 e0 e1 HB'
            go_wp2_with fail
            go_ret
            rw [HR2.out, HN.out]
            exact ⟨rfl, below_next (hbel.alloc hbel.size _) b2⟩
        · have HN := Lib.hid (each_end (by omega) HS.out)
          go_wp2_with fail
          go_ret
          rw [HR2.out, HN.out]
          exact ⟨rfl, hbel⟩
end Go.Proofs.YtikcfoobfobmnaaGreatDoor
/-
  The walks through the reference's full and finite: rule 6.
-/
namespace Go.Proofs.YtikcfoobfobmnaaGreatDoor
open Go.RowKit ND

/-- What full hands back. -/
def RetFull (w : World) (r : Option (List Int)) (e : Ending) (w' : World) : Prop :=
  ∃ v, e = .returned (.tuple #[v, .bool r.isSome]) ∧ Ints w' w'.heap.size .i64 v (r.getD []) ∧ Below w.heap.size w w'
theorem exp1_snoc (D : List Mp) (l : List Int) (x : Int) : exp1 D (l ++ [x]) = exp1 D l ++ (if findL D x = [] then [x] else findL D x) := by unfold exp1; rw [List.flatMap_append]; simp
theorem take_snoc' {α : Type} {l : List α} {k : Nat} {c : α} (h : l[k]? = some c) : l.take (k + 1) = l.take k ++ [c] := by
  rw [List.take_add_one, h]; rfl

set_option maxRecDepth 100000 in
set_option maxHeartbeats 4000000 in
theorem full_any (t : Tv) (T : Tab) (c : Int) (w : World) (ht : TabR w w.heap.size t T) (hne : ∀ m ∈ T.decomps, m.2 ≠ [] ∧ m.2.length ≤ 1000) :
    Calls Tryz.prog 84 #[t.val, .int .i64 c] w (RetFull w (fullF T.decomps 257 [c])) := by
  obtain ⟨i0, hi, hz0, hz1, hz2⟩ := info_parts Tryz.infoInt'
  obtain ⟨tc, htc⟩ : ∃ tc, tc = t.cells := ⟨_, rfl⟩
  have HT := Lib.hid (fun W (h : Below w.heap.size w W) => (ht.later h).r9)
  obtain ⟨A0, A1, A2, A3, A4, A5, A6, A7, A8, A9, A10, A11, k0, k1, k2, k3, k4, k5, k6, k7, k8, k9, k10, k11, rfl⟩ := ht.shape
  have HF := Lib.hid (fun x W (h : Mapps W W.heap.size (.slice A9 T.decomps.length k9) T.decomps) => refFind_any _ T.decomps x W h)
  have HNL := Lib.hid (fun x => findL_len (c := x) (fun m hm => (hne m hm).2))
  have HTC := Lib.hid htc
  clear ht htc hne
  obtain ⟨R, hR⟩ : ∃ R, R = fullF T.decomps 257 [c] := ⟨_, rfl⟩
  rw [← hR]
  have HR0 : Hid (fullF T.decomps (257 - 0) [c] = R) := Lib.hid hR.symm
  clear hR
  go_enter Tryz.func84, Tryz.ntmps84
  go_wp2_with fail
  go_loopw [6, 7] (fun l i wr => ∃ (r : Nat) (xs : List Int) (B : Option Addr) (cp : Nat), r ≤ 257 ∧ i = .int .i64 r ∧ l = .slice B xs.length cp ∧ xs.length ≤ 18 ∧ Hid (fullF T.decomps (257 - r) xs = R) ∧ Hid (Ints wr wr.heap.size .i64 (.slice B xs.length cp) xs) ∧ Below w.heap.size w wr ∧ Hid (Blk wr w.heap.size 29 tc)) (fun _ i _ => 257 - (intOf i).toNat)
  case atStart =>
    refine ⟨0, [c], some ⟨w.heap.size + 1, 0, none⟩, 1, by omega, rfl, rfl, by simp, HR0, Lib.hid ⟨_, _, rfl, Nat.le_refl _, by decide, (by intro h; cases h), fun i x hi => ⟨_, rfl, by simp, ?_⟩⟩, ((Below.refl _ _).alloc (Nat.le_refl _) _).alloc (by simp) _, Lib.hid (by rw [HTC.out]; exact (Blk.new _ _ _).alloc _)⟩
    have h := cells_new (w.alloc (.cells tc 29)) [.int .i64 c] 3 i (.int .i64 x) (by
      cases i with
      | zero => simp at hi ⊢; exact hi
      | succ i => simp at hi)
    rw [show (w.alloc (.cells tc 29)).heap.size = w.heap.size + 1 by simp, HTC.out] at h
    exact h
  case round =>
    obtain ⟨r, xs, B, cp, hr, rfl, rfl, hxl, HS, HI, hbel, HB⟩ := hrel
    clear HR0
    by_cases hrl : r ≤ 256
    · have hsz0 : w.heap.size < wr.heap.size := HB.out.lt
      have HIW := Lib.hid (fun W (h : Below wr.heap.size wr W) => HI.out.later h)
      obtain ⟨B', cp', hBB, _, _, _, hcell⟩ := HI.out
      cases hBB
      have HC := Lib.hid hcell
      have HX0 : Hid (exp1 T.decomps (xs.take 0) = [] ∧ doneB T.decomps (xs.take 0) = true) := Lib.hid ⟨rfl, rfl⟩
      have HFS : Hid (R = if doneB T.decomps xs = true then some xs else if 18 < (exp1 T.decomps xs).length then none else fullF T.decomps (257 - (r + 1)) (exp1 T.decomps xs)) := Lib.hid (by
        rw [← HS.out, show 257 - r = (257 - (r + 1)) + 1 by omega]; rfl)
      have p0 : (r : Int) ≤ 256 := by omega
      clear hcell HS
      go_wp2_with fail
      generalize hwo : wr = wo at *
      have HWO := Lib.hid hwo
      clear hwo
      go_loopw [8, 9, 21] (fun nx mo i wr => ∃ (q : Nat) (acc : List Int), q ≤ xs.length ∧ i = .int .i64 q ∧ Hid (acc = exp1 T.decomps (xs.take q)) ∧ acc.length ≤ 1000 * q ∧ mo = .bool (!doneB T.decomps (xs.take q)) ∧ wr.ownsRow wo.heap.size 3 1 nx acc.length (acc.map (Value.int .i64)) ∧ Below wo.heap.size wo wr ∧ Hid (Blk wr w.heap.size 29 tc)) (fun _ _ i _ => xs.length - (intOf i).toNat)
      case atStart => exact ⟨0, [], by omega, rfl, Lib.hid HX0.out.1.symm, by simp, by rw [HX0.out.2]; rfl, World.ownsRow_nil _ _ _ _, Below.refl _ _, HB⟩
      case round =>
        obtain ⟨q, acc, hq, rfl, HA, hal, rfl, hown, hbelq, HBq⟩ := hrel
        clear HX0 HB
        by_cases hql : q < xs.length
        · obtain ⟨y, hyq, _⟩ := get_el hql
          obtain ⟨ay, rfl, hay, d0⟩ := HC.out q _ hyq
          have e0 := (hbelq.cell (p := ay.add q) (by rw [block_of_add]; exact hay)).trans d0
          have x9 := (show Blk _ _ _ #[_, _, _, _, _, _, _, _, _, _, _, _] from by have h := HBq.out; rw [HTC.out] at h; exact h).at_ (i := 9) rfl
          have hbelw := below_next hbel hbelq
          have HCA := Lib.hid (HF.out y _ (HT.out _ hbelw))
          have hyl := HNL.out y
          have hds : doneB T.decomps (xs.take (q + 1)) = (doneB T.decomps (xs.take q) && decide (findL T.decomps y = [])) := by rw [take_snoc' hyq, doneB_append, doneB_one]
          have hes : exp1 T.decomps (xs.take (q + 1)) = acc ++ (if findL T.decomps y = [] then [y] else findL T.decomps y) := by rw [take_snoc' hyq, exp1_snoc, HA.out]
          have HDS := Lib.hid hds
          have HES := Lib.hid hes
          clear d0 hyq hay hds hes
          have s0 : (0 : Int) ≤ (q : Int) := by omega
          have s1 : (q : Int) < (xs.length : Int) := by omega
          by_cases hn : findL T.decomps y = []
          · have HES2 : Hid (exp1 T.decomps (xs.take (q + 1)) = acc ++ [y]) := Lib.hid (by rw [HES.out, if_pos hn])
            have HDS2 : Hid (doneB T.decomps (xs.take (q + 1)) = doneB T.decomps (xs.take q)) := Lib.hid (by rw [HDS.out, decide_eq_true hn, Bool.and_true])
            rw [hn] at HCA
            clear hn HES HDS hyl
            go_wp2_with fail
            refine HCA.out.mono ?_
            rintro e w2 ⟨u, rfl, hu, b2⟩
            obtain ⟨Au, cu, rfl, _⟩ := hu
            have hown2 := own_later hown b2
            have hbel2 := below_next hbelq b2
            have HB2 := Lib.hid (HBq.out.later b2)
            clear hown b2 x9 HBq e0
            have hsz2 := hbel2.size
            go_wp2_with (at_builtin; refine wpList_append_own _ rfl _ _ 22 rfl wo.heap.size 3 i0 (.int .i64 0) 1 8 Tryz.underlying22 hi hz0 hz1 hz2 rfl (by decide) _ _ _ rfl (hown2.alloc _) ⟨w2.heap.size, 0, none⟩ 1 1 [.int .i64 y] rfl rfl (World.news_of_block (cs := #[.int .i64 y]) (heap_alloc_new w2 _)) ?c1 ?c2 ?c3 ?c4 ?_)
            case c1 => intro u hu; simp at hu; subst hu; rfl
            case c2 => unfold maxLen; omega
            case c3 => omega
            case c4 => simp; omega
            intro v' w3 hown3 hg3 _
            have HB3 := Lib.hid ((HB2.out.alloc (.cells #[.int .i64 y] 3)).grown hg3 (fun e => absurd (hown2.lt w.heap.size e.symm).1 (by omega)))
            have hbel3 : Below wo.heap.size wo w3 := (hbel2.alloc hsz2 _).grown hg3 (by simp; omega) (fun k hk => (hown2.lt k hk).1)
            clear hg3 hown2 HB2 hbel2
            go_wp2_with fail
            go_roundw
            case rel => exact ⟨q + 1, acc ++ [y], by omega, by go_num, Lib.hid HES2.out.symm, by simp; omega, by rw [HDS2.out], by simpa using hown3, hbel3, HB3⟩
            case measure => simp [intOf]; omega
          · have HES2 : Hid (exp1 T.decomps (xs.take (q + 1)) = acc ++ findL T.decomps y) := Lib.hid (by rw [HES.out, if_neg hn])
            have HDS2 : Hid (doneB T.decomps (xs.take (q + 1)) = false) := Lib.hid (by rw [HDS.out, decide_eq_false hn, Bool.and_false])
            have hyp : 0 < (findL T.decomps y).length := length_pos_ne hn
            generalize findL T.decomps y = ys at *
            clear hn HES HDS
            go_wp2_with fail
            refine HCA.out.mono ?_
            rintro e w2 ⟨u, rfl, hu, b2⟩
            have HU := Lib.hid hu
            obtain ⟨Au, cu, rfl, _⟩ := hu
            have hown2 := own_later hown b2
            have hbel2 := below_next hbelq b2
            have HB2 := Lib.hid (HBq.out.later b2)
            clear hown b2 x9 HBq e0
            have hsz2 := hbel2.size
            go_wp2_with (at_builtin
                         refine wpList_append_ints (by rfl) (.tmp 32) (.tmp 33) rfl Tryz.underlying22 hi hz0 hz1 hz2 w2.heap.size wo.heap.size _ acc _ ys rfl hown2 rfl HU.out (by omega) hsz2 ?_
                         intro v' w3 hown3 hg3 _)
            have HB3 := Lib.hid (HB2.out.grown hg3 (fun e => absurd (hown2.lt w.heap.size e.symm).1 (by omega)))
            have hbel3 : Below wo.heap.size wo w3 := hbel2.grown hg3 hsz2 (fun k hk => (hown2.lt k hk).1)
            clear hg3 hown2 HB2 hbel2 HU
            go_wp2_with fail
            go_roundw
            case rel => exact ⟨q + 1, acc ++ ys, by omega, by go_num, Lib.hid HES2.out.symm, by simp; omega, by rw [HDS2.out]; rfl, hown3, hbel3, HB3⟩
            case measure => simp [intOf]; omega
        · obtain rfl : q = xs.length := by omega
          have htk : xs.take xs.length = xs := List.take_length
          rw [htk] at HA
          rw [htk]
          have hIn := Ints.of_own hown
          obtain ⟨An, cn, rfl, _⟩ := id hIn
          have HIN := Lib.hid hIn
          have hbelw := below_next hbel hbelq
          clear hIn hown htk
          cases hd : doneB T.decomps xs
          · rw [hd, if_neg (by simp), ← HA.out] at HFS
            by_cases h18 : 18 < acc.length
            · rw [if_pos h18] at HFS
              have p1 : (18 : Int) < (acc.length : Int) := by omega
              clear hd h18
              go_wp2_with fail
              go_ret2
              rw [HFS.out]
              exact ⟨_, rfl, Ints.none_, hbelw⟩
            · rw [if_neg h18] at HFS
              have p1 : (acc.length : Int) ≤ 18 := by omega
              clear hd
              go_wp2_with fail
              go_roundw
              case rel => exact ⟨r + 1, acc, An, cn, by omega, by go_num, rfl, by omega, Lib.hid HFS.out.symm, HIN, hbelw, HBq⟩
              case measure => simp [intOf]; omega
          · rw [hd, if_pos rfl] at HFS
            have HIX := Lib.hid (HIW.out _ hbelq)
            clear hd
            go_wp2_with fail
            go_ret2
            rw [HFS.out]
            exact ⟨_, rfl, HIX.out, hbelw⟩
    · have HN := Lib.hid HS.out
      have e0 : 257 - r = 0 := by omega
      rw [e0] at HN
      have p0 : (256 : Int) < (r : Int) := by omega
      clear e0
      go_wp2_with fail
      go_ret2
      rw [← HN.out]
      exact ⟨_, rfl, Ints.none_, hbel⟩
end Go.Proofs.YtikcfoobfobmnaaGreatDoor
