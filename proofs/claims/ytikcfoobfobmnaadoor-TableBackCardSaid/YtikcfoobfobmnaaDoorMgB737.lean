/-
  Merged texts: lemmas and walks that the last text of this claim leans on.
-/
import Derived.Test.YtikcfoobfobmnaaDoorMgB713
import Derived.Test.YtikcfoobfobmnaaDoorMgB730
import Derived.Test.YtikcfoobfobmnaaDoorMgB73
import Derived.Test.YtikcfoobfobmnaaDoorMgB710
import Derived.Test.YtikcfoobfobmnaaDoorMgB734
import Derived.Test.YtikcfoobfobmnaaDoorMgB715
import Derived.Test.YtikcfoobfobmnaaDoorMgB731
import Derived.Test.YtikcfoobfobmnaaDoorMgB735
import Derived.Test.YtikcfoobfobmnaaDoorMgB736
import Derived.Test.YtikcfoobfobmnaaDoorMgB716
import Derived.Deep.CutBlock
/-
  The walks through keep.SameMappings and keep.SameTables.
-/
namespace Go.Proofs.YtikcfoobfobmnaaDoor
open Go.RowKit ND

theorem same_stepM {xs ys : List Mp} {k : Nat} {x : Mp} (h : xs.take k = ys.take k) (hx : xs[k]? = some x) (hy : ys[k]? = some x) : xs.take (k + 1) = ys.take (k + 1) := by
  rw [take_snoc_get hx, take_snoc_get hy, h]

set_option maxRecDepth 100000 in
set_option maxHeartbeats 1000000 in
theorem sameMappings_any (v u : Value) (xs ys : List Mp) (w : World) (hv : Mapps w w.heap.size v xs) (hu : Mapps w w.heap.size u ys) :
    Calls Tryd.prog 46 #[v, u] w fun e w' => e = .returned (.bool (decide (xs = ys))) ∧ Below w.heap.size w w' := by
  obtain ⟨A, c, rfl, hc1, hc2, _, hcell⟩ := hv
  obtain ⟨A', c', rfl, hc1', hc2', _, hcell'⟩ := hu
  have HC := Lib.hid hcell; clear hcell
  have HC' := Lib.hid hcell'; clear hcell'
  have hl : xs.length ≤ 9223372036854775807 := by unfold maxLen at hc2; omega
  clear hc2 hc2' hc1 hc1'
  by_cases hlen : xs.length = ys.length
  · have hb : ((xs.length : Int) != (ys.length : Int)) = false := by rw [hlen]; simp
    have hl1 : xs.length ≤ ys.length := by omega
    have hl2 : ys.length ≤ xs.length := by omega
    clear hlen
    obtain ⟨R, hR⟩ : ∃ R, R = decide (xs = ys) := ⟨_, rfl⟩
    rw [← hR]
    have HR := Lib.hid hR; clear hR
    go_enter Tryd.func46, Tryd.ntmps46
    go_wp2_with fail
    go_loopw [13] (fun i wr => ∃ k : Nat, k ≤ xs.length ∧ i = .int .i64 k ∧ Hid (xs.take k = ys.take k) ∧ Below w.heap.size w wr) (fun i _ => xs.length - (intOf i).toNat)
    case atStart => exact ⟨0, by omega, rfl, Lib.hid (by simp), Below.refl _ _⟩
    case round =>
      obtain ⟨k, hk, rfl, HS, hbel⟩ := hrel
      by_cases hlt : k < xs.length
      · obtain ⟨⟨f, l⟩, hxk, _⟩ := get_el hlt
        obtain ⟨⟨f', l'⟩, hyk, _⟩ := get_el (show k < ys.length by omega)
        obtain ⟨ad, sv, rfl, ha, d0, d1, hi⟩ := HC.out k _ hxk
        obtain ⟨ad', sv', rfl, ha', d0', d1', hi'⟩ := HC'.out k _ hyk
        simp only at d0 d1 hi d0' d1' hi'
        obtain ⟨As, cs, rfl, _⟩ := id hi
        obtain ⟨As', cs', rfl, _⟩ := id hi'
        obtain ⟨e0, e1⟩ := map_cells hbel ha d0 d1
        obtain ⟨g0, g1⟩ := map_cells hbel ha' d0' d1'
        have HI : Hid (∀ V, Below wr.heap.size wr V → Calls Tryd.prog 37 #[.slice As l.length cs, .slice As' l'.length cs'] V fun e V' => e = .returned (.bool (decide (l = l'))) ∧ Below V.heap.size V V') :=
          Lib.hid fun V hV => same_any _ _ l l' V ((hi.later hbel).later hV) ((hi'.later hbel).later hV)
        have HX := Lib.hid hxk
        have HY := Lib.hid hyk
        have m0 := cell_regrown e0
        have m1 := cell_regrown e1
        have n0 := cell_regrown g0
        have n1 := cell_regrown g1
        clear d0 d1 d0' d1' hxk hyk ha ha' e0 e1 g0 g1 hi hi'
        have k0 : (0 : Int) ≤ (k : Int) := by omega
        have k1 : (k : Int) < (xs.length : Int) := by omega
        have k2 : (k : Int) < (ys.length : Int) := by omega
        by_cases hff : f = f'
        · have hb2 : (f != f') = false := by rw [hff]; simp
          by_cases hll : l = l'
          · have hdl : decide (l = l') = true := by rw [decide_eq_true_iff]; exact hll
            rw [hdl] at HI
            have HT := Lib.hid (same_stepM HS.out HX.out (by rw [hff, hll]; exact HY.out))
            clear hff hll hdl
            go_wp2_with fail
            refine wp_region_quiet_below (by kernel_rfl) (by kernel_rfl) ?_
            repeat (go_big_quiet_step ((go_at_call 37; exact quiet_t HI.out)))
            refine wpQuiet_nil ?_
            rintro _ ⟨⟨dq, osq⟩, rfl⟩
            have hb9 := below_next hbel (below_regrown wr dq osq)
            generalize Go.Sort.grow (redrawn wr dq) osq = wB at *
            clear m0 m1 n0 n1
            go_wp2_with fail
            go_roundw
            case rel => exact ⟨k + 1, by omega, by go_num, HT, hb9⟩
            case measure => simp [intOf]; omega
          · have hdl : decide (l = l') = false := by rw [decide_eq_false_iff_not]; exact hll
            rw [hdl] at HI
            have HN : Hid (R = false) := by
              refine Lib.hid ?_
              rw [HR.out, decide_eq_false_iff_not]
              rintro rfl
              have := HX.out.symm.trans HY.out
              simp at this
              exact hll this.2
            clear hff hll hdl
            go_wp2_with fail
            refine wp_region_quiet_below (by kernel_rfl) (by kernel_rfl) ?_
            repeat (go_big_quiet_step ((go_at_call 37; exact quiet_t HI.out)))
            refine wpQuiet_nil ?_
            rintro _ ⟨⟨dq, osq⟩, rfl⟩
            have hb9 := below_next hbel (below_regrown wr dq osq)
            generalize Go.Sort.grow (redrawn wr dq) osq = wB at *
            clear m0 m1 n0 n1
            go_wp2_with fail
            go_ret
            rw [HN.out]
            exact ⟨rfl, hb9⟩
        · have hb2 : (f != f') = true := by rw [bne_iff_ne]; exact hff
          have HN : Hid (R = false) := by
            refine Lib.hid ?_
            rw [HR.out, decide_eq_false_iff_not]
            rintro rfl
            have := HX.out.symm.trans HY.out
            simp at this
            exact hff this.1
          clear hff
          go_wp2_with fail
          refine wp_region_quiet_below (by kernel_rfl) (by kernel_rfl) ?_
          repeat (go_big_quiet_step (fail))
          refine wpQuiet_nil ?_
          rintro _ ⟨⟨dq, osq⟩, rfl⟩
          have hb9 := below_next hbel (below_regrown wr dq osq)
          generalize Go.Sort.grow (redrawn wr dq) osq = wB at *
          clear m0 m1 n0 n1
          go_wp2_with fail
          go_ret
          rw [HN.out]
          exact ⟨rfl, hb9⟩
      · have HN : Hid (R = true) := by
          refine Lib.hid ?_
          rw [HR.out, decide_eq_true_iff]
          have h := HS.out
          rw [List.take_of_length_le (by omega), List.take_of_length_le (by omega)] at h
          exact h
        go_wp2_with fail
        go_ret
        rw [HN.out]
        exact ⟨rfl, hbel⟩
  · have hb : ((xs.length : Int) != (ys.length : Int)) = true := by rw [bne_iff_ne]; omega
    have HN : Hid (decide (xs = ys) = false) := by
      refine Lib.hid ?_
      rw [decide_eq_false_iff_not]
      rintro rfl
      exact hlen rfl
    clear hlen
    go_enter Tryd.func46, Tryd.ntmps46
    go_wp2_with fail
    go_ret
    rw [HN.out]
    exact ⟨rfl, Below.refl _ _⟩

/-- What SameTables says. -/
def sameT (A B : Tab) : Bool := decide (A.category = B.category) && (decide (A.cls = B.cls) && (decide (A.joining = B.joining) && (decide (A.bidi = B.bidi) && (decide (A.script = B.script) && (decide (A.status = B.status) && (decide (A.ignorable = B.ignorable) && (decide (A.extensions = B.extensions) && (decide (A.maps = B.maps) && (decide (A.decomps = B.decomps) && (decide (A.prototypes = B.prototypes) && (decide (A.excluded = B.excluded))))))))))))
theorem sameT_iff {A B : Tab} : sameT A B = true ↔ A = B := by
  obtain ⟨a0, a1, a2, a3, a4, a5, a6, a7, a8, a9, a10, a11⟩ := A
  obtain ⟨b0, b1, b2, b3, b4, b5, b6, b7, b8, b9, b10, b11⟩ := B
  simp only [sameT, Bool.and_eq_true, decide_eq_true_eq, Tab.mk.injEq]
  constructor
  · rintro ⟨h0, h1, h2, h3, h4, h5, h6, h7, h8, h9, h11, h10⟩
    exact ⟨h0, h1, h2, h3, h4, h5, h6, h7, h8, h9, h10, h11⟩
  · rintro ⟨h0, h1, h2, h3, h4, h5, h6, h7, h8, h9, h10, h11⟩
    exact ⟨h0, h1, h2, h3, h4, h5, h6, h7, h8, h9, h11, h10⟩

set_option maxRecDepth 100000 in
set_option maxHeartbeats 20000000 in
theorem sameTables_any (t u : Tv) (A B : Tab) (w : World) (ht : TabR w w.heap.size t A) (hu : TabR w w.heap.size u B) :
    Calls Tryd.prog 11 #[t.val, u.val] w fun e w' => e = .returned (.bool (sameT A B)) ∧ Below w.heap.size w w' := by
  have HA := Lib.hid (fun W (h : Below w.heap.size w W) => ht.later h)
  have HB := Lib.hid (fun W (h : Below w.heap.size w W) => hu.later h)
  have HK : Hid (Blk ((w.alloc (.cells t.cells 26)).alloc (.cells u.cells 26)) w.heap.size 26 t.cells) := Lib.hid ((Blk.new w _ _).alloc _)
  have HL : Hid (Blk ((w.alloc (.cells t.cells 26)).alloc (.cells u.cells 26)) (w.heap.size + 1) 26 u.cells) := Lib.hid (by
    have h := Blk.new (w.alloc (.cells t.cells 26)) 26 u.cells
    simpa using h)
  have HW0 : Hid (Below w.heap.size w ((w.alloc (.cells t.cells 26)).alloc (.cells u.cells 26))) := Lib.hid (((Below.refl _ _).alloc (Nat.le_refl _) _).alloc (by simp) _)
  obtain ⟨R, hR⟩ : ∃ R, R = sameT A B := ⟨_, rfl⟩
  rw [← hR]
  have HR := Lib.hid hR
  clear ht hu hR
  obtain ⟨c0, c1, c2, c3, c4, c5, c6, c7, c8, c9, c10, c11⟩ := t
  obtain ⟨d0, d1, d2, d3, d4, d5, d6, d7, d8, d9, d10, d11⟩ := u
  go_enter Tryd.func11, Tryd.ntmps11
  go_wp2_with fail
  generalize (w.alloc (.cells #[c0, c1, c2, c3, c4, c5, c6, c7, c8, c9, c10, c11] 26)).alloc (.cells #[d0, d1, d2, d3, d4, d5, d6, d7, d8, d9, d10, d11] 26) = w0 at *
  refine (sameSpans_any _ _ A.category B.category _ (HA.out _ HW0.out).r0 (HB.out _ HW0.out).r0).mono ?_
  rintro e w1 ⟨rfl, bl⟩
  have HW1 := Lib.hid (below_next HW0.out bl)
  obtain ⟨b, H0⟩ : ∃ b, Hid (decide (A.category = B.category) = b) := ⟨_, Lib.hid rfl⟩
  rw [H0.out]
  have HKn := Lib.hid (HK.out.later bl)
  have HLn := Lib.hid (HL.out.later bl)
  clear HK HL bl
  have HK := HKn
  have HL := HLn
  clear HKn HLn
  have x := HK.out.at_ (i := 1) (u := c1) rfl
  have y := HL.out.at_ (i := 1) (u := d1) rfl
  cases b
  case false =>
    go_wp2_with fail
    go_ret
    rw [show R = false from by rw [HR.out]; simp only [sameT, H0.out, Bool.false_and]]
    exact ⟨rfl, HW1.out⟩
  go_wp2_with fail
  clear x y
  refine (sameSpans_any _ _ A.cls B.cls _ (HA.out _ HW1.out).r1 (HB.out _ HW1.out).r1).mono ?_
  rintro e w2 ⟨rfl, bl⟩
  have HW2 := Lib.hid (below_next HW1.out bl)
  obtain ⟨b, H1⟩ : ∃ b, Hid (decide (A.cls = B.cls) = b) := ⟨_, Lib.hid rfl⟩
  rw [H1.out]
  have HKn := Lib.hid (HK.out.later bl)
  have HLn := Lib.hid (HL.out.later bl)
  clear HK HL bl
  have HK := HKn
  have HL := HLn
  clear HKn HLn
  have x := HK.out.at_ (i := 2) (u := c2) rfl
  have y := HL.out.at_ (i := 2) (u := d2) rfl
  cases b
  case false =>
    go_wp2_with fail
    go_ret
    rw [show R = false from by rw [HR.out]; simp only [sameT, H0.out, H1.out, Bool.true_and, Bool.false_and]]
    exact ⟨rfl, HW2.out⟩
  go_wp2_with fail
  clear x y
  refine (sameSpans_any _ _ A.joining B.joining _ (HA.out _ HW2.out).r2 (HB.out _ HW2.out).r2).mono ?_
  rintro e w3 ⟨rfl, bl⟩
  have HW3 := Lib.hid (below_next HW2.out bl)
  obtain ⟨b, H2⟩ : ∃ b, Hid (decide (A.joining = B.joining) = b) := ⟨_, Lib.hid rfl⟩
  rw [H2.out]
  have HKn := Lib.hid (HK.out.later bl)
  have HLn := Lib.hid (HL.out.later bl)
  clear HK HL bl
  have HK := HKn
  have HL := HLn
  clear HKn HLn
  have x := HK.out.at_ (i := 3) (u := c3) rfl
  have y := HL.out.at_ (i := 3) (u := d3) rfl
  cases b
  case false =>
    go_wp2_with fail
    go_ret
    rw [show R = false from by rw [HR.out]; simp only [sameT, H0.out, H1.out, H2.out, Bool.true_and, Bool.false_and]]
    exact ⟨rfl, HW3.out⟩
  go_wp2_with fail
  clear x y
  refine (sameSpans_any _ _ A.bidi B.bidi _ (HA.out _ HW3.out).r3 (HB.out _ HW3.out).r3).mono ?_
  rintro e w4 ⟨rfl, bl⟩
  have HW4 := Lib.hid (below_next HW3.out bl)
  obtain ⟨b, H3⟩ : ∃ b, Hid (decide (A.bidi = B.bidi) = b) := ⟨_, Lib.hid rfl⟩
  rw [H3.out]
  have HKn := Lib.hid (HK.out.later bl)
  have HLn := Lib.hid (HL.out.later bl)
  clear HK HL bl
  have HK := HKn
  have HL := HLn
  clear HKn HLn
  have x := HK.out.at_ (i := 4) (u := c4) rfl
  have y := HL.out.at_ (i := 4) (u := d4) rfl
  cases b
  case false =>
    go_wp2_with fail
    go_ret
    rw [show R = false from by rw [HR.out]; simp only [sameT, H0.out, H1.out, H2.out, H3.out, Bool.true_and, Bool.false_and]]
    exact ⟨rfl, HW4.out⟩
  go_wp2_with fail
  clear x y
  refine (sameSpans_any _ _ A.script B.script _ (HA.out _ HW4.out).r4 (HB.out _ HW4.out).r4).mono ?_
  rintro e w5 ⟨rfl, bl⟩
  have HW5 := Lib.hid (below_next HW4.out bl)
  obtain ⟨b, H4⟩ : ∃ b, Hid (decide (A.script = B.script) = b) := ⟨_, Lib.hid rfl⟩
  rw [H4.out]
  have HKn := Lib.hid (HK.out.later bl)
  have HLn := Lib.hid (HL.out.later bl)
  clear HK HL bl
  have HK := HKn
  have HL := HLn
  clear HKn HLn
  have x := HK.out.at_ (i := 5) (u := c5) rfl
  have y := HL.out.at_ (i := 5) (u := d5) rfl
  cases b
  case false =>
    go_wp2_with fail
    go_ret
    rw [show R = false from by rw [HR.out]; simp only [sameT, H0.out, H1.out, H2.out, H3.out, H4.out, Bool.true_and, Bool.false_and]]
    exact ⟨rfl, HW5.out⟩
  go_wp2_with fail
  clear x y
  refine (sameSpans_any _ _ A.status B.status _ (HA.out _ HW5.out).r5 (HB.out _ HW5.out).r5).mono ?_
  rintro e w6 ⟨rfl, bl⟩
  have HW6 := Lib.hid (below_next HW5.out bl)
  obtain ⟨b, H5⟩ : ∃ b, Hid (decide (A.status = B.status) = b) := ⟨_, Lib.hid rfl⟩
  rw [H5.out]
  have HKn := Lib.hid (HK.out.later bl)
  have HLn := Lib.hid (HL.out.later bl)
  clear HK HL bl
  have HK := HKn
  have HL := HLn
  clear HKn HLn
  have x := HK.out.at_ (i := 6) (u := c6) rfl
  have y := HL.out.at_ (i := 6) (u := d6) rfl
  cases b
  case false =>
    go_wp2_with fail
    go_ret
    rw [show R = false from by rw [HR.out]; simp only [sameT, H0.out, H1.out, H2.out, H3.out, H4.out, H5.out, Bool.true_and, Bool.false_and]]
    exact ⟨rfl, HW6.out⟩
  go_wp2_with fail
  clear x y
  refine (sameSpans_any _ _ A.ignorable B.ignorable _ (HA.out _ HW6.out).r6 (HB.out _ HW6.out).r6).mono ?_
  rintro e w7 ⟨rfl, bl⟩
  have HW7 := Lib.hid (below_next HW6.out bl)
  obtain ⟨b, H6⟩ : ∃ b, Hid (decide (A.ignorable = B.ignorable) = b) := ⟨_, Lib.hid rfl⟩
  rw [H6.out]
  have HKn := Lib.hid (HK.out.later bl)
  have HLn := Lib.hid (HL.out.later bl)
  clear HK HL bl
  have HK := HKn
  have HL := HLn
  clear HKn HLn
  have x := HK.out.at_ (i := 7) (u := c7) rfl
  have y := HL.out.at_ (i := 7) (u := d7) rfl
  cases b
  case false =>
    go_wp2_with fail
    go_ret
    rw [show R = false from by rw [HR.out]; simp only [sameT, H0.out, H1.out, H2.out, H3.out, H4.out, H5.out, H6.out, Bool.true_and, Bool.false_and]]
    exact ⟨rfl, HW7.out⟩
  go_wp2_with fail
  clear x y
  refine (sameMappings_any _ _ A.extensions B.extensions _ (HA.out _ HW7.out).r7 (HB.out _ HW7.out).r7).mono ?_
  rintro e w8 ⟨rfl, bl⟩
  have HW8 := Lib.hid (below_next HW7.out bl)
  obtain ⟨b, H7⟩ : ∃ b, Hid (decide (A.extensions = B.extensions) = b) := ⟨_, Lib.hid rfl⟩
  rw [H7.out]
  have HKn := Lib.hid (HK.out.later bl)
  have HLn := Lib.hid (HL.out.later bl)
  clear HK HL bl
  have HK := HKn
  have HL := HLn
  clear HKn HLn
  have x := HK.out.at_ (i := 8) (u := c8) rfl
  have y := HL.out.at_ (i := 8) (u := d8) rfl
  cases b
  case false =>
    go_wp2_with fail
    go_ret
    rw [show R = false from by rw [HR.out]; simp only [sameT, H0.out, H1.out, H2.out, H3.out, H4.out, H5.out, H6.out, H7.out, Bool.true_and, Bool.false_and]]
    exact ⟨rfl, HW8.out⟩
  go_wp2_with fail
  clear x y
  refine (sameMappings_any _ _ A.maps B.maps _ (HA.out _ HW8.out).r8 (HB.out _ HW8.out).r8).mono ?_
  rintro e w9 ⟨rfl, bl⟩
  have HW9 := Lib.hid (below_next HW8.out bl)
  obtain ⟨b, H8⟩ : ∃ b, Hid (decide (A.maps = B.maps) = b) := ⟨_, Lib.hid rfl⟩
  rw [H8.out]
  have HKn := Lib.hid (HK.out.later bl)
  have HLn := Lib.hid (HL.out.later bl)
  clear HK HL bl
  have HK := HKn
  have HL := HLn
  clear HKn HLn
  have x := HK.out.at_ (i := 9) (u := c9) rfl
  have y := HL.out.at_ (i := 9) (u := d9) rfl
  cases b
  case false =>
    go_wp2_with fail
    go_ret
    rw [show R = false from by rw [HR.out]; simp only [sameT, H0.out, H1.out, H2.out, H3.out, H4.out, H5.out, H6.out, H7.out, H8.out, Bool.true_and, Bool.false_and]]
    exact ⟨rfl, HW9.out⟩
  go_wp2_with fail
  clear x y
  refine (sameMappings_any _ _ A.decomps B.decomps _ (HA.out _ HW9.out).r9 (HB.out _ HW9.out).r9).mono ?_
  rintro e w10 ⟨rfl, bl⟩
  have HW10 := Lib.hid (below_next HW9.out bl)
  obtain ⟨b, H9⟩ : ∃ b, Hid (decide (A.decomps = B.decomps) = b) := ⟨_, Lib.hid rfl⟩
  rw [H9.out]
  have HKn := Lib.hid (HK.out.later bl)
  have HLn := Lib.hid (HL.out.later bl)
  clear HK HL bl
  have HK := HKn
  have HL := HLn
  clear HKn HLn
  have x := HK.out.at_ (i := 11) (u := c11) rfl
  have y := HL.out.at_ (i := 11) (u := d11) rfl
  cases b
  case false =>
    go_wp2_with fail
    go_ret
    rw [show R = false from by rw [HR.out]; simp only [sameT, H0.out, H1.out, H2.out, H3.out, H4.out, H5.out, H6.out, H7.out, H8.out, H9.out, Bool.true_and, Bool.false_and]]
    exact ⟨rfl, HW10.out⟩
  go_wp2_with fail
  clear x y
  refine (sameMappings_any _ _ A.prototypes B.prototypes _ (HA.out _ HW10.out).r11 (HB.out _ HW10.out).r11).mono ?_
  rintro e w11 ⟨rfl, bl⟩
  have HW11 := Lib.hid (below_next HW10.out bl)
  obtain ⟨b, H10⟩ : ∃ b, Hid (decide (A.prototypes = B.prototypes) = b) := ⟨_, Lib.hid rfl⟩
  rw [H10.out]
  have HKn := Lib.hid (HK.out.later bl)
  have HLn := Lib.hid (HL.out.later bl)
  clear HK HL bl
  have HK := HKn
  have HL := HLn
  clear HKn HLn
  have x := HK.out.at_ (i := 10) (u := c10) rfl
  have y := HL.out.at_ (i := 10) (u := d10) rfl
  cases b
  case false =>
    go_wp2_with fail
    go_ret
    rw [show R = false from by rw [HR.out]; simp only [sameT, H0.out, H1.out, H2.out, H3.out, H4.out, H5.out, H6.out, H7.out, H8.out, H9.out, H10.out, Bool.true_and, Bool.false_and]]
    exact ⟨rfl, HW11.out⟩
  go_wp2_with fail
  clear x y
  refine (same_any _ _ A.excluded B.excluded _ (HA.out _ HW11.out).r10 (HB.out _ HW11.out).r10).mono ?_
  rintro e w12 ⟨rfl, bl⟩
  have HW12 := Lib.hid (below_next HW11.out bl)
  obtain ⟨b, H11⟩ : ∃ b, Hid (decide (A.excluded = B.excluded) = b) := ⟨_, Lib.hid rfl⟩
  rw [H11.out]
  go_wp2_with fail
  go_ret
  rw [show R = b from by rw [HR.out]; simp only [sameT, H0.out, H1.out, H2.out, H3.out, H4.out, H5.out, H6.out, H7.out, H8.out, H9.out, H10.out, H11.out, Bool.true_and]]
  exact ⟨rfl, HW12.out⟩
end Go.Proofs.YtikcfoobfobmnaaDoor
/-
  The walk through the law TableBack.
-/
namespace Go.Proofs.YtikcfoobfobmnaaDoor
open Go.RowKit ND

set_option maxRecDepth 100000 in
set_option maxHeartbeats 4000000 in
theorem TableBack_go (W : World) (hg : Glob W) (v : Value) (xs : List Int) (hv : Ints W W.heap.size .i64 v xs) :
    Calls Tryd.prog 4 #[v] W fun e W' => e = .returned (.bool true) ∧ Below W.heap.size W W' := by
  have HG := Lib.hid (fun V (h : Below W.heap.size W V) => awake4 V (hg.later h))
  have HGL := Lib.hid (fun V (h : Below W.heap.size W V) => hg.later h)
  obtain ⟨A, c, rfl, _⟩ := id hv
  have HT := Lib.hid (fun V (h : Below W.heap.size W V) => keepTables_any V _ xs (hv.later h))
  clear hv hg
  have HB0 : Hid (Below W.heap.size W W) := Lib.hid (Below.refl _ _)
  go_enter Tryd.func4, Tryd.ntmps4
  go_upto_region 2 with (go_at_call 5; refine (HT.out W HB0.out).mono ?_; rintro e w1 ⟨t, T1, rfl, ht1, hm1, hb1⟩; obtain ⟨A1_0, A1_1, A1_2, A1_3, A1_4, A1_5, A1_6, A1_7, A1_8, A1_9, A1_10, A1_11, k1_0, k1_1, k1_2, k1_3, k1_4, k1_5, k1_6, k1_7, k1_8, k1_9, k1_10, k1_11, rfl⟩ := ht1.shape; have HT1 := Lib.hid ht1; have HM1 := Lib.hid hm1; have HB1 := Lib.hid hb1; clear ht1 hm1 hb1)
  obtain ⟨t1, ht1, htb1⟩ := Tbl.new HT1.out
  have HV1 := Lib.hid htb1
  have HBV1 := Lib.hid (HB1.out.alloc HB1.out.size (.cells #[.slice A1_0 T1.category.length k1_0, .slice A1_1 T1.cls.length k1_1, .slice A1_2 T1.joining.length k1_2, .slice A1_3 T1.bidi.length k1_3, .slice A1_4 T1.script.length k1_4, .slice A1_5 T1.status.length k1_5, .slice A1_6 T1.ignorable.length k1_6, .slice A1_7 T1.extensions.length k1_7, .slice A1_8 T1.maps.length k1_8, .slice A1_9 T1.decomps.length k1_9, .slice A1_10 T1.excluded.length k1_10, .slice A1_11 T1.prototypes.length k1_11] 26))
  clear htb1 HT1 HB1
  generalize w1.alloc (.cells #[.slice A1_0 T1.category.length k1_0, .slice A1_1 T1.cls.length k1_1, .slice A1_2 T1.joining.length k1_2, .slice A1_3 T1.bidi.length k1_3, .slice A1_4 T1.script.length k1_4, .slice A1_5 T1.status.length k1_5, .slice A1_6 T1.ignorable.length k1_6, .slice A1_7 T1.extensions.length k1_7, .slice A1_8 T1.maps.length k1_8, .slice A1_9 T1.decomps.length k1_9, .slice A1_10 T1.excluded.length k1_10, .slice A1_11 T1.prototypes.length k1_11] 26) = v1 at *
  generalize w1.heap.size = b1 at *
  clear ht1 HT HB0
  obtain ⟨S1, HS1⟩ : ∃ S : ByteArray, Hid (S.data.toList = encAllT T1 ∧ S = ⟨(encTR T1).1.toArray⟩ ∧ (encTR T1).2 = 0 ∧ decTR S.data.toList = (T1, 0) ∧ S.size ≤ maxLen) := by
    obtain ⟨h1, h2⟩ := made_short HM1.out
    refine ⟨⟨(encTR T1).1.toArray⟩, Lib.hid ⟨by rw [h1], rfl, by rw [h1], by rw [h1]; exact dec_enc h1, ?_⟩⟩
    rw [← sz_list, h1]
    unfold maxLen
    simp only []
    omega
  have HE1 : Hid (∀ V, Below v1.heap.size v1 V → Calls Tryd.prog 7 #[t1.val] V fun e V' => e = .returned (.tuple #[.string S1, .int .i64 0]) ∧ Below V.heap.size V V') := Lib.hid fun V hV => (encode_any t1 T1 V (HV1.out.later hV).2 (HGL.out V (HBV1.out.trans (hV.mono HBV1.out.size)))).mono fun e V' h => ⟨by rw [h.1, HS1.out.2.1, HS1.out.2.2.1], h.2⟩
  have HD1 : Hid (∀ V, Below v1.heap.size v1 V → Calls Tryd.prog 10 #[.string S1] V fun e V' => ∃ t, e = .returned (.tuple #[t.val, .int .i64 0]) ∧ TabR V' V'.heap.size t T1 ∧ Below V.heap.size V V') := Lib.hid fun V hV => (decode_any S1 V HS1.out.2.2.2.2 (HGL.out V (HBV1.out.trans (hV.mono HBV1.out.size)))).mono fun e V' h => by
    have h9 := h
    rw [HS1.out.2.2.2.1] at h9
    exact h9
  clear HGL HM1 HS1
  have HBC0 : Hid (Below v1.heap.size v1 v1) := Lib.hid (Below.refl _ _)
  obtain ⟨x0, x1, x2, x3, x4, x5, x6, x7, x8, x9, x10, x11⟩ := HV1.out.1.tab
  go_upto_region 3 with (go_at_call 7; refine (HE1.out _ HBC0.out).mono ?_; rintro e u1 ⟨rfl, q1⟩)
  have HBC1 := Lib.hid q1
  clear q1 x0 x1 x2 x3 x4 x5 x6 x7 x8 x9 x10 x11
  go_upto_region 4 with (go_at_call 10; refine (HD1.out _ HBC1.out).mono ?_; rintro e u2 ⟨t, rfl, ht2, q2⟩; obtain ⟨A2_0, A2_1, A2_2, A2_3, A2_4, A2_5, A2_6, A2_7, A2_8, A2_9, A2_10, A2_11, k2_0, k2_1, k2_2, k2_3, k2_4, k2_5, k2_6, k2_7, k2_8, k2_9, k2_10, k2_11, rfl⟩ := ht2.shape; have HT2 := Lib.hid ht2; have HQ2 := Lib.hid q2; clear ht2 q2)
  obtain ⟨t2, ht2, htb2⟩ := Tbl.new HT2.out
  have HV2 := Lib.hid htb2
  have HBC2 := Lib.hid (HBC1.out.trans ((HQ2.out.alloc HQ2.out.size (.cells #[.slice A2_0 T1.category.length k2_0, .slice A2_1 T1.cls.length k2_1, .slice A2_2 T1.joining.length k2_2, .slice A2_3 T1.bidi.length k2_3, .slice A2_4 T1.script.length k2_4, .slice A2_5 T1.status.length k2_5, .slice A2_6 T1.ignorable.length k2_6, .slice A2_7 T1.extensions.length k2_7, .slice A2_8 T1.maps.length k2_8, .slice A2_9 T1.decomps.length k2_9, .slice A2_10 T1.excluded.length k2_10, .slice A2_11 T1.prototypes.length k2_11] 26)).mono HBC1.out.size))
  clear htb2 HT2 HQ2
  generalize u2.alloc (.cells #[.slice A2_0 T1.category.length k2_0, .slice A2_1 T1.cls.length k2_1, .slice A2_2 T1.joining.length k2_2, .slice A2_3 T1.bidi.length k2_3, .slice A2_4 T1.script.length k2_4, .slice A2_5 T1.status.length k2_5, .slice A2_6 T1.ignorable.length k2_6, .slice A2_7 T1.extensions.length k2_7, .slice A2_8 T1.maps.length k2_8, .slice A2_9 T1.decomps.length k2_9, .slice A2_10 T1.excluded.length k2_10, .slice A2_11 T1.prototypes.length k2_11] 26) = v2 at *
  generalize u2.heap.size = b2 at *
  clear ht2 HE1 HD1
  have HV1' := Lib.hid (HV1.out.later HBC2.out)
  have HBV2 := Lib.hid (HBV1.out.trans (HBC2.out.mono HBV1.out.size))
  clear HV1 HBC0 HBC1 HBC2
  go_wp2_with fail
  refine (HG.out v2 HBV2.out).mono ?_
  rintro e u3 ⟨rfl, q3⟩
  have HV1'' := Lib.hid (HV1'.out.later q3)
  have HV2'' := Lib.hid (HV2.out.later q3)
  have HBV3 := Lib.hid (below_next HBV2.out q3)
  have HSM : Hid (∀ V, TabR V V.heap.size t1 T1 → TabR V V.heap.size t2 T1 → Calls Tryd.prog 11 #[t1.val, t2.val] V fun e V' => e = .returned (.bool true) ∧ Below V.heap.size V V') := Lib.hid fun V h1 h2 => (sameTables_any t1 t2 T1 T1 V h1 h2).mono fun e V' h => ⟨by rw [h.1, sameT_iff.2 rfl], h.2⟩
  clear HV1' HV2 HBV2 q3 HG
  obtain ⟨x0, x1, x2, x3, x4, x5, x6, x7, x8, x9, x10, x11⟩ := HV1''.out.1.tab
  obtain ⟨y0, y1, y2, y3, y4, y5, y6, y7, y8, y9, y10, y11⟩ := HV2''.out.1.tab
  go_wp2_with fail
  refine (HSM.out _ HV1''.out.2 HV2''.out.2).mono ?_
  rintro e u4 ⟨rfl, q4⟩
  clear x0 x1 x2 x3 x4 x5 x6 x7 x8 x9 x10 x11 y0 y1 y2 y3 y4 y5 y6 y7 y8 y9 y10 y11
  go_wp2_with fail
  go_ret
  exact ⟨by simp, below_next HBV3.out q4⟩
theorem TableBack_walk (W : World) (hg : Glob W) (v : Value) (xs : List Int) (hv : Ints W W.heap.size .i64 v xs) (_ : ∀ x ∈ xs, -9223372036854775808 ≤ x ∧ x ≤ 9223372036854775807) (_ : xs.length * 8 ≤ 140737488351232) :
    Calls Tryd.prog 4 #[v] W fun e W' => e = .returned (.bool true) ∧ Below W.heap.size W W' := TableBack_go W hg v xs hv
end Go.Proofs.YtikcfoobfobmnaaDoor
