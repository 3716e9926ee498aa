/-
  Merged texts: lemmas and walks that the last text of this claim leans on.
-/
import Derived.Test.YtikcfoobfobmnaaGreatDoorMgB713
import Derived.Test.YtikcfoobfobmnaaGreatDoorMgB730
import Derived.Test.YtikcfoobfobmnaaGreatDoorMgB73
import Derived.Test.YtikcfoobfobmnaaGreatDoorMgB710
import Derived.Test.YtikcfoobfobmnaaGreatDoorMgB734
/-
  The walks through keep.SameMappings and keep.SameTables.
-/
namespace Go.Proofs.YtikcfoobfobmnaaGreatDoor
open Go.RowKit ND

theorem same_stepM {xs ys : List Mp} {k : Nat} {x : Mp} (h : xs.take k = ys.take k) (hx : xs[k]? = some x) (hy : ys[k]? = some x) : xs.take (k + 1) = ys.take (k + 1) := by
  rw [take_snoc_get hx, take_snoc_get hy, h]

set_option maxRecDepth 100000 in
set_option maxHeartbeats 1000000 in
theorem sameMappings_any (v u : Value) (xs ys : List Mp) (w : World) (hv : Mapps w w.heap.size v xs) (hu : Mapps w w.heap.size u ys) :
    Calls Tryz.prog 42 #[v, u] w fun e w' => e = .returned (.bool (decide (xs = ys))) ∧ Below w.heap.size w w' := by
  obtain ⟨A, c, rfl, hc1, hc2, _, hcell⟩ := hv
  obtain ⟨A', c', rfl, hc1', hc2', _, hcell'⟩ := hu
  have HC := Lib.hid hcell; clear hcell
  have HC' := Lib.hid hcell'; clear hcell'
  have hl : xs.length ≤ 9223372036854775807 := by unfold maxLen at hc2; omega
  clear hc2 hc2' hc1 hc1'
  by_cases hlen : xs.length = ys.length
  · have hb : ((xs.length : Int) != (ys.length : Int)) = false := by rw [hlen]; simp
    have hl1 : xs.length ≤ ys.length := by omega
    have hl2 : ys.length ≤ xs.length := by omega
    clear hlen
    obtain ⟨R, hR⟩ : ∃ R, R = decide (xs = ys) := ⟨_, rfl⟩
    rw [← hR]
    have HR := Lib.hid hR; clear hR
    go_enter Tryz.func42, Tryz.ntmps42
    go_wp2_with fail
    go_loopw [13] (fun i wr => ∃ k : Nat, k ≤ xs.length ∧ i = .int .i64 k ∧ Hid (xs.take k = ys.take k) ∧ Below w.heap.size w wr) (fun i _ => xs.length - (intOf i).toNat)
    case atStart => exact ⟨0, by omega, rfl, Lib.hid (by simp), Below.refl _ _⟩
    case round =>
      obtain ⟨k, hk, rfl, HS, hbel⟩ := hrel
      by_cases hlt : k < xs.length
      · obtain ⟨⟨f, l⟩, hxk, _⟩ := get_el hlt
        obtain ⟨⟨f', l'⟩, hyk, _⟩ := get_el (show k < ys.length by omega)
        obtain ⟨ad, sv, rfl, ha, d0, d1, hi⟩ := HC.out k _ hxk
        obtain ⟨ad', sv', rfl, ha', d0', d1', hi'⟩ := HC'.out k _ hyk
        simp only at d0 d1 hi d0' d1' hi'
        obtain ⟨As, cs, rfl, _⟩ := id hi
        obtain ⟨As', cs', rfl, _⟩ := id hi'
        obtain ⟨e0, e1⟩ := map_cells hbel ha d0 d1
        obtain ⟨g0, g1⟩ := map_cells hbel ha' d0' d1'
        have HI : Hid (∀ V, Below wr.heap.size wr V → Calls Tryz.prog 31 #[.slice As l.length cs, .slice As' l'.length cs'] V fun e V' => e = .returned (.bool (decide (l = l'))) ∧ Below V.heap.size V V') :=
          Lib.hid fun V hV => same_any _ _ l l' V ((hi.later hbel).later hV) ((hi'.later hbel).later hV)
        have HX := Lib.hid hxk
        have HY := Lib.hid hyk
        have m0 := cell_regrown e0
        have m1 := cell_regrown e1
        have n0 := cell_regrown g0
        have n1 := cell_regrown g1
        clear d0 d1 d0' d1' hxk hyk ha ha' e0 e1 g0 g1 hi hi'
        have k0 : (0 : Int) ≤ (k : Int) := by omega
        have k1 : (k : Int) < (xs.length : Int) := by omega
        have k2 : (k : Int) < (ys.length : Int) := by omega
        by_cases hff : f = f'
        · have hb2 : (f != f') = false := by rw [hff]; simp
          by_cases hll : l = l'
          · have hdl : decide (l = l') = true := by rw [decide_eq_true_iff]; exact hll
            rw [hdl] at HI
            have HT := Lib.hid (same_stepM HS.out HX.out (by rw [hff, hll]; exact HY.out))
            clear hff hll hdl
            go_wp2_with fail
            refine wp_region_quiet_below (by kernel_rfl) (by kernel_rfl) ?_
            repeat (go_big_quiet_step ((go_at_call 31; exact quiet_t HI.out)))
            refine wpQuiet_nil ?_
            rintro _ ⟨⟨dq, osq⟩, rfl⟩
            have hb9 := below_next hbel (below_regrown wr dq osq)
            generalize Go.Sort.grow (redrawn wr dq) osq = wB at *
            clear m0 m1 n0 n1
            go_wp2_with fail
            go_roundw
            case rel => exact ⟨k + 1, by omega, by go_num, HT, hb9⟩
            case measure => simp [intOf]; omega
          · have hdl : decide (l = l') = false := by rw [decide_eq_false_iff_not]; exact hll
            rw [hdl] at HI
            have HN : Hid (R = false) := by
              refine Lib.hid ?_
              rw [HR.out, decide_eq_false_iff_not]
              rintro rfl
              have := HX.out.symm.trans HY.out
              simp at this
              exact hll this.2
            clear hff hll hdl
            go_wp2_with fail
            refine wp_region_quiet_below (by kernel_rfl) (by kernel_rfl) ?_
            repeat (go_big_quiet_step ((go_at_call 31; exact quiet_t HI.out)))
            refine wpQuiet_nil ?_
            rintro _ ⟨⟨dq, osq⟩, rfl⟩
            have hb9 := below_next hbel (below_regrown wr dq osq)
            generalize Go.Sort.grow (redrawn wr dq) osq = wB at *
            clear m0 m1 n0 n1
            go_wp2_with fail
            go_ret
            rw [HN.out]
            exact ⟨rfl, hb9⟩
        · have hb2 : (f != f') = true := by rw [bne_iff_ne]; exact hff
          have HN : Hid (R = false) := by
            refine Lib.hid ?_
            rw [HR.out, decide_eq_false_iff_not]
            rintro rfl
            have := HX.out.symm.trans HY.out
            simp at this
            exact hff this.1
          clear hff
          go_wp2_with fail
          refine wp_region_quiet_below (by kernel_rfl) (by kernel_rfl) ?_
          repeat (go_big_quiet_step (fail))
          refine wpQuiet_nil ?_
          rintro _ ⟨⟨dq, osq⟩, rfl⟩
          have hb9 := below_next hbel (below_regrown wr dq osq)
          generalize Go.Sort.grow (redrawn wr dq) osq = wB at *
          clear m0 m1 n0 n1
          go_wp2_with fail
          go_ret
          rw [HN.out]
          exact ⟨rfl, hb9⟩
      · have HN : Hid (R = true) := by
          refine Lib.hid ?_
          rw [HR.out, decide_eq_true_iff]
          have h := HS.out
          rw [List.take_of_length_le (by omega), List.take_of_length_le (by omega)] at h
          exact h
        go_wp2_with fail
        go_ret
        rw [HN.out]
        exact ⟨rfl, hbel⟩
  · have hb : ((xs.length : Int) != (ys.length : Int)) = true := by rw [bne_iff_ne]; omega
    have HN : Hid (decide (xs = ys) = false) := by
      refine Lib.hid ?_
      rw [decide_eq_false_iff_not]
      rintro rfl
      exact hlen rfl
    clear hlen
    go_enter Tryz.func42, Tryz.ntmps42
    go_wp2_with fail
    go_ret
    rw [HN.out]
    exact ⟨rfl, Below.refl _ _⟩

/-- What SameTables says. -/
def sameT (A B : Tab) : Bool := decide (A.category = B.category) && (decide (A.cls = B.cls) && (decide (A.joining = B.joining) && (decide (A.bidi = B.bidi) && (decide (A.script = B.script) && (decide (A.status = B.status) && (decide (A.ignorable = B.ignorable) && (decide (A.extensions = B.extensions) && (decide (A.maps = B.maps) && (decide (A.decomps = B.decomps) && (decide (A.prototypes = B.prototypes) && (decide (A.excluded = B.excluded))))))))))))
theorem sameT_iff {A B : Tab} : sameT A B = true ↔ A = B := by
  obtain ⟨a0, a1, a2, a3, a4, a5, a6, a7, a8, a9, a10, a11⟩ := A
  obtain ⟨b0, b1, b2, b3, b4, b5, b6, b7, b8, b9, b10, b11⟩ := B
  simp only [sameT, Bool.and_eq_true, decide_eq_true_eq, Tab.mk.injEq]
  constructor
  · rintro ⟨h0, h1, h2, h3, h4, h5, h6, h7, h8, h9, h11, h10⟩
    exact ⟨h0, h1, h2, h3, h4, h5, h6, h7, h8, h9, h10, h11⟩
  · rintro ⟨h0, h1, h2, h3, h4, h5, h6, h7, h8, h9, h10, h11⟩
    exact ⟨h0, h1, h2, h3, h4, h5, h6, h7, h8, h9, h11, h10⟩

set_option maxRecDepth 100000 in
set_option maxHeartbeats 20000000 in
theorem sameTables_any (t u : Tv) (A B : Tab) (w : World) (ht : TabR w w.heap.size t A) (hu : TabR w w.heap.size u B) :
    Calls Tryz.prog 14 #[t.val, u.val] w fun e w' => e = .returned (.bool (sameT A B)) ∧ Below w.heap.size w w' := by
  have HA := Lib.hid (fun W (h : Below w.heap.size w W) => ht.later h)
  have HB := Lib.hid (fun W (h : Below w.heap.size w W) => hu.later h)
  have HK : Hid (Blk ((w.alloc (.cells t.cells 29)).alloc (.cells u.cells 29)) w.heap.size 29 t.cells) := Lib.hid ((Blk.new w _ _).alloc _)
  have HL : Hid (Blk ((w.alloc (.cells t.cells 29)).alloc (.cells u.cells 29)) (w.heap.size + 1) 29 u.cells) := Lib.hid (by
    have h := Blk.new (w.alloc (.cells t.cells 29)) 29 u.cells
    simpa using h)
  have HW0 : Hid (Below w.heap.size w ((w.alloc (.cells t.cells 29)).alloc (.cells u.cells 29))) := Lib.hid (((Below.refl _ _).alloc (Nat.le_refl _) _).alloc (by simp) _)
  obtain ⟨R, hR⟩ : ∃ R, R = sameT A B := ⟨_, rfl⟩
  rw [← hR]
  have HR := Lib.hid hR
  clear ht hu hR
  obtain ⟨c0, c1, c2, c3, c4, c5, c6, c7, c8, c9, c10, c11⟩ := t
  obtain ⟨d0, d1, d2, d3, d4, d5, d6, d7, d8, d9, d10, d11⟩ := u
  go_enter Tryz.func14, Tryz.ntmps14
  go_wp2_with fail
  generalize (w.alloc (.cells #[c0, c1, c2, c3, c4, c5, c6, c7, c8, c9, c10, c11] 29)).alloc (.cells #[d0, d1, d2, d3, d4, d5, d6, d7, d8, d9, d10, d11] 29) = w0 at *
  refine (sameSpans_any _ _ A.category B.category _ (HA.out _ HW0.out).r0 (HB.out _ HW0.out).r0).mono ?_
  rintro e w1 ⟨rfl, bl⟩
  have HW1 := Lib.hid (below_next HW0.out bl)
  obtain ⟨b, H0⟩ : ∃ b, Hid (decide (A.category = B.category) = b) := ⟨_, Lib.hid rfl⟩
  rw [H0.out]
  have HKn := Lib.hid (HK.out.later bl)
  have HLn := Lib.hid (HL.out.later bl)
  clear HK HL bl
  have HK := HKn
  have HL := HLn
  clear HKn HLn
  have x := HK.out.at_ (i := 1) (u := c1) rfl
  have y := HL.out.at_ (i := 1) (u := d1) rfl
  cases b
  case false =>
    go_wp2_with fail
    go_ret
    rw [show R = false from by rw [HR.out]; simp only [sameT, H0.out, Bool.false_and]]
    exact ⟨rfl, HW1.out⟩
  go_wp2_with fail
  clear x y
  refine (sameSpans_any _ _ A.cls B.cls _ (HA.out _ HW1.out).r1 (HB.out _ HW1.out).r1).mono ?_
  rintro e w2 ⟨rfl, bl⟩
  have HW2 := Lib.hid (below_next HW1.out bl)
  obtain ⟨b, H1⟩ : ∃ b, Hid (decide (A.cls = B.cls) = b) := ⟨_, Lib.hid rfl⟩
  rw [H1.out]
  have HKn := Lib.hid (HK.out.later bl)
  have HLn := Lib.hid (HL.out.later bl)
  clear HK HL bl
  have HK := HKn
  have HL := HLn
  clear HKn HLn
  have x := HK.out.at_ (i := 2) (u := c2) rfl
  have y := HL.out.at_ (i := 2) (u := d2) rfl
  cases b
  case false =>
    go_wp2_with fail
    go_ret
    rw [show R = false from by rw [HR.out]; simp only [sameT, H0.out, H1.out, Bool.true_and, Bool.false_and]]
    exact ⟨rfl, HW2.out⟩
  go_wp2_with fail
  clear x y
  refine (sameSpans_any _ _ A.joining B.joining _ (HA.out _ HW2.out).r2 (HB.out _ HW2.out).r2).mono ?_
  rintro e w3 ⟨rfl, bl⟩
  have HW3 := Lib.hid (below_next HW2.out bl)
  obtain ⟨b, H2⟩ : ∃ b, Hid (decide (A.joining = B.joining) = b) := ⟨_, Lib.hid rfl⟩
  rw [H2.out]
  have HKn := Lib.hid (HK.out.later bl)
  have HLn := Lib.hid (HL.out.later bl)
  clear HK HL bl
  have HK := HKn
  have HL := HLn
  clear HKn HLn
  have x := HK.out.at_ (i := 3) (u := c3) rfl
  have y := HL.out.at_ (i := 3) (u := d3) rfl
  cases b
  case false =>
    go_wp2_with fail
    go_ret
    rw [show R = false from by rw [HR.out]; simp only [sameT, H0.out, H1.out, H2.out, Bool.true_and, Bool.false_and]]
    exact ⟨rfl, HW3.out⟩
  go_wp2_with fail
  clear x y
  refine (sameSpans_any _ _ A.bidi B.bidi _ (HA.out _ HW3.out).r3 (HB.out _ HW3.out).r3).mono ?_
  rintro e w4 ⟨rfl, bl⟩
  have HW4 := Lib.hid (below_next HW3.out bl)
  obtain ⟨b, H3⟩ : ∃ b, Hid (decide (A.bidi = B.bidi) = b) := ⟨_, Lib.hid rfl⟩
  rw [H3.out]
  have HKn := Lib.hid (HK.out.later bl)
  have HLn := Lib.hid (HL.out.later bl)
  clear HK HL bl
  have HK := HKn
  have HL := HLn
  clear HKn HLn
  have x := HK.out.at_ (i := 4) (u := c4) rfl
  have y := HL.out.at_ (i := 4) (u := d4) rfl
  cases b
  case false =>
    go_wp2_with fail
    go_ret
    rw [show R = false from by rw [HR.out]; simp only [sameT, H0.out, H1.out, H2.out, H3.out, Bool.true_and, Bool.false_and]]
    exact ⟨rfl, HW4.out⟩
  go_wp2_with fail
  clear x y
  refine (sameSpans_any _ _ A.script B.script _ (HA.out _ HW4.out).r4 (HB.out _ HW4.out).r4).mono ?_
  rintro e w5 ⟨rfl, bl⟩
  have HW5 := Lib.hid (below_next HW4.out bl)
  obtain ⟨b, H4⟩ : ∃ b, Hid (decide (A.script = B.script) = b) := ⟨_, Lib.hid rfl⟩
  rw [H4.out]
  have HKn := Lib.hid (HK.out.later bl)
  have HLn := Lib.hid (HL.out.later bl)
  clear HK HL bl
  have HK := HKn
  have HL := HLn
  clear HKn HLn
  have x := HK.out.at_ (i := 5) (u := c5) rfl
  have y := HL.out.at_ (i := 5) (u := d5) rfl
  cases b
  case false =>
    go_wp2_with fail
    go_ret
    rw [show R = false from by rw [HR.out]; simp only [sameT, H0.out, H1.out, H2.out, H3.out, H4.out, Bool.true_and, Bool.false_and]]
    exact ⟨rfl, HW5.out⟩
  go_wp2_with fail
  clear x y
  refine (sameSpans_any _ _ A.status B.status _ (HA.out _ HW5.out).r5 (HB.out _ HW5.out).r5).mono ?_
  rintro e w6 ⟨rfl, bl⟩
  have HW6 := Lib.hid (below_next HW5.out bl)
  obtain ⟨b, H5⟩ : ∃ b, Hid (decide (A.status = B.status) = b) := ⟨_, Lib.hid rfl⟩
  rw [H5.out]
  have HKn := Lib.hid (HK.out.later bl)
  have HLn := Lib.hid (HL.out.later bl)
  clear HK HL bl
  have HK := HKn
  have HL := HLn
  clear HKn HLn
  have x := HK.out.at_ (i := 6) (u := c6) rfl
  have y := HL.out.at_ (i := 6) (u := d6) rfl
  cases b
  case false =>
    go_wp2_with fail
    go_ret
    rw [show R = false from by rw [HR.out]; simp only [sameT, H0.out, H1.out, H2.out, H3.out, H4.out, H5.out, Bool.true_and, Bool.false_and]]
    exact ⟨rfl, HW6.out⟩
  go_wp2_with fail
  clear x y
  refine (sameSpans_any _ _ A.ignorable B.ignorable _ (HA.out _ HW6.out).r6 (HB.out _ HW6.out).r6).mono ?_
  rintro e w7 ⟨rfl, bl⟩
  have HW7 := Lib.hid (below_next HW6.out bl)
  obtain ⟨b, H6⟩ : ∃ b, Hid (decide (A.ignorable = B.ignorable) = b) := ⟨_, Lib.hid rfl⟩
  rw [H6.out]
  have HKn := Lib.hid (HK.out.later bl)
  have HLn := Lib.hid (HL.out.later bl)
  clear HK HL bl
  have HK := HKn
  have HL := HLn
  clear HKn HLn
  have x := HK.out.at_ (i := 7) (u := c7) rfl
  have y := HL.out.at_ (i := 7) (u := d7) rfl
  cases b
  case false =>
    go_wp2_with fail
    go_ret
    rw [show R = false from by rw [HR.out]; simp only [sameT, H0.out, H1.out, H2.out, H3.out, H4.out, H5.out, H6.out, Bool.true_and, Bool.false_and]]
    exact ⟨rfl, HW7.out⟩
  go_wp2_with fail
  clear x y
  refine (sameMappings_any _ _ A.extensions B.extensions _ (HA.out _ HW7.out).r7 (HB.out _ HW7.out).r7).mono ?_
  rintro e w8 ⟨rfl, bl⟩
  have HW8 := Lib.hid (below_next HW7.out bl)
  obtain ⟨b, H7⟩ : ∃ b, Hid (decide (A.extensions = B.extensions) = b) := ⟨_, Lib.hid rfl⟩
  rw [H7.out]
  have HKn := Lib.hid (HK.out.later bl)
  have HLn := Lib.hid (HL.out.later bl)
  clear HK HL bl
  have HK := HKn
  have HL := HLn
  clear HKn HLn
  have x := HK.out.at_ (i := 8) (u := c8) rfl
  have y := HL.out.at_ (i := 8) (u := d8) rfl
  cases b
  case false =>
    go_wp2_with fail
    go_ret
    rw [show R = false from by rw [HR.out]; simp only [sameT, H0.out, H1.out, H2.out, H3.out, H4.out, H5.out, H6.out, H7.out, Bool.true_and, Bool.false_and]]
    exact ⟨rfl, HW8.out⟩
  go_wp2_with fail
  clear x y
  refine (sameMappings_any _ _ A.maps B.maps _ (HA.out _ HW8.out).r8 (HB.out _ HW8.out).r8).mono ?_
  rintro e w9 ⟨rfl, bl⟩
  have HW9 := Lib.hid (below_next HW8.out bl)
  obtain ⟨b, H8⟩ : ∃ b, Hid (decide (A.maps = B.maps) = b) := ⟨_, Lib.hid rfl⟩
  rw [H8.out]
  have HKn := Lib.hid (HK.out.later bl)
  have HLn := Lib.hid (HL.out.later bl)
  clear HK HL bl
  have HK := HKn
  have HL := HLn
  clear HKn HLn
  have x := HK.out.at_ (i := 9) (u := c9) rfl
  have y := HL.out.at_ (i := 9) (u := d9) rfl
  cases b
  case false =>
    go_wp2_with fail
    go_ret
    rw [show R = false from by rw [HR.out]; simp only [sameT, H0.out, H1.out, H2.out, H3.out, H4.out, H5.out, H6.out, H7.out, H8.out, Bool.true_and, Bool.false_and]]
    exact ⟨rfl, HW9.out⟩
  go_wp2_with fail
  clear x y
  refine (sameMappings_any _ _ A.decomps B.decomps _ (HA.out _ HW9.out).r9 (HB.out _ HW9.out).r9).mono ?_
  rintro e w10 ⟨rfl, bl⟩
  have HW10 := Lib.hid (below_next HW9.out bl)
  obtain ⟨b, H9⟩ : ∃ b, Hid (decide (A.decomps = B.decomps) = b) := ⟨_, Lib.hid rfl⟩
  rw [H9.out]
  have HKn := Lib.hid (HK.out.later bl)
  have HLn := Lib.hid (HL.out.later bl)
  clear HK HL bl
  have HK := HKn
  have HL := HLn
  clear HKn HLn
  have x := HK.out.at_ (i := 11) (u := c11) rfl
  have y := HL.out.at_ (i := 11) (u := d11) rfl
  cases b
  case false =>
    go_wp2_with fail
    go_ret
    rw [show R = false from by rw [HR.out]; simp only [sameT, H0.out, H1.out, H2.out, H3.out, H4.out, H5.out, H6.out, H7.out, H8.out, H9.out, Bool.true_and, Bool.false_and]]
    exact ⟨rfl, HW10.out⟩
  go_wp2_with fail
  clear x y
  refine (sameMappings_any _ _ A.prototypes B.prototypes _ (HA.out _ HW10.out).r11 (HB.out _ HW10.out).r11).mono ?_
  rintro e w11 ⟨rfl, bl⟩
  have HW11 := Lib.hid (below_next HW10.out bl)
  obtain ⟨b, H10⟩ : ∃ b, Hid (decide (A.prototypes = B.prototypes) = b) := ⟨_, Lib.hid rfl⟩
  rw [H10.out]
  have HKn := Lib.hid (HK.out.later bl)
  have HLn := Lib.hid (HL.out.later bl)
  clear HK HL bl
  have HK := HKn
  have HL := HLn
  clear HKn HLn
  have x := HK.out.at_ (i := 10) (u := c10) rfl
  have y := HL.out.at_ (i := 10) (u := d10) rfl
  cases b
  case false =>
    go_wp2_with fail
    go_ret
    rw [show R = false from by rw [HR.out]; simp only [sameT, H0.out, H1.out, H2.out, H3.out, H4.out, H5.out, H6.out, H7.out, H8.out, H9.out, H10.out, Bool.true_and, Bool.false_and]]
    exact ⟨rfl, HW11.out⟩
  go_wp2_with fail
  clear x y
  refine (same_any _ _ A.excluded B.excluded _ (HA.out _ HW11.out).r10 (HB.out _ HW11.out).r10).mono ?_
  rintro e w12 ⟨rfl, bl⟩
  have HW12 := Lib.hid (below_next HW11.out bl)
  obtain ⟨b, H11⟩ : ∃ b, Hid (decide (A.excluded = B.excluded) = b) := ⟨_, Lib.hid rfl⟩
  rw [H11.out]
  go_wp2_with fail
  go_ret
  rw [show R = b from by rw [HR.out]; simp only [sameT, H0.out, H1.out, H2.out, H3.out, H4.out, H5.out, H6.out, H7.out, H8.out, H9.out, H10.out, H11.out, Bool.true_and]]
  exact ⟨rfl, HW12.out⟩
end Go.Proofs.YtikcfoobfobmnaaGreatDoor
