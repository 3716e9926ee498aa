/-
  Merged texts: lemmas and walks that the last text of this claim leans on.
-/
import Derived.Test.YtjigjjbhdgpfjaaGreatDoorMgB741
import Derived.Test.YtjigjjbhdgpfjaaGreatDoorMgB740
import Derived.Test.YtjigjjbhdgpfjaaGreatDoorMgB731
/-
  The walks through Rule and RTL of the reference.
-/
namespace Go.Proofs.YtjigjjbhdgpfjaaGreatDoor
open Go.RowKit ND

set_option maxRecDepth 100000 in
set_option maxHeartbeats 4000000 in
theorem refRule_any (t : Tv) (T : Tab) (v : Value) (xs : List Int) (w : World) (ht : TabR w w.heap.size t T) (hv : Ints w w.heap.size .i64 v xs) :
    Calls Tryz.prog 19 #[t.val, v] w fun e w' => e = .returned (.tuple #[.int .i64 (ruleR T xs).1, .int .i64 (ruleR T xs).2]) ∧ Below w.heap.size w w' := by
  obtain ⟨A, c, rfl, _⟩ := id hv
  have HB0 : Hid (Below w.heap.size w (w.alloc (.cells t.cells 26))) := Lib.hid ((Below.refl _ _).alloc (Nat.le_refl _) _)
  have HT : Hid (Tbl (w.alloc (.cells t.cells 26)) w.heap.size t T) := Lib.hid ⟨Blk.new _ _ _, ht.later HB0.out⟩
  have HV := Lib.hid (hv.later HB0.out)
  clear ht hv
  have HO := Lib.hid (refAccept_any t T _ xs _ HT.out.2 HV.out)
  by_cases h0 : accE T xs = 0
  · have hck := (accE_zero h0).1
    have HE : Hid (ruleR T xs = (ruleL T xs, 0)) := Lib.hid (by unfold ruleR; rw [if_pos h0])
    rw [HE.out]
    rw [h0] at HO
    clear h0 HE
    cases xs with
    | nil =>
      show Calls _ _ _ _ fun e w' => e = .returned (.tuple #[.int .i64 0, .int .i64 0]) ∧ _
      clear hck
      go_enter Tryz.func19, Tryz.ntmps19
      go_upto_region 1 with fail
      generalize w.alloc (.cells t.cells 26) = w1 at *
      obtain ⟨x0, x1, x2, x3, x4, x5, x6, x7, x8, x9, x10, x11⟩ := HT.out.1.tab
      go_wp2_with (go_at_call 43; refine HO.out.mono ?_; rintro e w2 ⟨rfl, b2⟩)
      go_ret2
      exact ⟨rfl, below_next HB0.out b2⟩
    | cons x r =>
      show Calls _ _ _ _ fun e w' => e = .returned (.tuple #[.int .i64 (ruleL T (x :: r)), .int .i64 0]) ∧ _
      rw [ruleL_bits]
      have hsh := shape_of hck
      have HC : Hid (∀ (V : World), Below (w.alloc (.cells t.cells 26)).heap.size (w.alloc (.cells t.cells 26)) V → Calls Tryz.prog 46 #[.agg #[t.c0, t.c1, t.c2, t.c3, t.c4, t.c5, t.c6, t.c7, t.c8, t.c9, t.c10, t.c11], .int .i64 x] V fun e V' => e = .returned (.int .i64 (T.bidiOf x)) ∧ Below V.heap.size V V') := Lib.hid fun V hV => refBidi_any t T x V (HT.out.later hV).2 hsh.c3
      have HLA : Hid (∀ (V : World), Below (w.alloc (.cells t.cells 26)).heap.size (w.alloc (.cells t.cells 26)) V → Calls Tryz.prog 45 #[.agg #[t.c0, t.c1, t.c2, t.c3, t.c4, t.c5, t.c6, t.c7, t.c8, t.c9, t.c10, t.c11], .slice A (x :: r).length c] V fun e V' => e = .returned (.int .i64 (lastB T (x :: r))) ∧ Below V.heap.size V V') := Lib.hid fun V hV => refLast_any t T _ _ V (HT.out.later hV).2 hck (HV.out.later hV)
      have HA2 : Hid (∀ (W : World), Below (w.alloc (.cells t.cells 26)).heap.size (w.alloc (.cells t.cells 26)) W → Calls Tryz.prog 44 #[.agg #[t.c0, t.c1, t.c2, t.c3, t.c4, t.c5, t.c6, t.c7, t.c8, t.c9, t.c10, t.c11], .slice A (x :: r).length c, .slice (some ⟨W.heap.size, 0, none⟩) 2 2] (W.alloc (.cells #[.int .i64 0, .int .i64 11] 3)) fun e w' => e = .returned (.bool (anyB T (x :: r) [0, 11])) ∧ Below W.heap.size W w') := Lib.hid fun W h => by
        have hb : Below W.heap.size W (W.alloc (.cells #[.int .i64 0, .int .i64 11] 3)) := (Below.refl _ _).alloc (Nat.le_refl _) _
        refine (refAny_any t T _ _ _ [0, 11] _ (HT.out.later (below_next h hb)).2 hck (HV.out.later (below_next h hb)) (by have h := Ints.of_own (own_new W 3 [0, 11] (by simp)); simpa using h)).mono fun e w' ⟨he, h2⟩ => ⟨he, below_next hb h2⟩
      have HA4 : Hid (∀ (W : World), Below (w.alloc (.cells t.cells 26)).heap.size (w.alloc (.cells t.cells 26)) W → Calls Tryz.prog 44 #[.agg #[t.c0, t.c1, t.c2, t.c3, t.c4, t.c5, t.c6, t.c7, t.c8, t.c9, t.c10, t.c11], .slice A (x :: r).length c, .slice (some ⟨W.heap.size, 0, none⟩) 1 1] (W.alloc (.cells #[.int .i64 4] 3)) fun e w' => e = .returned (.bool (anyB T (x :: r) [4])) ∧ Below W.heap.size W w') := Lib.hid fun W h => by
        have hb : Below W.heap.size W (W.alloc (.cells #[.int .i64 4] 3)) := (Below.refl _ _).alloc (Nat.le_refl _) _
        refine (refAny_any t T _ _ _ [4] _ (HT.out.later (below_next h hb)).2 hck (HV.out.later (below_next h hb)) (by have h := Ints.of_own (own_new W 3 [4] (by simp)); simpa using h)).mono fun e w' ⟨he, h2⟩ => ⟨he, below_next hb h2⟩
      have HA5 : Hid (∀ (W : World), Below (w.alloc (.cells t.cells 26)).heap.size (w.alloc (.cells t.cells 26)) W → Calls Tryz.prog 44 #[.agg #[t.c0, t.c1, t.c2, t.c3, t.c4, t.c5, t.c6, t.c7, t.c8, t.c9, t.c10, t.c11], .slice A (x :: r).length c, .slice (some ⟨W.heap.size, 0, none⟩) 1 1] (W.alloc (.cells #[.int .i64 3] 3)) fun e w' => e = .returned (.bool (anyB T (x :: r) [3])) ∧ Below W.heap.size W w') := Lib.hid fun W h => by
        have hb : Below W.heap.size W (W.alloc (.cells #[.int .i64 3] 3)) := (Below.refl _ _).alloc (Nat.le_refl _) _
        refine (refAny_any t T _ _ _ [3] _ (HT.out.later (below_next h hb)).2 hck (HV.out.later (below_next h hb)) (by have h := Ints.of_own (own_new W 3 [3] (by simp)); simpa using h)).mono fun e w' ⟨he, h2⟩ => ⟨he, below_next hb h2⟩
      have HA7 : Hid (∀ (W : World), Below (w.alloc (.cells t.cells 26)).heap.size (w.alloc (.cells t.cells 26)) W → Calls Tryz.prog 44 #[.agg #[t.c0, t.c1, t.c2, t.c3, t.c4, t.c5, t.c6, t.c7, t.c8, t.c9, t.c10, t.c11], .slice A (x :: r).length c, .slice (some ⟨W.heap.size, 0, none⟩) 4 4] (W.alloc (.cells #[.int .i64 1, .int .i64 2, .int .i64 3, .int .i64 11] 3)) fun e w' => e = .returned (.bool (anyB T (x :: r) [1, 2, 3, 11])) ∧ Below W.heap.size W w') := Lib.hid fun W h => by
        have hb : Below W.heap.size W (W.alloc (.cells #[.int .i64 1, .int .i64 2, .int .i64 3, .int .i64 11] 3)) := (Below.refl _ _).alloc (Nat.le_refl _) _
        refine (refAny_any t T _ _ _ [1, 2, 3, 11] _ (HT.out.later (below_next h hb)).2 hck (HV.out.later (below_next h hb)) (by have h := Ints.of_own (own_new W 3 [1, 2, 3, 11] (by simp)); simpa using h)).mono fun e w' ⟨he, h2⟩ => ⟨he, below_next hb h2⟩
      obtain ⟨ad, rfl, ha, hce⟩ : ∃ ad, A = some ad ∧ ad.block < (w.alloc (.cells t.cells 26)).heap.size ∧ (w.alloc (.cells t.cells 26)).cell? ad = some (.int .i64 x) := by
        obtain ⟨_, _, hve, _, _, _, hcell⟩ := HV.out
        cases hve
        obtain ⟨ad, e, ha, hc⟩ := hcell 0 x rfl
        exact ⟨ad, e, ha, by simpa [Addr.add] using hc⟩
      have hpos : (0 : Int) < ((x :: r).length : Int) := by simp <;> omega
      have hne : (((x :: r).length : Int) == 0) = false := by simp <;> omega
      clear hck hsh
      generalize lastB T (x :: r) = z at *
      generalize anyB T (x :: r) [0, 11] = b2 at *
      generalize anyB T (x :: r) [4] = b4 at *
      generalize anyB T (x :: r) [3] = b5 at *
      generalize anyB T (x :: r) [1, 2, 3, 11] = b7 at *
      generalize T.bidiOf x = kx at *
      generalize (x :: r).length = ln at *
      go_enter Tryz.func19, Tryz.ntmps19
      go_upto_region 1 with fail
      generalize w.alloc (.cells t.cells 26) = w1 at *
      obtain ⟨x0, x1, x2, x3, x4, x5, x6, x7, x8, x9, x10, x11⟩ := HT.out.1.tab
      go_upto_region 4 with (go_at_call 43; refine HO.out.mono ?_; rintro e w2 ⟨rfl, b2⟩)
      clear x0 x1 x2 x3 x4 x5 x6 x7 x8 x9 x10 x11
      obtain ⟨x0, x1, x2, x3, x4, x5, x6, x7, x8, x9, x10, x11⟩ := (HT.out.later b2).1.tab
      go_upto_region 5 with (go_at_call 45; refine (HLA.out _ b2).mono ?_; rintro e w3 ⟨rfl, b3⟩)
      clear x0 x1 x2 x3 x4 x5 x6 x7 x8 x9 x10 x11
      have B3 := Lib.hid (below_next b2 b3)
      have e1 := cell_regrown ((B3.out.cell (p := ad) ha).trans hce)
      have HC3 : Hid (∀ (V : World), Below w3.heap.size w3 V → Calls Tryz.prog 46 #[.agg #[t.c0, t.c1, t.c2, t.c3, t.c4, t.c5, t.c6, t.c7, t.c8, t.c9, t.c10, t.c11], .int .i64 x] V fun e V' => e = .returned (.int .i64 kx) ∧ Below V.heap.size V V') := Lib.hid fun V hV => HC.out V (below_next B3.out hV)
      clear hce ha b2 b3
      obtain ⟨x0, x1, x2, x3, x4, x5, x6, x7, x8, x9, x10, x11⟩ := (HT.out.later B3.out).1.tabG
      refine wp_region_quiet_below (by kernel_rfl) (by kernel_rfl) ?_
      repeat (go_big_quiet_step (first | (go_at_call 46; with_reducible exact quiet_t HC3.out)))
      refine wpQuiet_nil ?_
      rintro _ ⟨⟨dq, osq⟩, rfl⟩
      have bq := below_regrown w3 dq osq
      clear x0 x1 x2 x3 x4 x5 x6 x7 x8 x9 x10 x11 e1 HC HC3 HLA
      have HBc := Lib.hid (below_next B3.out bq)
      generalize Go.Sort.grow (redrawn w3 dq) osq = w5 at *
      clear bq B3
      obtain ⟨x0, x1, x2, x3, x4, x5, x6, x7, x8, x9, x10, x11⟩ := (HT.out.later HBc.out).1.tab
      have HX : Hid (∀ V, Below w1.heap.size w1 V → V.cell? ⟨w.heap.size, 0, none⟩ = some t.c0 ∧ V.cell? ⟨w.heap.size, 1, none⟩ = some t.c1 ∧ V.cell? ⟨w.heap.size, 2, none⟩ = some t.c2 ∧ V.cell? ⟨w.heap.size, 3, none⟩ = some t.c3 ∧ V.cell? ⟨w.heap.size, 4, none⟩ = some t.c4 ∧ V.cell? ⟨w.heap.size, 5, none⟩ = some t.c5 ∧ V.cell? ⟨w.heap.size, 6, none⟩ = some t.c6 ∧ V.cell? ⟨w.heap.size, 7, none⟩ = some t.c7 ∧ V.cell? ⟨w.heap.size, 8, none⟩ = some t.c8 ∧ V.cell? ⟨w.heap.size, 9, none⟩ = some t.c9 ∧ V.cell? ⟨w.heap.size, 10, none⟩ = some t.c10 ∧ V.cell? ⟨w.heap.size, 11, none⟩ = some t.c11) := Lib.hid fun V hV => (HT.out.later hV).1.tab
      rcases (by omega : kx = 1 ∨ kx = 2 ∨ kx = 0 ∨ (kx ≠ 0 ∧ kx ≠ 1 ∧ kx ≠ 2)) with rfl | rfl | rfl | ⟨m0, m1, m2⟩
      · cases b2
        · rcases (by omega : z = 1 ∨ z = 2 ∨ z = 4 ∨ z = 3 ∨ (z ≠ 1 ∧ z ≠ 2 ∧ z ≠ 4 ∧ z ≠ 3)) with rfl | rfl | rfl | rfl | ⟨n0, n1, n2, n3⟩
          · cases b4
            · go_wp2_with (first | (go_at_call 44; ((with_reducible refine (HA2.out _ HBc.out).mono ?_); rintro e w6 ⟨rfl, b6⟩; have HBn := Lib.hid (below_next HBc.out b6); clear HBc; have HBc := HBn; clear HBn b6; obtain ⟨x0, x1, x2, x3, x4, x5, x6, x7, x8, x9, x10, x11⟩ := HX.out _ HBc.out)) | (go_at_call 44; ((with_reducible refine (HA4.out _ HBc.out).mono ?_); rintro e w6 ⟨rfl, b6⟩; have HBn := Lib.hid (below_next HBc.out b6); clear HBc; have HBc := HBn; clear HBn b6; obtain ⟨x0, x1, x2, x3, x4, x5, x6, x7, x8, x9, x10, x11⟩ := HX.out _ HBc.out)) | (go_at_call 44; ((with_reducible refine (HA5.out _ HBc.out).mono ?_); rintro e w6 ⟨rfl, b6⟩; have HBn := Lib.hid (below_next HBc.out b6); clear HBc; have HBc := HBn; clear HBn b6; obtain ⟨x0, x1, x2, x3, x4, x5, x6, x7, x8, x9, x10, x11⟩ := HX.out _ HBc.out)) | (go_at_call 44; ((with_reducible refine (HA7.out _ HBc.out).mono ?_); rintro e w6 ⟨rfl, b6⟩; have HBn := Lib.hid (below_next HBc.out b6); clear HBc; have HBc := HBn; clear HBn b6; obtain ⟨x0, x1, x2, x3, x4, x5, x6, x7, x8, x9, x10, x11⟩ := HX.out _ HBc.out)))
              go_ret2
              exact ⟨by simp [ruleB, inB], below_next HB0.out HBc.out⟩
            · cases b5
              · go_wp2_with (first | (go_at_call 44; ((with_reducible refine (HA2.out _ HBc.out).mono ?_); rintro e w6 ⟨rfl, b6⟩; have HBn := Lib.hid (below_next HBc.out b6); clear HBc; have HBc := HBn; clear HBn b6; obtain ⟨x0, x1, x2, x3, x4, x5, x6, x7, x8, x9, x10, x11⟩ := HX.out _ HBc.out)) | (go_at_call 44; ((with_reducible refine (HA4.out _ HBc.out).mono ?_); rintro e w6 ⟨rfl, b6⟩; have HBn := Lib.hid (below_next HBc.out b6); clear HBc; have HBc := HBn; clear HBn b6; obtain ⟨x0, x1, x2, x3, x4, x5, x6, x7, x8, x9, x10, x11⟩ := HX.out _ HBc.out)) | (go_at_call 44; ((with_reducible refine (HA5.out _ HBc.out).mono ?_); rintro e w6 ⟨rfl, b6⟩; have HBn := Lib.hid (below_next HBc.out b6); clear HBc; have HBc := HBn; clear HBn b6; obtain ⟨x0, x1, x2, x3, x4, x5, x6, x7, x8, x9, x10, x11⟩ := HX.out _ HBc.out)) | (go_at_call 44; ((with_reducible refine (HA7.out _ HBc.out).mono ?_); rintro e w6 ⟨rfl, b6⟩; have HBn := Lib.hid (below_next HBc.out b6); clear HBc; have HBc := HBn; clear HBn b6; obtain ⟨x0, x1, x2, x3, x4, x5, x6, x7, x8, x9, x10, x11⟩ := HX.out _ HBc.out)))
                go_ret2
                exact ⟨by simp [ruleB, inB], below_next HB0.out HBc.out⟩
              · go_wp2_with (first | (go_at_call 44; ((with_reducible refine (HA2.out _ HBc.out).mono ?_); rintro e w6 ⟨rfl, b6⟩; have HBn := Lib.hid (below_next HBc.out b6); clear HBc; have HBc := HBn; clear HBn b6; obtain ⟨x0, x1, x2, x3, x4, x5, x6, x7, x8, x9, x10, x11⟩ := HX.out _ HBc.out)) | (go_at_call 44; ((with_reducible refine (HA4.out _ HBc.out).mono ?_); rintro e w6 ⟨rfl, b6⟩; have HBn := Lib.hid (below_next HBc.out b6); clear HBc; have HBc := HBn; clear HBn b6; obtain ⟨x0, x1, x2, x3, x4, x5, x6, x7, x8, x9, x10, x11⟩ := HX.out _ HBc.out)) | (go_at_call 44; ((with_reducible refine (HA5.out _ HBc.out).mono ?_); rintro e w6 ⟨rfl, b6⟩; have HBn := Lib.hid (below_next HBc.out b6); clear HBc; have HBc := HBn; clear HBn b6; obtain ⟨x0, x1, x2, x3, x4, x5, x6, x7, x8, x9, x10, x11⟩ := HX.out _ HBc.out)) | (go_at_call 44; ((with_reducible refine (HA7.out _ HBc.out).mono ?_); rintro e w6 ⟨rfl, b6⟩; have HBn := Lib.hid (below_next HBc.out b6); clear HBc; have HBc := HBn; clear HBn b6; obtain ⟨x0, x1, x2, x3, x4, x5, x6, x7, x8, x9, x10, x11⟩ := HX.out _ HBc.out)))
                go_ret2
                exact ⟨by simp [ruleB, inB], below_next HB0.out HBc.out⟩
          · cases b4
            · go_wp2_with (first | (go_at_call 44; ((with_reducible refine (HA2.out _ HBc.out).mono ?_); rintro e w6 ⟨rfl, b6⟩; have HBn := Lib.hid (below_next HBc.out b6); clear HBc; have HBc := HBn; clear HBn b6; obtain ⟨x0, x1, x2, x3, x4, x5, x6, x7, x8, x9, x10, x11⟩ := HX.out _ HBc.out)) | (go_at_call 44; ((with_reducible refine (HA4.out _ HBc.out).mono ?_); rintro e w6 ⟨rfl, b6⟩; have HBn := Lib.hid (below_next HBc.out b6); clear HBc; have HBc := HBn; clear HBn b6; obtain ⟨x0, x1, x2, x3, x4, x5, x6, x7, x8, x9, x10, x11⟩ := HX.out _ HBc.out)) | (go_at_call 44; ((with_reducible refine (HA5.out _ HBc.out).mono ?_); rintro e w6 ⟨rfl, b6⟩; have HBn := Lib.hid (below_next HBc.out b6); clear HBc; have HBc := HBn; clear HBn b6; obtain ⟨x0, x1, x2, x3, x4, x5, x6, x7, x8, x9, x10, x11⟩ := HX.out _ HBc.out)) | (go_at_call 44; ((with_reducible refine (HA7.out _ HBc.out).mono ?_); rintro e w6 ⟨rfl, b6⟩; have HBn := Lib.hid (below_next HBc.out b6); clear HBc; have HBc := HBn; clear HBn b6; obtain ⟨x0, x1, x2, x3, x4, x5, x6, x7, x8, x9, x10, x11⟩ := HX.out _ HBc.out)))
              go_ret2
              exact ⟨by simp [ruleB, inB], below_next HB0.out HBc.out⟩
            · cases b5
              · go_wp2_with (first | (go_at_call 44; ((with_reducible refine (HA2.out _ HBc.out).mono ?_); rintro e w6 ⟨rfl, b6⟩; have HBn := Lib.hid (below_next HBc.out b6); clear HBc; have HBc := HBn; clear HBn b6; obtain ⟨x0, x1, x2, x3, x4, x5, x6, x7, x8, x9, x10, x11⟩ := HX.out _ HBc.out)) | (go_at_call 44; ((with_reducible refine (HA4.out _ HBc.out).mono ?_); rintro e w6 ⟨rfl, b6⟩; have HBn := Lib.hid (below_next HBc.out b6); clear HBc; have HBc := HBn; clear HBn b6; obtain ⟨x0, x1, x2, x3, x4, x5, x6, x7, x8, x9, x10, x11⟩ := HX.out _ HBc.out)) | (go_at_call 44; ((with_reducible refine (HA5.out _ HBc.out).mono ?_); rintro e w6 ⟨rfl, b6⟩; have HBn := Lib.hid (below_next HBc.out b6); clear HBc; have HBc := HBn; clear HBn b6; obtain ⟨x0, x1, x2, x3, x4, x5, x6, x7, x8, x9, x10, x11⟩ := HX.out _ HBc.out)) | (go_at_call 44; ((with_reducible refine (HA7.out _ HBc.out).mono ?_); rintro e w6 ⟨rfl, b6⟩; have HBn := Lib.hid (below_next HBc.out b6); clear HBc; have HBc := HBn; clear HBn b6; obtain ⟨x0, x1, x2, x3, x4, x5, x6, x7, x8, x9, x10, x11⟩ := HX.out _ HBc.out)))
                go_ret2
                exact ⟨by simp [ruleB, inB], below_next HB0.out HBc.out⟩
              · go_wp2_with (first | (go_at_call 44; ((with_reducible refine (HA2.out _ HBc.out).mono ?_); rintro e w6 ⟨rfl, b6⟩; have HBn := Lib.hid (below_next HBc.out b6); clear HBc; have HBc := HBn; clear HBn b6; obtain ⟨x0, x1, x2, x3, x4, x5, x6, x7, x8, x9, x10, x11⟩ := HX.out _ HBc.out)) | (go_at_call 44; ((with_reducible refine (HA4.out _ HBc.out).mono ?_); rintro e w6 ⟨rfl, b6⟩; have HBn := Lib.hid (below_next HBc.out b6); clear HBc; have HBc := HBn; clear HBn b6; obtain ⟨x0, x1, x2, x3, x4, x5, x6, x7, x8, x9, x10, x11⟩ := HX.out _ HBc.out)) | (go_at_call 44; ((with_reducible refine (HA5.out _ HBc.out).mono ?_); rintro e w6 ⟨rfl, b6⟩; have HBn := Lib.hid (below_next HBc.out b6); clear HBc; have HBc := HBn; clear HBn b6; obtain ⟨x0, x1, x2, x3, x4, x5, x6, x7, x8, x9, x10, x11⟩ := HX.out _ HBc.out)) | (go_at_call 44; ((with_reducible refine (HA7.out _ HBc.out).mono ?_); rintro e w6 ⟨rfl, b6⟩; have HBn := Lib.hid (below_next HBc.out b6); clear HBc; have HBc := HBn; clear HBn b6; obtain ⟨x0, x1, x2, x3, x4, x5, x6, x7, x8, x9, x10, x11⟩ := HX.out _ HBc.out)))
                go_ret2
                exact ⟨by simp [ruleB, inB], below_next HB0.out HBc.out⟩
          · cases b4
            · go_wp2_with (first | (go_at_call 44; ((with_reducible refine (HA2.out _ HBc.out).mono ?_); rintro e w6 ⟨rfl, b6⟩; have HBn := Lib.hid (below_next HBc.out b6); clear HBc; have HBc := HBn; clear HBn b6; obtain ⟨x0, x1, x2, x3, x4, x5, x6, x7, x8, x9, x10, x11⟩ := HX.out _ HBc.out)) | (go_at_call 44; ((with_reducible refine (HA4.out _ HBc.out).mono ?_); rintro e w6 ⟨rfl, b6⟩; have HBn := Lib.hid (below_next HBc.out b6); clear HBc; have HBc := HBn; clear HBn b6; obtain ⟨x0, x1, x2, x3, x4, x5, x6, x7, x8, x9, x10, x11⟩ := HX.out _ HBc.out)) | (go_at_call 44; ((with_reducible refine (HA5.out _ HBc.out).mono ?_); rintro e w6 ⟨rfl, b6⟩; have HBn := Lib.hid (below_next HBc.out b6); clear HBc; have HBc := HBn; clear HBn b6; obtain ⟨x0, x1, x2, x3, x4, x5, x6, x7, x8, x9, x10, x11⟩ := HX.out _ HBc.out)) | (go_at_call 44; ((with_reducible refine (HA7.out _ HBc.out).mono ?_); rintro e w6 ⟨rfl, b6⟩; have HBn := Lib.hid (below_next HBc.out b6); clear HBc; have HBc := HBn; clear HBn b6; obtain ⟨x0, x1, x2, x3, x4, x5, x6, x7, x8, x9, x10, x11⟩ := HX.out _ HBc.out)))
              go_ret2
              exact ⟨by simp [ruleB, inB], below_next HB0.out HBc.out⟩
            · cases b5
              · go_wp2_with (first | (go_at_call 44; ((with_reducible refine (HA2.out _ HBc.out).mono ?_); rintro e w6 ⟨rfl, b6⟩; have HBn := Lib.hid (below_next HBc.out b6); clear HBc; have HBc := HBn; clear HBn b6; obtain ⟨x0, x1, x2, x3, x4, x5, x6, x7, x8, x9, x10, x11⟩ := HX.out _ HBc.out)) | (go_at_call 44; ((with_reducible refine (HA4.out _ HBc.out).mono ?_); rintro e w6 ⟨rfl, b6⟩; have HBn := Lib.hid (below_next HBc.out b6); clear HBc; have HBc := HBn; clear HBn b6; obtain ⟨x0, x1, x2, x3, x4, x5, x6, x7, x8, x9, x10, x11⟩ := HX.out _ HBc.out)) | (go_at_call 44; ((with_reducible refine (HA5.out _ HBc.out).mono ?_); rintro e w6 ⟨rfl, b6⟩; have HBn := Lib.hid (below_next HBc.out b6); clear HBc; have HBc := HBn; clear HBn b6; obtain ⟨x0, x1, x2, x3, x4, x5, x6, x7, x8, x9, x10, x11⟩ := HX.out _ HBc.out)) | (go_at_call 44; ((with_reducible refine (HA7.out _ HBc.out).mono ?_); rintro e w6 ⟨rfl, b6⟩; have HBn := Lib.hid (below_next HBc.out b6); clear HBc; have HBc := HBn; clear HBn b6; obtain ⟨x0, x1, x2, x3, x4, x5, x6, x7, x8, x9, x10, x11⟩ := HX.out _ HBc.out)))
                go_ret2
                exact ⟨by simp [ruleB, inB], below_next HB0.out HBc.out⟩
              · go_wp2_with (first | (go_at_call 44; ((with_reducible refine (HA2.out _ HBc.out).mono ?_); rintro e w6 ⟨rfl, b6⟩; have HBn := Lib.hid (below_next HBc.out b6); clear HBc; have HBc := HBn; clear HBn b6; obtain ⟨x0, x1, x2, x3, x4, x5, x6, x7, x8, x9, x10, x11⟩ := HX.out _ HBc.out)) | (go_at_call 44; ((with_reducible refine (HA4.out _ HBc.out).mono ?_); rintro e w6 ⟨rfl, b6⟩; have HBn := Lib.hid (below_next HBc.out b6); clear HBc; have HBc := HBn; clear HBn b6; obtain ⟨x0, x1, x2, x3, x4, x5, x6, x7, x8, x9, x10, x11⟩ := HX.out _ HBc.out)) | (go_at_call 44; ((with_reducible refine (HA5.out _ HBc.out).mono ?_); rintro e w6 ⟨rfl, b6⟩; have HBn := Lib.hid (below_next HBc.out b6); clear HBc; have HBc := HBn; clear HBn b6; obtain ⟨x0, x1, x2, x3, x4, x5, x6, x7, x8, x9, x10, x11⟩ := HX.out _ HBc.out)) | (go_at_call 44; ((with_reducible refine (HA7.out _ HBc.out).mono ?_); rintro e w6 ⟨rfl, b6⟩; have HBn := Lib.hid (below_next HBc.out b6); clear HBc; have HBc := HBn; clear HBn b6; obtain ⟨x0, x1, x2, x3, x4, x5, x6, x7, x8, x9, x10, x11⟩ := HX.out _ HBc.out)))
                go_ret2
                exact ⟨by simp [ruleB, inB], below_next HB0.out HBc.out⟩
          · cases b4
            · go_wp2_with (first | (go_at_call 44; ((with_reducible refine (HA2.out _ HBc.out).mono ?_); rintro e w6 ⟨rfl, b6⟩; have HBn := Lib.hid (below_next HBc.out b6); clear HBc; have HBc := HBn; clear HBn b6; obtain ⟨x0, x1, x2, x3, x4, x5, x6, x7, x8, x9, x10, x11⟩ := HX.out _ HBc.out)) | (go_at_call 44; ((with_reducible refine (HA4.out _ HBc.out).mono ?_); rintro e w6 ⟨rfl, b6⟩; have HBn := Lib.hid (below_next HBc.out b6); clear HBc; have HBc := HBn; clear HBn b6; obtain ⟨x0, x1, x2, x3, x4, x5, x6, x7, x8, x9, x10, x11⟩ := HX.out _ HBc.out)) | (go_at_call 44; ((with_reducible refine (HA5.out _ HBc.out).mono ?_); rintro e w6 ⟨rfl, b6⟩; have HBn := Lib.hid (below_next HBc.out b6); clear HBc; have HBc := HBn; clear HBn b6; obtain ⟨x0, x1, x2, x3, x4, x5, x6, x7, x8, x9, x10, x11⟩ := HX.out _ HBc.out)) | (go_at_call 44; ((with_reducible refine (HA7.out _ HBc.out).mono ?_); rintro e w6 ⟨rfl, b6⟩; have HBn := Lib.hid (below_next HBc.out b6); clear HBc; have HBc := HBn; clear HBn b6; obtain ⟨x0, x1, x2, x3, x4, x5, x6, x7, x8, x9, x10, x11⟩ := HX.out _ HBc.out)))
              go_ret2
              exact ⟨by simp [ruleB, inB], below_next HB0.out HBc.out⟩
            · cases b5
              · go_wp2_with (first | (go_at_call 44; ((with_reducible refine (HA2.out _ HBc.out).mono ?_); rintro e w6 ⟨rfl, b6⟩; have HBn := Lib.hid (below_next HBc.out b6); clear HBc; have HBc := HBn; clear HBn b6; obtain ⟨x0, x1, x2, x3, x4, x5, x6, x7, x8, x9, x10, x11⟩ := HX.out _ HBc.out)) | (go_at_call 44; ((with_reducible refine (HA4.out _ HBc.out).mono ?_); rintro e w6 ⟨rfl, b6⟩; have HBn := Lib.hid (below_next HBc.out b6); clear HBc; have HBc := HBn; clear HBn b6; obtain ⟨x0, x1, x2, x3, x4, x5, x6, x7, x8, x9, x10, x11⟩ := HX.out _ HBc.out)) | (go_at_call 44; ((with_reducible refine (HA5.out _ HBc.out).mono ?_); rintro e w6 ⟨rfl, b6⟩; have HBn := Lib.hid (below_next HBc.out b6); clear HBc; have HBc := HBn; clear HBn b6; obtain ⟨x0, x1, x2, x3, x4, x5, x6, x7, x8, x9, x10, x11⟩ := HX.out _ HBc.out)) | (go_at_call 44; ((with_reducible refine (HA7.out _ HBc.out).mono ?_); rintro e w6 ⟨rfl, b6⟩; have HBn := Lib.hid (below_next HBc.out b6); clear HBc; have HBc := HBn; clear HBn b6; obtain ⟨x0, x1, x2, x3, x4, x5, x6, x7, x8, x9, x10, x11⟩ := HX.out _ HBc.out)))
                go_ret2
                exact ⟨by simp [ruleB, inB], below_next HB0.out HBc.out⟩
              · go_wp2_with (first | (go_at_call 44; ((with_reducible refine (HA2.out _ HBc.out).mono ?_); rintro e w6 ⟨rfl, b6⟩; have HBn := Lib.hid (below_next HBc.out b6); clear HBc; have HBc := HBn; clear HBn b6; obtain ⟨x0, x1, x2, x3, x4, x5, x6, x7, x8, x9, x10, x11⟩ := HX.out _ HBc.out)) | (go_at_call 44; ((with_reducible refine (HA4.out _ HBc.out).mono ?_); rintro e w6 ⟨rfl, b6⟩; have HBn := Lib.hid (below_next HBc.out b6); clear HBc; have HBc := HBn; clear HBn b6; obtain ⟨x0, x1, x2, x3, x4, x5, x6, x7, x8, x9, x10, x11⟩ := HX.out _ HBc.out)) | (go_at_call 44; ((with_reducible refine (HA5.out _ HBc.out).mono ?_); rintro e w6 ⟨rfl, b6⟩; have HBn := Lib.hid (below_next HBc.out b6); clear HBc; have HBc := HBn; clear HBn b6; obtain ⟨x0, x1, x2, x3, x4, x5, x6, x7, x8, x9, x10, x11⟩ := HX.out _ HBc.out)) | (go_at_call 44; ((with_reducible refine (HA7.out _ HBc.out).mono ?_); rintro e w6 ⟨rfl, b6⟩; have HBn := Lib.hid (below_next HBc.out b6); clear HBc; have HBc := HBn; clear HBn b6; obtain ⟨x0, x1, x2, x3, x4, x5, x6, x7, x8, x9, x10, x11⟩ := HX.out _ HBc.out)))
                go_ret2
                exact ⟨by simp [ruleB, inB], below_next HB0.out HBc.out⟩
          · have g0 : (z != 1) = true := by simpa using n0
            have g1 : (z != 2) = true := by simpa using n1
            have g2 : (z != 4) = true := by simpa using n2
            have g3 : (z != 3) = true := by simpa using n3
            have HI : Hid (inB z [1, 2, 4, 3] = false) := Lib.hid (by unfold inB; simp [n0, n1, n2, n3])
            clear n0 n1 n2 n3
            go_wp2_with (first | (go_at_call 44; ((with_reducible refine (HA2.out _ HBc.out).mono ?_); rintro e w6 ⟨rfl, b6⟩; have HBn := Lib.hid (below_next HBc.out b6); clear HBc; have HBc := HBn; clear HBn b6; obtain ⟨x0, x1, x2, x3, x4, x5, x6, x7, x8, x9, x10, x11⟩ := HX.out _ HBc.out)) | (go_at_call 44; ((with_reducible refine (HA4.out _ HBc.out).mono ?_); rintro e w6 ⟨rfl, b6⟩; have HBn := Lib.hid (below_next HBc.out b6); clear HBc; have HBc := HBn; clear HBn b6; obtain ⟨x0, x1, x2, x3, x4, x5, x6, x7, x8, x9, x10, x11⟩ := HX.out _ HBc.out)) | (go_at_call 44; ((with_reducible refine (HA5.out _ HBc.out).mono ?_); rintro e w6 ⟨rfl, b6⟩; have HBn := Lib.hid (below_next HBc.out b6); clear HBc; have HBc := HBn; clear HBn b6; obtain ⟨x0, x1, x2, x3, x4, x5, x6, x7, x8, x9, x10, x11⟩ := HX.out _ HBc.out)) | (go_at_call 44; ((with_reducible refine (HA7.out _ HBc.out).mono ?_); rintro e w6 ⟨rfl, b6⟩; have HBn := Lib.hid (below_next HBc.out b6); clear HBc; have HBc := HBn; clear HBn b6; obtain ⟨x0, x1, x2, x3, x4, x5, x6, x7, x8, x9, x10, x11⟩ := HX.out _ HBc.out)))
            go_ret2
            rw [HI.out]
            exact ⟨by simp [ruleB, inB], below_next HB0.out HBc.out⟩
        · go_wp2_with (first | (go_at_call 44; ((with_reducible refine (HA2.out _ HBc.out).mono ?_); rintro e w6 ⟨rfl, b6⟩; have HBn := Lib.hid (below_next HBc.out b6); clear HBc; have HBc := HBn; clear HBn b6; obtain ⟨x0, x1, x2, x3, x4, x5, x6, x7, x8, x9, x10, x11⟩ := HX.out _ HBc.out)) | (go_at_call 44; ((with_reducible refine (HA4.out _ HBc.out).mono ?_); rintro e w6 ⟨rfl, b6⟩; have HBn := Lib.hid (below_next HBc.out b6); clear HBc; have HBc := HBn; clear HBn b6; obtain ⟨x0, x1, x2, x3, x4, x5, x6, x7, x8, x9, x10, x11⟩ := HX.out _ HBc.out)) | (go_at_call 44; ((with_reducible refine (HA5.out _ HBc.out).mono ?_); rintro e w6 ⟨rfl, b6⟩; have HBn := Lib.hid (below_next HBc.out b6); clear HBc; have HBc := HBn; clear HBn b6; obtain ⟨x0, x1, x2, x3, x4, x5, x6, x7, x8, x9, x10, x11⟩ := HX.out _ HBc.out)) | (go_at_call 44; ((with_reducible refine (HA7.out _ HBc.out).mono ?_); rintro e w6 ⟨rfl, b6⟩; have HBn := Lib.hid (below_next HBc.out b6); clear HBc; have HBc := HBn; clear HBn b6; obtain ⟨x0, x1, x2, x3, x4, x5, x6, x7, x8, x9, x10, x11⟩ := HX.out _ HBc.out)))
          go_ret2
          exact ⟨by simp [ruleB, inB], below_next HB0.out HBc.out⟩
      · cases b2
        · rcases (by omega : z = 1 ∨ z = 2 ∨ z = 4 ∨ z = 3 ∨ (z ≠ 1 ∧ z ≠ 2 ∧ z ≠ 4 ∧ z ≠ 3)) with rfl | rfl | rfl | rfl | ⟨n0, n1, n2, n3⟩
          · cases b4
            · go_wp2_with (first | (go_at_call 44; ((with_reducible refine (HA2.out _ HBc.out).mono ?_); rintro e w6 ⟨rfl, b6⟩; have HBn := Lib.hid (below_next HBc.out b6); clear HBc; have HBc := HBn; clear HBn b6; obtain ⟨x0, x1, x2, x3, x4, x5, x6, x7, x8, x9, x10, x11⟩ := HX.out _ HBc.out)) | (go_at_call 44; ((with_reducible refine (HA4.out _ HBc.out).mono ?_); rintro e w6 ⟨rfl, b6⟩; have HBn := Lib.hid (below_next HBc.out b6); clear HBc; have HBc := HBn; clear HBn b6; obtain ⟨x0, x1, x2, x3, x4, x5, x6, x7, x8, x9, x10, x11⟩ := HX.out _ HBc.out)) | (go_at_call 44; ((with_reducible refine (HA5.out _ HBc.out).mono ?_); rintro e w6 ⟨rfl, b6⟩; have HBn := Lib.hid (below_next HBc.out b6); clear HBc; have HBc := HBn; clear HBn b6; obtain ⟨x0, x1, x2, x3, x4, x5, x6, x7, x8, x9, x10, x11⟩ := HX.out _ HBc.out)) | (go_at_call 44; ((with_reducible refine (HA7.out _ HBc.out).mono ?_); rintro e w6 ⟨rfl, b6⟩; have HBn := Lib.hid (below_next HBc.out b6); clear HBc; have HBc := HBn; clear HBn b6; obtain ⟨x0, x1, x2, x3, x4, x5, x6, x7, x8, x9, x10, x11⟩ := HX.out _ HBc.out)))
              go_ret2
              exact ⟨by simp [ruleB, inB], below_next HB0.out HBc.out⟩
            · cases b5
              · go_wp2_with (first | (go_at_call 44; ((with_reducible refine (HA2.out _ HBc.out).mono ?_); rintro e w6 ⟨rfl, b6⟩; have HBn := Lib.hid (below_next HBc.out b6); clear HBc; have HBc := HBn; clear HBn b6; obtain ⟨x0, x1, x2, x3, x4, x5, x6, x7, x8, x9, x10, x11⟩ := HX.out _ HBc.out)) | (go_at_call 44; ((with_reducible refine (HA4.out _ HBc.out).mono ?_); rintro e w6 ⟨rfl, b6⟩; have HBn := Lib.hid (below_next HBc.out b6); clear HBc; have HBc := HBn; clear HBn b6; obtain ⟨x0, x1, x2, x3, x4, x5, x6, x7, x8, x9, x10, x11⟩ := HX.out _ HBc.out)) | (go_at_call 44; ((with_reducible refine (HA5.out _ HBc.out).mono ?_); rintro e w6 ⟨rfl, b6⟩; have HBn := Lib.hid (below_next HBc.out b6); clear HBc; have HBc := HBn; clear HBn b6; obtain ⟨x0, x1, x2, x3, x4, x5, x6, x7, x8, x9, x10, x11⟩ := HX.out _ HBc.out)) | (go_at_call 44; ((with_reducible refine (HA7.out _ HBc.out).mono ?_); rintro e w6 ⟨rfl, b6⟩; have HBn := Lib.hid (below_next HBc.out b6); clear HBc; have HBc := HBn; clear HBn b6; obtain ⟨x0, x1, x2, x3, x4, x5, x6, x7, x8, x9, x10, x11⟩ := HX.out _ HBc.out)))
                go_ret2
                exact ⟨by simp [ruleB, inB], below_next HB0.out HBc.out⟩
              · go_wp2_with (first | (go_at_call 44; ((with_reducible refine (HA2.out _ HBc.out).mono ?_); rintro e w6 ⟨rfl, b6⟩; have HBn := Lib.hid (below_next HBc.out b6); clear HBc; have HBc := HBn; clear HBn b6; obtain ⟨x0, x1, x2, x3, x4, x5, x6, x7, x8, x9, x10, x11⟩ := HX.out _ HBc.out)) | (go_at_call 44; ((with_reducible refine (HA4.out _ HBc.out).mono ?_); rintro e w6 ⟨rfl, b6⟩; have HBn := Lib.hid (below_next HBc.out b6); clear HBc; have HBc := HBn; clear HBn b6; obtain ⟨x0, x1, x2, x3, x4, x5, x6, x7, x8, x9, x10, x11⟩ := HX.out _ HBc.out)) | (go_at_call 44; ((with_reducible refine (HA5.out _ HBc.out).mono ?_); rintro e w6 ⟨rfl, b6⟩; have HBn := Lib.hid (below_next HBc.out b6); clear HBc; have HBc := HBn; clear HBn b6; obtain ⟨x0, x1, x2, x3, x4, x5, x6, x7, x8, x9, x10, x11⟩ := HX.out _ HBc.out)) | (go_at_call 44; ((with_reducible refine (HA7.out _ HBc.out).mono ?_); rintro e w6 ⟨rfl, b6⟩; have HBn := Lib.hid (below_next HBc.out b6); clear HBc; have HBc := HBn; clear HBn b6; obtain ⟨x0, x1, x2, x3, x4, x5, x6, x7, x8, x9, x10, x11⟩ := HX.out _ HBc.out)))
                go_ret2
                exact ⟨by simp [ruleB, inB], below_next HB0.out HBc.out⟩
          · cases b4
            · go_wp2_with (first | (go_at_call 44; ((with_reducible refine (HA2.out _ HBc.out).mono ?_); rintro e w6 ⟨rfl, b6⟩; have HBn := Lib.hid (below_next HBc.out b6); clear HBc; have HBc := HBn; clear HBn b6; obtain ⟨x0, x1, x2, x3, x4, x5, x6, x7, x8, x9, x10, x11⟩ := HX.out _ HBc.out)) | (go_at_call 44; ((with_reducible refine (HA4.out _ HBc.out).mono ?_); rintro e w6 ⟨rfl, b6⟩; have HBn := Lib.hid (below_next HBc.out b6); clear HBc; have HBc := HBn; clear HBn b6; obtain ⟨x0, x1, x2, x3, x4, x5, x6, x7, x8, x9, x10, x11⟩ := HX.out _ HBc.out)) | (go_at_call 44; ((with_reducible refine (HA5.out _ HBc.out).mono ?_); rintro e w6 ⟨rfl, b6⟩; have HBn := Lib.hid (below_next HBc.out b6); clear HBc; have HBc := HBn; clear HBn b6; obtain ⟨x0, x1, x2, x3, x4, x5, x6, x7, x8, x9, x10, x11⟩ := HX.out _ HBc.out)) | (go_at_call 44; ((with_reducible refine (HA7.out _ HBc.out).mono ?_); rintro e w6 ⟨rfl, b6⟩; have HBn := Lib.hid (below_next HBc.out b6); clear HBc; have HBc := HBn; clear HBn b6; obtain ⟨x0, x1, x2, x3, x4, x5, x6, x7, x8, x9, x10, x11⟩ := HX.out _ HBc.out)))
              go_ret2
              exact ⟨by simp [ruleB, inB], below_next HB0.out HBc.out⟩
            · cases b5
              · go_wp2_with (first | (go_at_call 44; ((with_reducible refine (HA2.out _ HBc.out).mono ?_); rintro e w6 ⟨rfl, b6⟩; have HBn := Lib.hid (below_next HBc.out b6); clear HBc; have HBc := HBn; clear HBn b6; obtain ⟨x0, x1, x2, x3, x4, x5, x6, x7, x8, x9, x10, x11⟩ := HX.out _ HBc.out)) | (go_at_call 44; ((with_reducible refine (HA4.out _ HBc.out).mono ?_); rintro e w6 ⟨rfl, b6⟩; have HBn := Lib.hid (below_next HBc.out b6); clear HBc; have HBc := HBn; clear HBn b6; obtain ⟨x0, x1, x2, x3, x4, x5, x6, x7, x8, x9, x10, x11⟩ := HX.out _ HBc.out)) | (go_at_call 44; ((with_reducible refine (HA5.out _ HBc.out).mono ?_); rintro e w6 ⟨rfl, b6⟩; have HBn := Lib.hid (below_next HBc.out b6); clear HBc; have HBc := HBn; clear HBn b6; obtain ⟨x0, x1, x2, x3, x4, x5, x6, x7, x8, x9, x10, x11⟩ := HX.out _ HBc.out)) | (go_at_call 44; ((with_reducible refine (HA7.out _ HBc.out).mono ?_); rintro e w6 ⟨rfl, b6⟩; have HBn := Lib.hid (below_next HBc.out b6); clear HBc; have HBc := HBn; clear HBn b6; obtain ⟨x0, x1, x2, x3, x4, x5, x6, x7, x8, x9, x10, x11⟩ := HX.out _ HBc.out)))
                go_ret2
                exact ⟨by simp [ruleB, inB], below_next HB0.out HBc.out⟩
              · go_wp2_with (first | (go_at_call 44; ((with_reducible refine (HA2.out _ HBc.out).mono ?_); rintro e w6 ⟨rfl, b6⟩; have HBn := Lib.hid (below_next HBc.out b6); clear HBc; have HBc := HBn; clear HBn b6; obtain ⟨x0, x1, x2, x3, x4, x5, x6, x7, x8, x9, x10, x11⟩ := HX.out _ HBc.out)) | (go_at_call 44; ((with_reducible refine (HA4.out _ HBc.out).mono ?_); rintro e w6 ⟨rfl, b6⟩; have HBn := Lib.hid (below_next HBc.out b6); clear HBc; have HBc := HBn; clear HBn b6; obtain ⟨x0, x1, x2, x3, x4, x5, x6, x7, x8, x9, x10, x11⟩ := HX.out _ HBc.out)) | (go_at_call 44; ((with_reducible refine (HA5.out _ HBc.out).mono ?_); rintro e w6 ⟨rfl, b6⟩; have HBn := Lib.hid (below_next HBc.out b6); clear HBc; have HBc := HBn; clear HBn b6; obtain ⟨x0, x1, x2, x3, x4, x5, x6, x7, x8, x9, x10, x11⟩ := HX.out _ HBc.out)) | (go_at_call 44; ((with_reducible refine (HA7.out _ HBc.out).mono ?_); rintro e w6 ⟨rfl, b6⟩; have HBn := Lib.hid (below_next HBc.out b6); clear HBc; have HBc := HBn; clear HBn b6; obtain ⟨x0, x1, x2, x3, x4, x5, x6, x7, x8, x9, x10, x11⟩ := HX.out _ HBc.out)))
                go_ret2
                exact ⟨by simp [ruleB, inB], below_next HB0.out HBc.out⟩
          · cases b4
            · go_wp2_with (first | (go_at_call 44; ((with_reducible refine (HA2.out _ HBc.out).mono ?_); rintro e w6 ⟨rfl, b6⟩; have HBn := Lib.hid (below_next HBc.out b6); clear HBc; have HBc := HBn; clear HBn b6; obtain ⟨x0, x1, x2, x3, x4, x5, x6, x7, x8, x9, x10, x11⟩ := HX.out _ HBc.out)) | (go_at_call 44; ((with_reducible refine (HA4.out _ HBc.out).mono ?_); rintro e w6 ⟨rfl, b6⟩; have HBn := Lib.hid (below_next HBc.out b6); clear HBc; have HBc := HBn; clear HBn b6; obtain ⟨x0, x1, x2, x3, x4, x5, x6, x7, x8, x9, x10, x11⟩ := HX.out _ HBc.out)) | (go_at_call 44; ((with_reducible refine (HA5.out _ HBc.out).mono ?_); rintro e w6 ⟨rfl, b6⟩; have HBn := Lib.hid (below_next HBc.out b6); clear HBc; have HBc := HBn; clear HBn b6; obtain ⟨x0, x1, x2, x3, x4, x5, x6, x7, x8, x9, x10, x11⟩ := HX.out _ HBc.out)) | (go_at_call 44; ((with_reducible refine (HA7.out _ HBc.out).mono ?_); rintro e w6 ⟨rfl, b6⟩; have HBn := Lib.hid (below_next HBc.out b6); clear HBc; have HBc := HBn; clear HBn b6; obtain ⟨x0, x1, x2, x3, x4, x5, x6, x7, x8, x9, x10, x11⟩ := HX.out _ HBc.out)))
              go_ret2
              exact ⟨by simp [ruleB, inB], below_next HB0.out HBc.out⟩
            · cases b5
              · go_wp2_with (first | (go_at_call 44; ((with_reducible refine (HA2.out _ HBc.out).mono ?_); rintro e w6 ⟨rfl, b6⟩; have HBn := Lib.hid (below_next HBc.out b6); clear HBc; have HBc := HBn; clear HBn b6; obtain ⟨x0, x1, x2, x3, x4, x5, x6, x7, x8, x9, x10, x11⟩ := HX.out _ HBc.out)) | (go_at_call 44; ((with_reducible refine (HA4.out _ HBc.out).mono ?_); rintro e w6 ⟨rfl, b6⟩; have HBn := Lib.hid (below_next HBc.out b6); clear HBc; have HBc := HBn; clear HBn b6; obtain ⟨x0, x1, x2, x3, x4, x5, x6, x7, x8, x9, x10, x11⟩ := HX.out _ HBc.out)) | (go_at_call 44; ((with_reducible refine (HA5.out _ HBc.out).mono ?_); rintro e w6 ⟨rfl, b6⟩; have HBn := Lib.hid (below_next HBc.out b6); clear HBc; have HBc := HBn; clear HBn b6; obtain ⟨x0, x1, x2, x3, x4, x5, x6, x7, x8, x9, x10, x11⟩ := HX.out _ HBc.out)) | (go_at_call 44; ((with_reducible refine (HA7.out _ HBc.out).mono ?_); rintro e w6 ⟨rfl, b6⟩; have HBn := Lib.hid (below_next HBc.out b6); clear HBc; have HBc := HBn; clear HBn b6; obtain ⟨x0, x1, x2, x3, x4, x5, x6, x7, x8, x9, x10, x11⟩ := HX.out _ HBc.out)))
                go_ret2
                exact ⟨by simp [ruleB, inB], below_next HB0.out HBc.out⟩
              · go_wp2_with (first | (go_at_call 44; ((with_reducible refine (HA2.out _ HBc.out).mono ?_); rintro e w6 ⟨rfl, b6⟩; have HBn := Lib.hid (below_next HBc.out b6); clear HBc; have HBc := HBn; clear HBn b6; obtain ⟨x0, x1, x2, x3, x4, x5, x6, x7, x8, x9, x10, x11⟩ := HX.out _ HBc.out)) | (go_at_call 44; ((with_reducible refine (HA4.out _ HBc.out).mono ?_); rintro e w6 ⟨rfl, b6⟩; have HBn := Lib.hid (below_next HBc.out b6); clear HBc; have HBc := HBn; clear HBn b6; obtain ⟨x0, x1, x2, x3, x4, x5, x6, x7, x8, x9, x10, x11⟩ := HX.out _ HBc.out)) | (go_at_call 44; ((with_reducible refine (HA5.out _ HBc.out).mono ?_); rintro e w6 ⟨rfl, b6⟩; have HBn := Lib.hid (below_next HBc.out b6); clear HBc; have HBc := HBn; clear HBn b6; obtain ⟨x0, x1, x2, x3, x4, x5, x6, x7, x8, x9, x10, x11⟩ := HX.out _ HBc.out)) | (go_at_call 44; ((with_reducible refine (HA7.out _ HBc.out).mono ?_); rintro e w6 ⟨rfl, b6⟩; have HBn := Lib.hid (below_next HBc.out b6); clear HBc; have HBc := HBn; clear HBn b6; obtain ⟨x0, x1, x2, x3, x4, x5, x6, x7, x8, x9, x10, x11⟩ := HX.out _ HBc.out)))
                go_ret2
                exact ⟨by simp [ruleB, inB], below_next HB0.out HBc.out⟩
          · cases b4
            · go_wp2_with (first | (go_at_call 44; ((with_reducible refine (HA2.out _ HBc.out).mono ?_); rintro e w6 ⟨rfl, b6⟩; have HBn := Lib.hid (below_next HBc.out b6); clear HBc; have HBc := HBn; clear HBn b6; obtain ⟨x0, x1, x2, x3, x4, x5, x6, x7, x8, x9, x10, x11⟩ := HX.out _ HBc.out)) | (go_at_call 44; ((with_reducible refine (HA4.out _ HBc.out).mono ?_); rintro e w6 ⟨rfl, b6⟩; have HBn := Lib.hid (below_next HBc.out b6); clear HBc; have HBc := HBn; clear HBn b6; obtain ⟨x0, x1, x2, x3, x4, x5, x6, x7, x8, x9, x10, x11⟩ := HX.out _ HBc.out)) | (go_at_call 44; ((with_reducible refine (HA5.out _ HBc.out).mono ?_); rintro e w6 ⟨rfl, b6⟩; have HBn := Lib.hid (below_next HBc.out b6); clear HBc; have HBc := HBn; clear HBn b6; obtain ⟨x0, x1, x2, x3, x4, x5, x6, x7, x8, x9, x10, x11⟩ := HX.out _ HBc.out)) | (go_at_call 44; ((with_reducible refine (HA7.out _ HBc.out).mono ?_); rintro e w6 ⟨rfl, b6⟩; have HBn := Lib.hid (below_next HBc.out b6); clear HBc; have HBc := HBn; clear HBn b6; obtain ⟨x0, x1, x2, x3, x4, x5, x6, x7, x8, x9, x10, x11⟩ := HX.out _ HBc.out)))
              go_ret2
              exact ⟨by simp [ruleB, inB], below_next HB0.out HBc.out⟩
            · cases b5
              · go_wp2_with (first | (go_at_call 44; ((with_reducible refine (HA2.out _ HBc.out).mono ?_); rintro e w6 ⟨rfl, b6⟩; have HBn := Lib.hid (below_next HBc.out b6); clear HBc; have HBc := HBn; clear HBn b6; obtain ⟨x0, x1, x2, x3, x4, x5, x6, x7, x8, x9, x10, x11⟩ := HX.out _ HBc.out)) | (go_at_call 44; ((with_reducible refine (HA4.out _ HBc.out).mono ?_); rintro e w6 ⟨rfl, b6⟩; have HBn := Lib.hid (below_next HBc.out b6); clear HBc; have HBc := HBn; clear HBn b6; obtain ⟨x0, x1, x2, x3, x4, x5, x6, x7, x8, x9, x10, x11⟩ := HX.out _ HBc.out)) | (go_at_call 44; ((with_reducible refine (HA5.out _ HBc.out).mono ?_); rintro e w6 ⟨rfl, b6⟩; have HBn := Lib.hid (below_next HBc.out b6); clear HBc; have HBc := HBn; clear HBn b6; obtain ⟨x0, x1, x2, x3, x4, x5, x6, x7, x8, x9, x10, x11⟩ := HX.out _ HBc.out)) | (go_at_call 44; ((with_reducible refine (HA7.out _ HBc.out).mono ?_); rintro e w6 ⟨rfl, b6⟩; have HBn := Lib.hid (below_next HBc.out b6); clear HBc; have HBc := HBn; clear HBn b6; obtain ⟨x0, x1, x2, x3, x4, x5, x6, x7, x8, x9, x10, x11⟩ := HX.out _ HBc.out)))
                go_ret2
                exact ⟨by simp [ruleB, inB], below_next HB0.out HBc.out⟩
              · go_wp2_with (first | (go_at_call 44; ((with_reducible refine (HA2.out _ HBc.out).mono ?_); rintro e w6 ⟨rfl, b6⟩; have HBn := Lib.hid (below_next HBc.out b6); clear HBc; have HBc := HBn; clear HBn b6; obtain ⟨x0, x1, x2, x3, x4, x5, x6, x7, x8, x9, x10, x11⟩ := HX.out _ HBc.out)) | (go_at_call 44; ((with_reducible refine (HA4.out _ HBc.out).mono ?_); rintro e w6 ⟨rfl, b6⟩; have HBn := Lib.hid (below_next HBc.out b6); clear HBc; have HBc := HBn; clear HBn b6; obtain ⟨x0, x1, x2, x3, x4, x5, x6, x7, x8, x9, x10, x11⟩ := HX.out _ HBc.out)) | (go_at_call 44; ((with_reducible refine (HA5.out _ HBc.out).mono ?_); rintro e w6 ⟨rfl, b6⟩; have HBn := Lib.hid (below_next HBc.out b6); clear HBc; have HBc := HBn; clear HBn b6; obtain ⟨x0, x1, x2, x3, x4, x5, x6, x7, x8, x9, x10, x11⟩ := HX.out _ HBc.out)) | (go_at_call 44; ((with_reducible refine (HA7.out _ HBc.out).mono ?_); rintro e w6 ⟨rfl, b6⟩; have HBn := Lib.hid (below_next HBc.out b6); clear HBc; have HBc := HBn; clear HBn b6; obtain ⟨x0, x1, x2, x3, x4, x5, x6, x7, x8, x9, x10, x11⟩ := HX.out _ HBc.out)))
                go_ret2
                exact ⟨by simp [ruleB, inB], below_next HB0.out HBc.out⟩
          · have g0 : (z != 1) = true := by simpa using n0
            have g1 : (z != 2) = true := by simpa using n1
            have g2 : (z != 4) = true := by simpa using n2
            have g3 : (z != 3) = true := by simpa using n3
            have HI : Hid (inB z [1, 2, 4, 3] = false) := Lib.hid (by unfold inB; simp [n0, n1, n2, n3])
            clear n0 n1 n2 n3
            go_wp2_with (first | (go_at_call 44; ((with_reducible refine (HA2.out _ HBc.out).mono ?_); rintro e w6 ⟨rfl, b6⟩; have HBn := Lib.hid (below_next HBc.out b6); clear HBc; have HBc := HBn; clear HBn b6; obtain ⟨x0, x1, x2, x3, x4, x5, x6, x7, x8, x9, x10, x11⟩ := HX.out _ HBc.out)) | (go_at_call 44; ((with_reducible refine (HA4.out _ HBc.out).mono ?_); rintro e w6 ⟨rfl, b6⟩; have HBn := Lib.hid (below_next HBc.out b6); clear HBc; have HBc := HBn; clear HBn b6; obtain ⟨x0, x1, x2, x3, x4, x5, x6, x7, x8, x9, x10, x11⟩ := HX.out _ HBc.out)) | (go_at_call 44; ((with_reducible refine (HA5.out _ HBc.out).mono ?_); rintro e w6 ⟨rfl, b6⟩; have HBn := Lib.hid (below_next HBc.out b6); clear HBc; have HBc := HBn; clear HBn b6; obtain ⟨x0, x1, x2, x3, x4, x5, x6, x7, x8, x9, x10, x11⟩ := HX.out _ HBc.out)) | (go_at_call 44; ((with_reducible refine (HA7.out _ HBc.out).mono ?_); rintro e w6 ⟨rfl, b6⟩; have HBn := Lib.hid (below_next HBc.out b6); clear HBc; have HBc := HBn; clear HBn b6; obtain ⟨x0, x1, x2, x3, x4, x5, x6, x7, x8, x9, x10, x11⟩ := HX.out _ HBc.out)))
            go_ret2
            rw [HI.out]
            exact ⟨by simp [ruleB, inB], below_next HB0.out HBc.out⟩
        · go_wp2_with (first | (go_at_call 44; ((with_reducible refine (HA2.out _ HBc.out).mono ?_); rintro e w6 ⟨rfl, b6⟩; have HBn := Lib.hid (below_next HBc.out b6); clear HBc; have HBc := HBn; clear HBn b6; obtain ⟨x0, x1, x2, x3, x4, x5, x6, x7, x8, x9, x10, x11⟩ := HX.out _ HBc.out)) | (go_at_call 44; ((with_reducible refine (HA4.out _ HBc.out).mono ?_); rintro e w6 ⟨rfl, b6⟩; have HBn := Lib.hid (below_next HBc.out b6); clear HBc; have HBc := HBn; clear HBn b6; obtain ⟨x0, x1, x2, x3, x4, x5, x6, x7, x8, x9, x10, x11⟩ := HX.out _ HBc.out)) | (go_at_call 44; ((with_reducible refine (HA5.out _ HBc.out).mono ?_); rintro e w6 ⟨rfl, b6⟩; have HBn := Lib.hid (below_next HBc.out b6); clear HBc; have HBc := HBn; clear HBn b6; obtain ⟨x0, x1, x2, x3, x4, x5, x6, x7, x8, x9, x10, x11⟩ := HX.out _ HBc.out)) | (go_at_call 44; ((with_reducible refine (HA7.out _ HBc.out).mono ?_); rintro e w6 ⟨rfl, b6⟩; have HBn := Lib.hid (below_next HBc.out b6); clear HBc; have HBc := HBn; clear HBn b6; obtain ⟨x0, x1, x2, x3, x4, x5, x6, x7, x8, x9, x10, x11⟩ := HX.out _ HBc.out)))
          go_ret2
          exact ⟨by simp [ruleB, inB], below_next HB0.out HBc.out⟩
      · cases b7
        · rcases (by omega : z = 0 ∨ z = 4 ∨ (z ≠ 0 ∧ z ≠ 4)) with rfl | rfl | ⟨n0, n1⟩
          · go_wp2_with (first | (go_at_call 44; ((with_reducible refine (HA2.out _ HBc.out).mono ?_); rintro e w6 ⟨rfl, b6⟩; have HBn := Lib.hid (below_next HBc.out b6); clear HBc; have HBc := HBn; clear HBn b6; obtain ⟨x0, x1, x2, x3, x4, x5, x6, x7, x8, x9, x10, x11⟩ := HX.out _ HBc.out)) | (go_at_call 44; ((with_reducible refine (HA4.out _ HBc.out).mono ?_); rintro e w6 ⟨rfl, b6⟩; have HBn := Lib.hid (below_next HBc.out b6); clear HBc; have HBc := HBn; clear HBn b6; obtain ⟨x0, x1, x2, x3, x4, x5, x6, x7, x8, x9, x10, x11⟩ := HX.out _ HBc.out)) | (go_at_call 44; ((with_reducible refine (HA5.out _ HBc.out).mono ?_); rintro e w6 ⟨rfl, b6⟩; have HBn := Lib.hid (below_next HBc.out b6); clear HBc; have HBc := HBn; clear HBn b6; obtain ⟨x0, x1, x2, x3, x4, x5, x6, x7, x8, x9, x10, x11⟩ := HX.out _ HBc.out)) | (go_at_call 44; ((with_reducible refine (HA7.out _ HBc.out).mono ?_); rintro e w6 ⟨rfl, b6⟩; have HBn := Lib.hid (below_next HBc.out b6); clear HBc; have HBc := HBn; clear HBn b6; obtain ⟨x0, x1, x2, x3, x4, x5, x6, x7, x8, x9, x10, x11⟩ := HX.out _ HBc.out)))
            go_ret2
            exact ⟨by simp [ruleB, inB], below_next HB0.out HBc.out⟩
          · go_wp2_with (first | (go_at_call 44; ((with_reducible refine (HA2.out _ HBc.out).mono ?_); rintro e w6 ⟨rfl, b6⟩; have HBn := Lib.hid (below_next HBc.out b6); clear HBc; have HBc := HBn; clear HBn b6; obtain ⟨x0, x1, x2, x3, x4, x5, x6, x7, x8, x9, x10, x11⟩ := HX.out _ HBc.out)) | (go_at_call 44; ((with_reducible refine (HA4.out _ HBc.out).mono ?_); rintro e w6 ⟨rfl, b6⟩; have HBn := Lib.hid (below_next HBc.out b6); clear HBc; have HBc := HBn; clear HBn b6; obtain ⟨x0, x1, x2, x3, x4, x5, x6, x7, x8, x9, x10, x11⟩ := HX.out _ HBc.out)) | (go_at_call 44; ((with_reducible refine (HA5.out _ HBc.out).mono ?_); rintro e w6 ⟨rfl, b6⟩; have HBn := Lib.hid (below_next HBc.out b6); clear HBc; have HBc := HBn; clear HBn b6; obtain ⟨x0, x1, x2, x3, x4, x5, x6, x7, x8, x9, x10, x11⟩ := HX.out _ HBc.out)) | (go_at_call 44; ((with_reducible refine (HA7.out _ HBc.out).mono ?_); rintro e w6 ⟨rfl, b6⟩; have HBn := Lib.hid (below_next HBc.out b6); clear HBc; have HBc := HBn; clear HBn b6; obtain ⟨x0, x1, x2, x3, x4, x5, x6, x7, x8, x9, x10, x11⟩ := HX.out _ HBc.out)))
            go_ret2
            exact ⟨by simp [ruleB, inB], below_next HB0.out HBc.out⟩
          · have g0 : (z != 0) = true := by simpa using n0
            have g1 : (z != 4) = true := by simpa using n1
            have HI : Hid (inB z [0, 4] = false) := Lib.hid (by unfold inB; simp [n0, n1])
            clear n0 n1
            go_wp2_with (first | (go_at_call 44; ((with_reducible refine (HA2.out _ HBc.out).mono ?_); rintro e w6 ⟨rfl, b6⟩; have HBn := Lib.hid (below_next HBc.out b6); clear HBc; have HBc := HBn; clear HBn b6; obtain ⟨x0, x1, x2, x3, x4, x5, x6, x7, x8, x9, x10, x11⟩ := HX.out _ HBc.out)) | (go_at_call 44; ((with_reducible refine (HA4.out _ HBc.out).mono ?_); rintro e w6 ⟨rfl, b6⟩; have HBn := Lib.hid (below_next HBc.out b6); clear HBc; have HBc := HBn; clear HBn b6; obtain ⟨x0, x1, x2, x3, x4, x5, x6, x7, x8, x9, x10, x11⟩ := HX.out _ HBc.out)) | (go_at_call 44; ((with_reducible refine (HA5.out _ HBc.out).mono ?_); rintro e w6 ⟨rfl, b6⟩; have HBn := Lib.hid (below_next HBc.out b6); clear HBc; have HBc := HBn; clear HBn b6; obtain ⟨x0, x1, x2, x3, x4, x5, x6, x7, x8, x9, x10, x11⟩ := HX.out _ HBc.out)) | (go_at_call 44; ((with_reducible refine (HA7.out _ HBc.out).mono ?_); rintro e w6 ⟨rfl, b6⟩; have HBn := Lib.hid (below_next HBc.out b6); clear HBc; have HBc := HBn; clear HBn b6; obtain ⟨x0, x1, x2, x3, x4, x5, x6, x7, x8, x9, x10, x11⟩ := HX.out _ HBc.out)))
            go_ret2
            rw [HI.out]
            exact ⟨by simp [ruleB, inB], below_next HB0.out HBc.out⟩
        · go_wp2_with (first | (go_at_call 44; ((with_reducible refine (HA2.out _ HBc.out).mono ?_); rintro e w6 ⟨rfl, b6⟩; have HBn := Lib.hid (below_next HBc.out b6); clear HBc; have HBc := HBn; clear HBn b6; obtain ⟨x0, x1, x2, x3, x4, x5, x6, x7, x8, x9, x10, x11⟩ := HX.out _ HBc.out)) | (go_at_call 44; ((with_reducible refine (HA4.out _ HBc.out).mono ?_); rintro e w6 ⟨rfl, b6⟩; have HBn := Lib.hid (below_next HBc.out b6); clear HBc; have HBc := HBn; clear HBn b6; obtain ⟨x0, x1, x2, x3, x4, x5, x6, x7, x8, x9, x10, x11⟩ := HX.out _ HBc.out)) | (go_at_call 44; ((with_reducible refine (HA5.out _ HBc.out).mono ?_); rintro e w6 ⟨rfl, b6⟩; have HBn := Lib.hid (below_next HBc.out b6); clear HBc; have HBc := HBn; clear HBn b6; obtain ⟨x0, x1, x2, x3, x4, x5, x6, x7, x8, x9, x10, x11⟩ := HX.out _ HBc.out)) | (go_at_call 44; ((with_reducible refine (HA7.out _ HBc.out).mono ?_); rintro e w6 ⟨rfl, b6⟩; have HBn := Lib.hid (below_next HBc.out b6); clear HBc; have HBc := HBn; clear HBn b6; obtain ⟨x0, x1, x2, x3, x4, x5, x6, x7, x8, x9, x10, x11⟩ := HX.out _ HBc.out)))
          go_ret2
          exact ⟨by simp [ruleB, inB], below_next HB0.out HBc.out⟩
      · have g0 : (kx == 0) = false := by simpa using m0
        have g1 : (kx == 1) = false := by simpa using m1
        have g2 : (kx == 2) = false := by simpa using m2
        have HI1 : Hid (inB kx [1, 2] = false) := Lib.hid (by unfold inB; simp [m1, m2])
        have HI2 : Hid (inB kx [0] = false) := Lib.hid (by unfold inB; simp [m0])
        clear m0 m1 m2
        go_wp2_with fail
        go_ret2
        rw [HI1.out, HI2.out]
        exact ⟨by simp [ruleB], below_next HB0.out HBc.out⟩
  · have HE : Hid (ruleR T xs = (0, accE T xs)) := Lib.hid (by unfold ruleR; rw [if_neg h0])
    have hb : (accE T xs != 0) = true := by simpa using h0
    rw [HE.out]
    clear h0 HE
    generalize accE T xs = er at *
    go_enter Tryz.func19, Tryz.ntmps19
    go_upto_region 1 with fail
    generalize w.alloc (.cells t.cells 26) = w1 at *
    obtain ⟨x0, x1, x2, x3, x4, x5, x6, x7, x8, x9, x10, x11⟩ := HT.out.1.tab
    go_wp2_with (go_at_call 43; refine HO.out.mono ?_; rintro e w2 ⟨rfl, b2⟩)
    go_ret2
    exact ⟨rfl, below_next HB0.out b2⟩
set_option maxRecDepth 100000 in
set_option maxHeartbeats 2000000 in
theorem refRtl_any (t : Tv) (T : Tab) (v : Value) (xs : List Int) (w : World) (ht : TabR w w.heap.size t T) (hv : Ints w w.heap.size .i64 v xs) :
    Calls Tryz.prog 18 #[t.val, v] w fun e w' => e = .returned (.bool (rtlR T xs)) ∧ Below w.heap.size w w' := by
  obtain ⟨A, c, rfl, _⟩ := id hv
  have HB0 : Hid (Below w.heap.size w (w.alloc (.cells t.cells 26))) := Lib.hid ((Below.refl _ _).alloc (Nat.le_refl _) _)
  have HT : Hid (Tbl (w.alloc (.cells t.cells 26)) w.heap.size t T) := Lib.hid ⟨Blk.new _ _ _, ht.later HB0.out⟩
  have HV := Lib.hid (hv.later HB0.out)
  clear ht hv
  have HO := Lib.hid (refAccept_any t T _ xs _ HT.out.2 HV.out)
  by_cases h0 : accE T xs = 0
  · have hck := (accE_zero h0).1
    have HE : Hid (rtlR T xs = anyB T xs [1, 2, 3]) := Lib.hid (by unfold rtlR; rw [h0]; rfl)
    have HAr : Hid (∀ (W : World), Below (w.alloc (.cells t.cells 26)).heap.size (w.alloc (.cells t.cells 26)) W → Calls Tryz.prog 44 #[.agg #[t.c0, t.c1, t.c2, t.c3, t.c4, t.c5, t.c6, t.c7, t.c8, t.c9, t.c10, t.c11], .slice A xs.length c, .slice (some ⟨W.heap.size, 0, none⟩) 3 3] (W.alloc (.cells #[.int .i64 1, .int .i64 2, .int .i64 3] 3)) fun e w' => e = .returned (.bool (anyB T xs [1, 2, 3])) ∧ Below W.heap.size W w') := Lib.hid fun W h => by
      have hb : Below W.heap.size W (W.alloc (.cells #[.int .i64 1, .int .i64 2, .int .i64 3] 3)) := (Below.refl _ _).alloc (Nat.le_refl _) _
      refine (refAny_any t T _ _ _ [1, 2, 3] _ (HT.out.later (below_next h hb)).2 hck (HV.out.later (below_next h hb)) (by have h := Ints.of_own (own_new W 3 [1, 2, 3] (by simp)); simpa using h)).mono fun e w' ⟨he, h2⟩ => ⟨he, below_next hb h2⟩
    rw [HE.out]
    rw [h0] at HO
    clear h0 hck HE
    generalize anyB T xs [1, 2, 3] = bb at *
    go_enter Tryz.func18, Tryz.ntmps18
    go_upto_region 1 with fail
    generalize w.alloc (.cells t.cells 26) = w1 at *
    obtain ⟨x0, x1, x2, x3, x4, x5, x6, x7, x8, x9, x10, x11⟩ := HT.out.1.tab
    go_wp2_with (first
      | (go_at_call 43; refine HO.out.mono ?_; rintro e w2 ⟨rfl, b2⟩; clear x0 x1 x2 x3 x4 x5 x6 x7 x8 x9 x10 x11; obtain ⟨x0, x1, x2, x3, x4, x5, x6, x7, x8, x9, x10, x11⟩ := (HT.out.later b2).1.tab)
      | (go_at_call 44; refine (HAr.out _ b2).mono ?_; rintro e w3 ⟨rfl, b3⟩))
    go_ret
    exact ⟨rfl, below_next (below_next HB0.out b2) b3⟩
  · have HE : Hid (rtlR T xs = false) := Lib.hid (by unfold rtlR; rw [show (accE T xs == 0) = false by simpa using h0]; rfl)
    have hb : (accE T xs == 0) = false := by simpa using h0
    rw [HE.out]
    clear h0 HE
    generalize accE T xs = er at *
    go_enter Tryz.func18, Tryz.ntmps18
    go_upto_region 1 with fail
    generalize w.alloc (.cells t.cells 26) = w1 at *
    obtain ⟨x0, x1, x2, x3, x4, x5, x6, x7, x8, x9, x10, x11⟩ := HT.out.1.tab
    go_wp2_with (go_at_call 43; refine HO.out.mono ?_; rintro e w2 ⟨rfl, b2⟩)
    go_ret
    exact ⟨rfl, below_next HB0.out b2⟩
end Go.Proofs.YtjigjjbhdgpfjaaGreatDoor
