/-
  Merged texts: lemmas and walks that the last text of this claim leans on.
-/
import Derived.Test.YtjigjjbhdgpfjaaDoorMgB730
import Derived.Test.YtjigjjbhdgpfjaaDoorMgB722
import Derived.Test.YtjigjjbhdgpfjaaDoorMgB724
import Derived.Test.YtjigjjbhdgpfjaaDoorMgB721
/-
  The walks through rule, RTL and Rule of package bidi.
-/
namespace Go.Proofs.YtjigjjbhdgpfjaaDoor
open Go.RowKit ND

/-- The rule, out of its tests. -/
def ruleB (b1 b2 b3 b4 b5 b6 b7 b8 : Bool) : Int :=
  if b1 = true then (if b2 = true then 2 else if b3 = false then 3 else if b4 = true ∧ b5 = true then 4 else 0) else if b6 = true then (if b7 = true then 5 else if b8 = false then 6 else 0) else 1
theorem ruleL_bits (T : Tab) (x : Int) (r : List Int) : ruleL T (x :: r) = ruleB (inB (T.bidiOf x) [1, 2]) (anyB T (x :: r) [0, 11]) (inB (lastB T (x :: r)) [1, 2, 4, 3]) (anyB T (x :: r) [4]) (anyB T (x :: r) [3]) (inB (T.bidiOf x) [0]) (anyB T (x :: r) [1, 2, 3, 11]) (inB (lastB T (x :: r)) [0, 4]) := by
  unfold ruleL ruleB
  have h1 : (T.bidiOf x = 1 ∨ T.bidiOf x = 2) ↔ inB (T.bidiOf x) [1, 2] = true := by rw [inB_iff]; simp
  have h2 : T.bidiOf x = 0 ↔ inB (T.bidiOf x) [0] = true := by rw [inB_iff]; simp
  simp only [h1, h2]
set_option maxRecDepth 100000 in
set_option maxHeartbeats 4000000 in
theorem rule_any (t : Tv) (T : Tab) (v : Value) (xs : List Int) (w : World) (ht : TabR w w.heap.size t T) (hck : T.check = 0) (hv : Ints w w.heap.size .i64 v xs) :
    Calls Tryd.prog 50 #[t.val, v] w fun e w' => e = .returned (.int .i64 (ruleL T xs)) ∧ Below w.heap.size w w' := by
  obtain ⟨A, c, rfl, _⟩ := id hv
  have HB0 : Hid (Below w.heap.size w (w.alloc (.cells t.cells 26))) := Lib.hid ((Below.refl _ _).alloc (Nat.le_refl _) _)
  have HT : Hid (Tbl (w.alloc (.cells t.cells 26)) w.heap.size t T) := Lib.hid ⟨Blk.new _ _ _, ht.later HB0.out⟩
  have HV := Lib.hid (hv.later HB0.out)
  clear ht hv
  cases xs with
  | nil =>
    show Calls _ _ _ _ fun e w' => e = .returned (.int .i64 0) ∧ _
    clear hck
    go_enter Tryd.func50, Tryd.ntmps50
    go_wp2_with fail
    go_ret
    exact ⟨rfl, HB0.out⟩
  | cons x r =>
    rw [ruleL_bits]
    have hsh := shape_of hck
    have HR := fun x => bidi_range hck x
    have hr := HR x
    have hF : 2 ^ (T.bidiOf x).toNat < 4096 := Nat.pow_lt_pow_right (a := 2) (n := 12) (by decide) (by omega)
    have hM := bmask_lt HR (x :: r)
    have hL := lastM_lt HR (x :: r)
    have HC : Hid (∀ (V : World), Below (w.alloc (.cells t.cells 26)).heap.size (w.alloc (.cells t.cells 26)) V → Calls Tryd.prog 78 #[.agg #[t.c0, t.c1, t.c2, t.c3, t.c4, t.c5, t.c6, t.c7, t.c8, t.c9, t.c10, t.c11], .int .i64 x] V fun e V' => e = .returned (.int .i64 (T.bidiOf x)) ∧ Below V.heap.size V V') := Lib.hid fun V hV => bidi_any t T x 0 1114111 V (HT.out.later hV).2 hsh.c3.1 hsh.c3.2.1
    have HOX : Hid (∀ (V : World), Below (w.alloc (.cells t.cells 26)).heap.size (w.alloc (.cells t.cells 26)) V → Calls Tryd.prog 77 #[.int .i64 (T.bidiOf x)] V fun e V' => e = .returned (.int .i64 ((2 ^ (T.bidiOf x).toNat : Nat) : Int)) ∧ Below V.heap.size V V') := Lib.hid fun V _ => (of_any _ V hr.1 hr.2).mono fun e w' ⟨he, hw⟩ => ⟨he, hw ▸ Below.refl _ _⟩
    have HCL : Hid (∀ (V : World), Below (w.alloc (.cells t.cells 26)).heap.size (w.alloc (.cells t.cells 26)) V → Calls Tryd.prog 52 #[.agg #[t.c0, t.c1, t.c2, t.c3, t.c4, t.c5, t.c6, t.c7, t.c8, t.c9, t.c10, t.c11], .slice A (x :: r).length c] V fun e V' => e = .returned (.int .i64 (bmask T (x :: r) : Nat)) ∧ Below V.heap.size V V') := Lib.hid fun V hV => classes_any t T _ _ V (HT.out.later hV).2 hck (HV.out.later hV)
    have HLA : Hid (∀ (V : World), Below (w.alloc (.cells t.cells 26)).heap.size (w.alloc (.cells t.cells 26)) V → Calls Tryd.prog 79 #[.agg #[t.c0, t.c1, t.c2, t.c3, t.c4, t.c5, t.c6, t.c7, t.c8, t.c9, t.c10, t.c11], .slice A (x :: r).length c] V fun e V' => e = .returned (.int .i64 (lastM T (x :: r) : Nat)) ∧ Below V.heap.size V V') := Lib.hid fun V hV => lastM_any t T _ _ V (HT.out.later hV).2 hck (HV.out.later hV)
    have HM1 : Hid (∀ W, Calls Tryd.prog 53 #[.int .i64 ((2 ^ (T.bidiOf x).toNat) : Nat), .int .i64 6] W fun e w' => e = .returned (.bool (inB (T.bidiOf x) [1, 2])) ∧ W = w') := Lib.hid fun W => meets_any _ _ (2 ^ (T.bidiOf x).toNat) 6 _ W rfl rfl hF (by decide) (meets_one set_rtl hr.1 hr.2)
    have HM2 : Hid (∀ W, Calls Tryd.prog 53 #[.int .i64 ((bmask T (x :: r)) : Nat), .int .i64 2049] W fun e w' => e = .returned (.bool (anyB T (x :: r) [0, 11])) ∧ W = w') := Lib.hid fun W => meets_any _ _ (bmask T (x :: r)) 2049 _ W rfl rfl hM (by decide) (meets_mask HR set_notRTL _)
    have HM3 : Hid (∀ W, Calls Tryd.prog 53 #[.int .i64 ((lastM T (x :: r)) : Nat), .int .i64 30] W fun e w' => e = .returned (.bool (inB (lastB T (x :: r)) [1, 2, 4, 3])) ∧ W = w') := Lib.hid fun W => meets_any _ _ (lastM T (x :: r)) 30 _ W rfl rfl hL (by decide) (meets_last HR set_closeRTL rfl _)
    have HM4 : Hid (∀ W, Calls Tryd.prog 53 #[.int .i64 ((bmask T (x :: r)) : Nat), .int .i64 16] W fun e w' => e = .returned (.bool (anyB T (x :: r) [4])) ∧ W = w') := Lib.hid fun W => meets_any _ _ (bmask T (x :: r)) 16 _ W rfl rfl hM (by decide) (meets_mask HR set_EN _)
    have HM5 : Hid (∀ W, Calls Tryd.prog 53 #[.int .i64 ((bmask T (x :: r)) : Nat), .int .i64 8] W fun e w' => e = .returned (.bool (anyB T (x :: r) [3])) ∧ W = w') := Lib.hid fun W => meets_any _ _ (bmask T (x :: r)) 8 _ W rfl rfl hM (by decide) (meets_mask HR set_AN _)
    have HM6 : Hid (∀ W, Calls Tryd.prog 53 #[.int .i64 ((2 ^ (T.bidiOf x).toNat) : Nat), .int .i64 1] W fun e w' => e = .returned (.bool (inB (T.bidiOf x) [0])) ∧ W = w') := Lib.hid fun W => meets_any _ _ (2 ^ (T.bidiOf x).toNat) 1 _ W rfl rfl hF (by decide) (meets_one set_L hr.1 hr.2)
    have HM7 : Hid (∀ W, Calls Tryd.prog 53 #[.int .i64 ((bmask T (x :: r)) : Nat), .int .i64 2062] W fun e w' => e = .returned (.bool (anyB T (x :: r) [1, 2, 3, 11])) ∧ W = w') := Lib.hid fun W => meets_any _ _ (bmask T (x :: r)) 2062 _ W rfl rfl hM (by decide) (meets_mask HR set_notLTR _)
    have HM8 : Hid (∀ W, Calls Tryd.prog 53 #[.int .i64 ((lastM T (x :: r)) : Nat), .int .i64 17] W fun e w' => e = .returned (.bool (inB (lastB T (x :: r)) [0, 4])) ∧ W = w') := Lib.hid fun W => meets_any _ _ (lastM T (x :: r)) 17 _ W rfl rfl hL (by decide) (meets_last HR set_closeLTR rfl _)
    have HO4 : Hid (∀ W, Calls Tryd.prog 77 #[.int .i64 4] W fun e w' => e = .returned (.int .i64 16) ∧ W = w') := Lib.hid fun W => (of_any 4 W (by decide) (by decide)).mono fun e w' ⟨he, hw⟩ => ⟨he.trans rfl, hw⟩
    have HO3 : Hid (∀ W, Calls Tryd.prog 77 #[.int .i64 3] W fun e w' => e = .returned (.int .i64 8) ∧ W = w') := Lib.hid fun W => (of_any 3 W (by decide) (by decide)).mono fun e w' ⟨he, hw⟩ => ⟨he.trans rfl, hw⟩
    have HO0 : Hid (∀ W, Calls Tryd.prog 77 #[.int .i64 0] W fun e w' => e = .returned (.int .i64 1) ∧ W = w') := Lib.hid fun W => (of_any 0 W (by decide) (by decide)).mono fun e w' ⟨he, hw⟩ => ⟨he.trans rfl, hw⟩
    obtain ⟨ad, rfl, ha, hce⟩ : ∃ ad, A = some ad ∧ ad.block < (w.alloc (.cells t.cells 26)).heap.size ∧ (w.alloc (.cells t.cells 26)).cell? ad = some (.int .i64 x) := by
      obtain ⟨_, _, hve, _, _, _, hcell⟩ := HV.out
      cases hve
      obtain ⟨ad, e, ha, hc⟩ := hcell 0 x rfl
      exact ⟨ad, e, ha, by simpa [Addr.add] using hc⟩
    have hpos : (0 : Int) < ((x :: r).length : Int) := by simp <;> omega
    have hne : (((x :: r).length : Int) == 0) = false := by simp <;> omega
    clear hck hsh HR hr hF hM hL
    generalize ((2 ^ (T.bidiOf x).toNat : Nat) : Int) = F at *
    generalize ((bmask T (x :: r) : Nat) : Int) = M at *
    generalize ((lastM T (x :: r) : Nat) : Int) = L at *
    generalize inB (T.bidiOf x) [1, 2] = b1 at *
    generalize anyB T (x :: r) [0, 11] = b2 at *
    generalize inB (lastB T (x :: r)) [1, 2, 4, 3] = b3 at *
    generalize anyB T (x :: r) [4] = b4 at *
    generalize anyB T (x :: r) [3] = b5 at *
    generalize inB (T.bidiOf x) [0] = b6 at *
    generalize anyB T (x :: r) [1, 2, 3, 11] = b7 at *
    generalize inB (lastB T (x :: r)) [0, 4] = b8 at *
    generalize T.bidiOf x = kx at *
    generalize (x :: r).length = ln at *
    go_enter Tryd.func50, Tryd.ntmps50
    go_upto_region 1 with fail
    generalize w.alloc (.cells t.cells 26) = w1 at *
    have e1 := cell_regrown hce
    clear hce ha
    go_upto_region 3 with fail
    obtain ⟨x0, x1, x2, x3, x4, x5, x6, x7, x8, x9, x10, x11⟩ := HT.out.1.tabG
    refine wp_region_quiet_below (by kernel_rfl) (by kernel_rfl) ?_
    repeat (go_big_quiet_step (first | (go_at_call 78; with_reducible exact quiet_t HC.out) | (go_at_call 77; with_reducible exact quiet_t HOX.out) | (go_at_call 52; with_reducible exact quiet_t HCL.out) | (go_at_call 79; with_reducible exact quiet_t HLA.out)))
    refine wpQuiet_nil ?_
    rintro _ ⟨⟨dq, osq⟩, rfl⟩
    have bq := below_regrown w1 dq osq
    clear x0 x1 x2 x3 x4 x5 x6 x7 x8 x9 x10 x11 e1 HC HOX HCL HLA
    have HBq := Lib.hid bq
    generalize Go.Sort.grow (redrawn w1 dq) osq = w5 at *
    clear bq HT HV
    cases b1
    · cases b6
      · go_wp2_with (first | (go_at_call 77; ((with_reducible refine (HO4.out _).mono ?_); rintro e w7 ⟨rfl, rfl⟩)) | (go_at_call 77; ((with_reducible refine (HO3.out _).mono ?_); rintro e w7 ⟨rfl, rfl⟩)) | (go_at_call 77; ((with_reducible refine (HO0.out _).mono ?_); rintro e w7 ⟨rfl, rfl⟩)) | (go_at_call 53; ((with_reducible refine (HM1.out _).mono ?_); rintro e w6 ⟨rfl, rfl⟩)) | (go_at_call 53; ((with_reducible refine (HM2.out _).mono ?_); rintro e w6 ⟨rfl, rfl⟩)) | (go_at_call 53; ((with_reducible refine (HM3.out _).mono ?_); rintro e w6 ⟨rfl, rfl⟩)) | (go_at_call 53; ((with_reducible refine (HM4.out _).mono ?_); rintro e w6 ⟨rfl, rfl⟩)) | (go_at_call 53; ((with_reducible refine (HM5.out _).mono ?_); rintro e w6 ⟨rfl, rfl⟩)) | (go_at_call 53; ((with_reducible refine (HM6.out _).mono ?_); rintro e w6 ⟨rfl, rfl⟩)) | (go_at_call 53; ((with_reducible refine (HM7.out _).mono ?_); rintro e w6 ⟨rfl, rfl⟩)) | (go_at_call 53; ((with_reducible refine (HM8.out _).mono ?_); rintro e w6 ⟨rfl, rfl⟩)))
        go_ret
        exact ⟨rfl, below_next HB0.out HBq.out⟩
      · cases b7
        · cases b8
          · go_wp2_with (first | (go_at_call 77; ((with_reducible refine (HO4.out _).mono ?_); rintro e w7 ⟨rfl, rfl⟩)) | (go_at_call 77; ((with_reducible refine (HO3.out _).mono ?_); rintro e w7 ⟨rfl, rfl⟩)) | (go_at_call 77; ((with_reducible refine (HO0.out _).mono ?_); rintro e w7 ⟨rfl, rfl⟩)) | (go_at_call 53; ((with_reducible refine (HM1.out _).mono ?_); rintro e w6 ⟨rfl, rfl⟩)) | (go_at_call 53; ((with_reducible refine (HM2.out _).mono ?_); rintro e w6 ⟨rfl, rfl⟩)) | (go_at_call 53; ((with_reducible refine (HM3.out _).mono ?_); rintro e w6 ⟨rfl, rfl⟩)) | (go_at_call 53; ((with_reducible refine (HM4.out _).mono ?_); rintro e w6 ⟨rfl, rfl⟩)) | (go_at_call 53; ((with_reducible refine (HM5.out _).mono ?_); rintro e w6 ⟨rfl, rfl⟩)) | (go_at_call 53; ((with_reducible refine (HM6.out _).mono ?_); rintro e w6 ⟨rfl, rfl⟩)) | (go_at_call 53; ((with_reducible refine (HM7.out _).mono ?_); rintro e w6 ⟨rfl, rfl⟩)) | (go_at_call 53; ((with_reducible refine (HM8.out _).mono ?_); rintro e w6 ⟨rfl, rfl⟩)))
            go_ret
            exact ⟨rfl, below_next HB0.out HBq.out⟩
          · go_wp2_with (first | (go_at_call 77; ((with_reducible refine (HO4.out _).mono ?_); rintro e w7 ⟨rfl, rfl⟩)) | (go_at_call 77; ((with_reducible refine (HO3.out _).mono ?_); rintro e w7 ⟨rfl, rfl⟩)) | (go_at_call 77; ((with_reducible refine (HO0.out _).mono ?_); rintro e w7 ⟨rfl, rfl⟩)) | (go_at_call 53; ((with_reducible refine (HM1.out _).mono ?_); rintro e w6 ⟨rfl, rfl⟩)) | (go_at_call 53; ((with_reducible refine (HM2.out _).mono ?_); rintro e w6 ⟨rfl, rfl⟩)) | (go_at_call 53; ((with_reducible refine (HM3.out _).mono ?_); rintro e w6 ⟨rfl, rfl⟩)) | (go_at_call 53; ((with_reducible refine (HM4.out _).mono ?_); rintro e w6 ⟨rfl, rfl⟩)) | (go_at_call 53; ((with_reducible refine (HM5.out _).mono ?_); rintro e w6 ⟨rfl, rfl⟩)) | (go_at_call 53; ((with_reducible refine (HM6.out _).mono ?_); rintro e w6 ⟨rfl, rfl⟩)) | (go_at_call 53; ((with_reducible refine (HM7.out _).mono ?_); rintro e w6 ⟨rfl, rfl⟩)) | (go_at_call 53; ((with_reducible refine (HM8.out _).mono ?_); rintro e w6 ⟨rfl, rfl⟩)))
            go_ret
            exact ⟨rfl, below_next HB0.out HBq.out⟩
        · go_wp2_with (first | (go_at_call 77; ((with_reducible refine (HO4.out _).mono ?_); rintro e w7 ⟨rfl, rfl⟩)) | (go_at_call 77; ((with_reducible refine (HO3.out _).mono ?_); rintro e w7 ⟨rfl, rfl⟩)) | (go_at_call 77; ((with_reducible refine (HO0.out _).mono ?_); rintro e w7 ⟨rfl, rfl⟩)) | (go_at_call 53; ((with_reducible refine (HM1.out _).mono ?_); rintro e w6 ⟨rfl, rfl⟩)) | (go_at_call 53; ((with_reducible refine (HM2.out _).mono ?_); rintro e w6 ⟨rfl, rfl⟩)) | (go_at_call 53; ((with_reducible refine (HM3.out _).mono ?_); rintro e w6 ⟨rfl, rfl⟩)) | (go_at_call 53; ((with_reducible refine (HM4.out _).mono ?_); rintro e w6 ⟨rfl, rfl⟩)) | (go_at_call 53; ((with_reducible refine (HM5.out _).mono ?_); rintro e w6 ⟨rfl, rfl⟩)) | (go_at_call 53; ((with_reducible refine (HM6.out _).mono ?_); rintro e w6 ⟨rfl, rfl⟩)) | (go_at_call 53; ((with_reducible refine (HM7.out _).mono ?_); rintro e w6 ⟨rfl, rfl⟩)) | (go_at_call 53; ((with_reducible refine (HM8.out _).mono ?_); rintro e w6 ⟨rfl, rfl⟩)))
          go_ret
          exact ⟨rfl, below_next HB0.out HBq.out⟩
    · cases b2
      · cases b3
        · go_wp2_with (first | (go_at_call 77; ((with_reducible refine (HO4.out _).mono ?_); rintro e w7 ⟨rfl, rfl⟩)) | (go_at_call 77; ((with_reducible refine (HO3.out _).mono ?_); rintro e w7 ⟨rfl, rfl⟩)) | (go_at_call 77; ((with_reducible refine (HO0.out _).mono ?_); rintro e w7 ⟨rfl, rfl⟩)) | (go_at_call 53; ((with_reducible refine (HM1.out _).mono ?_); rintro e w6 ⟨rfl, rfl⟩)) | (go_at_call 53; ((with_reducible refine (HM2.out _).mono ?_); rintro e w6 ⟨rfl, rfl⟩)) | (go_at_call 53; ((with_reducible refine (HM3.out _).mono ?_); rintro e w6 ⟨rfl, rfl⟩)) | (go_at_call 53; ((with_reducible refine (HM4.out _).mono ?_); rintro e w6 ⟨rfl, rfl⟩)) | (go_at_call 53; ((with_reducible refine (HM5.out _).mono ?_); rintro e w6 ⟨rfl, rfl⟩)) | (go_at_call 53; ((with_reducible refine (HM6.out _).mono ?_); rintro e w6 ⟨rfl, rfl⟩)) | (go_at_call 53; ((with_reducible refine (HM7.out _).mono ?_); rintro e w6 ⟨rfl, rfl⟩)) | (go_at_call 53; ((with_reducible refine (HM8.out _).mono ?_); rintro e w6 ⟨rfl, rfl⟩)))
          go_ret
          exact ⟨rfl, below_next HB0.out HBq.out⟩
        · cases b4
          · go_wp2_with (first | (go_at_call 77; ((with_reducible refine (HO4.out _).mono ?_); rintro e w7 ⟨rfl, rfl⟩)) | (go_at_call 77; ((with_reducible refine (HO3.out _).mono ?_); rintro e w7 ⟨rfl, rfl⟩)) | (go_at_call 77; ((with_reducible refine (HO0.out _).mono ?_); rintro e w7 ⟨rfl, rfl⟩)) | (go_at_call 53; ((with_reducible refine (HM1.out _).mono ?_); rintro e w6 ⟨rfl, rfl⟩)) | (go_at_call 53; ((with_reducible refine (HM2.out _).mono ?_); rintro e w6 ⟨rfl, rfl⟩)) | (go_at_call 53; ((with_reducible refine (HM3.out _).mono ?_); rintro e w6 ⟨rfl, rfl⟩)) | (go_at_call 53; ((with_reducible refine (HM4.out _).mono ?_); rintro e w6 ⟨rfl, rfl⟩)) | (go_at_call 53; ((with_reducible refine (HM5.out _).mono ?_); rintro e w6 ⟨rfl, rfl⟩)) | (go_at_call 53; ((with_reducible refine (HM6.out _).mono ?_); rintro e w6 ⟨rfl, rfl⟩)) | (go_at_call 53; ((with_reducible refine (HM7.out _).mono ?_); rintro e w6 ⟨rfl, rfl⟩)) | (go_at_call 53; ((with_reducible refine (HM8.out _).mono ?_); rintro e w6 ⟨rfl, rfl⟩)))
            go_ret
            exact ⟨by simp [ruleB], below_next HB0.out HBq.out⟩
          · cases b5
            · go_wp2_with (first | (go_at_call 77; ((with_reducible refine (HO4.out _).mono ?_); rintro e w7 ⟨rfl, rfl⟩)) | (go_at_call 77; ((with_reducible refine (HO3.out _).mono ?_); rintro e w7 ⟨rfl, rfl⟩)) | (go_at_call 77; ((with_reducible refine (HO0.out _).mono ?_); rintro e w7 ⟨rfl, rfl⟩)) | (go_at_call 53; ((with_reducible refine (HM1.out _).mono ?_); rintro e w6 ⟨rfl, rfl⟩)) | (go_at_call 53; ((with_reducible refine (HM2.out _).mono ?_); rintro e w6 ⟨rfl, rfl⟩)) | (go_at_call 53; ((with_reducible refine (HM3.out _).mono ?_); rintro e w6 ⟨rfl, rfl⟩)) | (go_at_call 53; ((with_reducible refine (HM4.out _).mono ?_); rintro e w6 ⟨rfl, rfl⟩)) | (go_at_call 53; ((with_reducible refine (HM5.out _).mono ?_); rintro e w6 ⟨rfl, rfl⟩)) | (go_at_call 53; ((with_reducible refine (HM6.out _).mono ?_); rintro e w6 ⟨rfl, rfl⟩)) | (go_at_call 53; ((with_reducible refine (HM7.out _).mono ?_); rintro e w6 ⟨rfl, rfl⟩)) | (go_at_call 53; ((with_reducible refine (HM8.out _).mono ?_); rintro e w6 ⟨rfl, rfl⟩)))
              go_ret
              exact ⟨by simp [ruleB], below_next HB0.out HBq.out⟩
            · go_wp2_with (first | (go_at_call 77; ((with_reducible refine (HO4.out _).mono ?_); rintro e w7 ⟨rfl, rfl⟩)) | (go_at_call 77; ((with_reducible refine (HO3.out _).mono ?_); rintro e w7 ⟨rfl, rfl⟩)) | (go_at_call 77; ((with_reducible refine (HO0.out _).mono ?_); rintro e w7 ⟨rfl, rfl⟩)) | (go_at_call 53; ((with_reducible refine (HM1.out _).mono ?_); rintro e w6 ⟨rfl, rfl⟩)) | (go_at_call 53; ((with_reducible refine (HM2.out _).mono ?_); rintro e w6 ⟨rfl, rfl⟩)) | (go_at_call 53; ((with_reducible refine (HM3.out _).mono ?_); rintro e w6 ⟨rfl, rfl⟩)) | (go_at_call 53; ((with_reducible refine (HM4.out _).mono ?_); rintro e w6 ⟨rfl, rfl⟩)) | (go_at_call 53; ((with_reducible refine (HM5.out _).mono ?_); rintro e w6 ⟨rfl, rfl⟩)) | (go_at_call 53; ((with_reducible refine (HM6.out _).mono ?_); rintro e w6 ⟨rfl, rfl⟩)) | (go_at_call 53; ((with_reducible refine (HM7.out _).mono ?_); rintro e w6 ⟨rfl, rfl⟩)) | (go_at_call 53; ((with_reducible refine (HM8.out _).mono ?_); rintro e w6 ⟨rfl, rfl⟩)))
              go_ret
              exact ⟨by simp [ruleB], below_next HB0.out HBq.out⟩
      · go_wp2_with (first | (go_at_call 77; ((with_reducible refine (HO4.out _).mono ?_); rintro e w7 ⟨rfl, rfl⟩)) | (go_at_call 77; ((with_reducible refine (HO3.out _).mono ?_); rintro e w7 ⟨rfl, rfl⟩)) | (go_at_call 77; ((with_reducible refine (HO0.out _).mono ?_); rintro e w7 ⟨rfl, rfl⟩)) | (go_at_call 53; ((with_reducible refine (HM1.out _).mono ?_); rintro e w6 ⟨rfl, rfl⟩)) | (go_at_call 53; ((with_reducible refine (HM2.out _).mono ?_); rintro e w6 ⟨rfl, rfl⟩)) | (go_at_call 53; ((with_reducible refine (HM3.out _).mono ?_); rintro e w6 ⟨rfl, rfl⟩)) | (go_at_call 53; ((with_reducible refine (HM4.out _).mono ?_); rintro e w6 ⟨rfl, rfl⟩)) | (go_at_call 53; ((with_reducible refine (HM5.out _).mono ?_); rintro e w6 ⟨rfl, rfl⟩)) | (go_at_call 53; ((with_reducible refine (HM6.out _).mono ?_); rintro e w6 ⟨rfl, rfl⟩)) | (go_at_call 53; ((with_reducible refine (HM7.out _).mono ?_); rintro e w6 ⟨rfl, rfl⟩)) | (go_at_call 53; ((with_reducible refine (HM8.out _).mono ?_); rintro e w6 ⟨rfl, rfl⟩)))
        go_ret
        exact ⟨rfl, below_next HB0.out HBq.out⟩
/-- What RTL and Rule hand back. -/
def rtlR (T : Tab) (xs : List Int) : Bool := accE T xs == 0 && anyB T xs [1, 2, 3]
def ruleR (T : Tab) (xs : List Int) : Int × Int := if accE T xs = 0 then (ruleL T xs, 0) else (0, accE T xs)
set_option maxRecDepth 100000 in
set_option maxHeartbeats 2000000 in
theorem rtl_any (t : Tv) (T : Tab) (v : Value) (xs : List Int) (w : World) (ht : TabR w w.heap.size t T) (hg : Glob w) (hv : Ints w w.heap.size .i64 v xs) :
    Calls Tryd.prog 25 #[t.val, v] w fun e w' => e = .returned (.bool (rtlR T xs)) ∧ Below w.heap.size w w' := by
  obtain ⟨A, c, rfl, _⟩ := id hv
  have HB0 : Hid (Below w.heap.size w (w.alloc (.cells t.cells 26))) := Lib.hid ((Below.refl _ _).alloc (Nat.le_refl _) _)
  have HT : Hid (Tbl (w.alloc (.cells t.cells 26)) w.heap.size t T) := Lib.hid ⟨Blk.new _ _ _, ht.later HB0.out⟩
  have HV := Lib.hid (hv.later HB0.out)
  have HG := Lib.hid (hg.later HB0.out)
  clear ht hv hg
  have HO := Lib.hid (order_any t T _ xs _ HT.out.2 HG.out HV.out)
  by_cases h0 : accE T xs = 0
  · have hck := (accE_zero h0).1
    have HE : Hid (rtlR T xs = anyB T xs [1, 2, 3]) := Lib.hid (by unfold rtlR; rw [h0]; rfl)
    have HCL := Lib.hid (fun W (h : Below (w.alloc (.cells t.cells 26)).heap.size (w.alloc (.cells t.cells 26)) W) => classes_any t T _ xs W (HT.out.later h).2 hck (HV.out.later h))
    have HM := Lib.hid (fun W => meets_any _ _ (bmask T xs) 14 _ W rfl rfl (bmask_lt (bidi_range hck) _) (by decide) (meets_mask (bidi_range hck) set_strong xs))
    rw [HE.out]
    rw [h0] at HO
    clear h0 hck HE
    generalize ordL T xs = ol at *
    generalize ((bmask T xs : Nat) : Int) = M at *
    generalize anyB T xs [1, 2, 3] = bb at *
    go_enter Tryd.func25, Tryd.ntmps25
    go_upto_region 1 with fail
    generalize w.alloc (.cells t.cells 26) = w1 at *
    obtain ⟨x0, x1, x2, x3, x4, x5, x6, x7, x8, x9, x10, x11⟩ := HT.out.1.tab
    go_upto_region 2 with (go_at_call 43; refine HO.out.mono ?_; rintro e w2 ⟨u2, rfl, ho2, b2⟩; obtain ⟨A2, c2, rfl, _⟩ := id (Ints.of_own ho2); clear ho2)
    clear x0 x1 x2 x3 x4 x5 x6 x7 x8 x9 x10 x11
    obtain ⟨x0, x1, x2, x3, x4, x5, x6, x7, x8, x9, x10, x11⟩ := (HT.out.later b2).1.tab
    go_wp2_with (first
      | (go_at_call 52; refine (HCL.out _ b2).mono ?_; rintro e w3 ⟨rfl, b3⟩)
      | (go_at_call 53; refine (HM.out _).mono ?_; rintro e w4 ⟨rfl, rfl⟩))
    go_ret
    exact ⟨rfl, below_next (below_next HB0.out b2) b3⟩
  · have HE : Hid (rtlR T xs = false) := Lib.hid (by unfold rtlR; rw [show (accE T xs == 0) = false by simpa using h0]; rfl)
    have hb : (accE T xs == 0) = false := by simpa using h0
    rw [HE.out]
    clear h0 HE
    generalize ordL T xs = ol at *
    generalize accE T xs = er at *
    go_enter Tryd.func25, Tryd.ntmps25
    go_upto_region 1 with fail
    generalize w.alloc (.cells t.cells 26) = w1 at *
    obtain ⟨x0, x1, x2, x3, x4, x5, x6, x7, x8, x9, x10, x11⟩ := HT.out.1.tab
    go_wp2_with (go_at_call 43; refine HO.out.mono ?_; rintro e w2 ⟨u2, rfl, ho2, b2⟩; obtain ⟨A2, c2, rfl, _⟩ := id (Ints.of_own ho2); clear ho2)
    go_ret
    exact ⟨rfl, below_next HB0.out b2⟩
set_option maxRecDepth 100000 in
set_option maxHeartbeats 2000000 in
theorem rule16_any (t : Tv) (T : Tab) (v : Value) (xs : List Int) (w : World) (ht : TabR w w.heap.size t T) (hg : Glob w) (hv : Ints w w.heap.size .i64 v xs) :
    Calls Tryd.prog 22 #[t.val, v] w fun e w' => e = .returned (.tuple #[.int .i64 (ruleR T xs).1, .int .i64 (ruleR T xs).2]) ∧ Below w.heap.size w w' := by
  obtain ⟨A, c, rfl, _⟩ := id hv
  have HB0 : Hid (Below w.heap.size w (w.alloc (.cells t.cells 26))) := Lib.hid ((Below.refl _ _).alloc (Nat.le_refl _) _)
  have HT : Hid (Tbl (w.alloc (.cells t.cells 26)) w.heap.size t T) := Lib.hid ⟨Blk.new _ _ _, ht.later HB0.out⟩
  have HV := Lib.hid (hv.later HB0.out)
  have HG := Lib.hid (hg.later HB0.out)
  clear ht hv hg
  have HO := Lib.hid (order_any t T _ xs _ HT.out.2 HG.out HV.out)
  by_cases h0 : accE T xs = 0
  · have hck := (accE_zero h0).1
    have HE : Hid (ruleR T xs = (ruleL T xs, 0)) := Lib.hid (by unfold ruleR; rw [if_pos h0])
    have HRU := Lib.hid (fun W (h : Below (w.alloc (.cells t.cells 26)).heap.size (w.alloc (.cells t.cells 26)) W) => rule_any t T _ xs W (HT.out.later h).2 hck (HV.out.later h))
    rw [HE.out]
    rw [h0] at HO
    clear h0 hck HE
    generalize ordL T xs = ol at *
    generalize ruleL T xs = rl at *
    go_enter Tryd.func22, Tryd.ntmps22
    go_upto_region 1 with fail
    generalize w.alloc (.cells t.cells 26) = w1 at *
    obtain ⟨x0, x1, x2, x3, x4, x5, x6, x7, x8, x9, x10, x11⟩ := HT.out.1.tab
    go_upto_region 2 with (go_at_call 43; refine HO.out.mono ?_; rintro e w2 ⟨u2, rfl, ho2, b2⟩; obtain ⟨A2, c2, rfl, _⟩ := id (Ints.of_own ho2); clear ho2)
    clear x0 x1 x2 x3 x4 x5 x6 x7 x8 x9 x10 x11
    obtain ⟨x0, x1, x2, x3, x4, x5, x6, x7, x8, x9, x10, x11⟩ := (HT.out.later b2).1.tab
    go_wp2_with (go_at_call 50; refine (HRU.out _ b2).mono ?_; rintro e w3 ⟨rfl, b3⟩)
    go_ret2
    exact ⟨rfl, below_next (below_next HB0.out b2) b3⟩
  · have HE : Hid (ruleR T xs = (0, accE T xs)) := Lib.hid (by unfold ruleR; rw [if_neg h0])
    have hb : (accE T xs != 0) = true := by simpa using h0
    rw [HE.out]
    clear h0 HE
    generalize ordL T xs = ol at *
    generalize accE T xs = er at *
    go_enter Tryd.func22, Tryd.ntmps22
    go_upto_region 1 with fail
    generalize w.alloc (.cells t.cells 26) = w1 at *
    obtain ⟨x0, x1, x2, x3, x4, x5, x6, x7, x8, x9, x10, x11⟩ := HT.out.1.tab
    go_wp2_with (go_at_call 43; refine HO.out.mono ?_; rintro e w2 ⟨u2, rfl, ho2, b2⟩; obtain ⟨A2, c2, rfl, _⟩ := id (Ints.of_own ho2); clear ho2)
    go_ret2
    exact ⟨rfl, below_next HB0.out b2⟩
end Go.Proofs.YtjigjjbhdgpfjaaDoor
/-
  What Domain hands back, in plain Lean.
-/
namespace Go.Proofs.YtjigjjbhdgpfjaaDoor
open Go.RowKit ND

/-- The first label that is not acceptable. -/
def firstA (T : Tab) : Nat → List (List Int) → Option (Int × Int)
  | _, [] => none
  | i, l :: r => if accE T l ≠ 0 then some ((i : Int), accE T l) else firstA T (i + 1) r
/-- What Domain hands back. -/
def domR (T : Tab) (ls : List (List Int)) : Int × Int := match firstA T 0 ls with
  | some r => r
  | none => if ls.any (fun l => anyB T l [1, 2, 3]) = true then rulesGo T 0 ls else (0, 0)
theorem domR_some {T : Tab} {ls : List (List Int)} {r : Int × Int} (h : firstA T 0 ls = some r) : domR T ls = r := by unfold domR; rw [h]
theorem domR_none {T : Tab} {ls : List (List Int)} (h : firstA T 0 ls = none) : domR T ls = if ls.any (fun l => anyB T l [1, 2, 3]) = true then rulesGo T 0 ls else (0, 0) := by unfold domR; rw [h]
theorem firstA_step {T : Tab} {ls : List (List Int)} {i : Nat} {l : List Int} (hl : ls[i]? = some l) : firstA T i (ls.drop i) = if accE T l ≠ 0 then some ((i : Int), accE T l) else firstA T (i + 1) (ls.drop (i + 1)) := by
  obtain ⟨h1, e⟩ := List.getElem?_eq_some_iff.1 hl
  rw [List.drop_eq_getElem_cons h1, e, firstA]
theorem rulesGo_step {T : Tab} {ls : List (List Int)} {i : Nat} {l : List Int} (hl : ls[i]? = some l) : rulesGo T i (ls.drop i) = if ruleL T l ≠ 0 then ((i : Int), 19) else rulesGo T (i + 1) (ls.drop (i + 1)) := by
  obtain ⟨h1, e⟩ := List.getElem?_eq_some_iff.1 hl
  rw [List.drop_eq_getElem_cons h1, e, rulesGo]
theorem firstA_none {T : Tab} : ∀ {ls : List (List Int)} {i : Nat}, firstA T i ls = none ↔ ∀ l ∈ ls, accE T l = 0 := by
  intro ls
  induction ls with
  | nil => intro i; simp [firstA]
  | cons l r ih =>
    intro i
    rw [firstA]
    by_cases h : accE T l = 0
    · rw [if_neg (by omega), ih]; simp [h]
    · rw [if_pos h]; simp [h]
theorem rulesGo_zero {T : Tab} : ∀ {ls : List (List Int)} {i : Nat}, (rulesGo T i ls).2 = 0 ∨ (rulesGo T i ls).2 = 19 := by
  intro ls
  induction ls with
  | nil => intro i; exact .inl rfl
  | cons l r ih =>
    intro i
    rw [rulesGo]
    split
    · exact .inr rfl
    · exact ih
theorem rulesGo_err {T : Tab} : ∀ {ls : List (List Int)} {i : Nat}, (rulesGo T i ls).2 = 0 ↔ ∀ l ∈ ls, ruleL T l = 0 := by
  intro ls
  induction ls with
  | nil => intro i; simp [rulesGo]
  | cons l r ih =>
    intro i
    rw [rulesGo]
    by_cases h : ruleL T l = 0
    · rw [if_neg (by omega), ih]; simp [h]
    · rw [if_pos h]; simp [h]
theorem take_any {α : Type} {p : α → Bool} {ls : List α} {i : Nat} {l : α} (hl : ls[i]? = some l) : (ls.take (i + 1)).any p = ((ls.take i).any p || p l) := by
  obtain ⟨h1, e⟩ := List.getElem?_eq_some_iff.1 hl
  rw [List.take_succ_eq_append_getElem h1, List.any_append, e]; simp
end Go.Proofs.YtjigjjbhdgpfjaaDoor
/-
  The walk through Domain of package bidi.
-/
namespace Go.Proofs.YtjigjjbhdgpfjaaDoor
open Go.RowKit ND

set_option maxRecDepth 100000 in
set_option maxHeartbeats 4000000 in
theorem domain_any (t : Tv) (T : Tab) (v : Value) (ls : List (List Int)) (w : World) (ht : TabR w w.heap.size t T) (hg : Glob w) (hv : Lists w w.heap.size v ls) :
    Calls Tryd.prog 26 #[t.val, v] w fun e w' => e = .returned (.tuple #[.int .i64 (domR T ls).1, .int .i64 (domR T ls).2]) ∧ Below w.heap.size w w' := by
  obtain ⟨A, c, rfl, _⟩ := id hv
  have HB0 : Hid (Below w.heap.size w (w.alloc (.cells t.cells 26))) := Lib.hid ((Below.refl _ _).alloc (Nat.le_refl _) _)
  have HT : Hid (Tbl (w.alloc (.cells t.cells 26)) w.heap.size t T) := Lib.hid ⟨Blk.new _ _ _, ht.later HB0.out⟩
  have HV := Lib.hid (hv.later HB0.out)
  have HG := Lib.hid (hg.later HB0.out)
  clear ht hv hg
  go_enter Tryd.func26, Tryd.ntmps26
  go_upto_region 1 with fail
  generalize w.alloc (.cells t.cells 26) = w1 at *
  obtain ⟨tb, htb⟩ : ∃ tb, w.heap.size = tb := ⟨_, rfl⟩
  rw [htb] at HT
  simp only [htb]
  have hml : ls.length ≤ 9223372036854775807 := by obtain ⟨_, _, _, h1, h2, _⟩ := HV.out; unfold maxLen at h2; omega
  have HFA : Hid (∀ r, firstA T 0 ls = some r → domR T ls = r) := Lib.hid fun r h => domR_some h
  have HFN : Hid (firstA T 0 ls = none → domR T ls = if ls.any (fun l => anyB T l [1, 2, 3]) = true then rulesGo T 0 ls else (0, 0)) := Lib.hid domR_none
  go_wp2_with fail
  go_loopw [15, 6] (fun si s6 wr => ∃ (k : Nat) (b : Bool), k ≤ ls.length ∧ si = .int .i64 k ∧ s6 = .bool b ∧ Hid (b = (ls.take k).any (fun l => anyB T l [1, 2, 3]) ∧ firstA T k (ls.drop k) = firstA T 0 ls) ∧ Hid (Below w1.heap.size w1 wr)) (fun si _ _ => ls.length - (intOf si).toNat)
  case atStart => exact ⟨0, false, by omega, rfl, rfl, Lib.hid ⟨rfl, rfl⟩, Lib.hid (Below.refl _ _)⟩
  case round =>
    obtain ⟨k, b, hk, rfl, rfl, HS, HBr⟩ := hrel
    by_cases hlt : k < ls.length
    · obtain ⟨x, hxk⟩ : ∃ x, ls[k]? = some x := ⟨_, List.getElem?_eq_getElem hlt⟩
      obtain ⟨A0, cc0, ad, A', c', hve, rfl, ha, hce, hil⟩ := HV.out.at_ hxk
      cases hve
      have e1 := (HBr.out.cell (p := ad.add k) (by rw [block_of_add]; exact ha)).trans hce
      have HIL := Lib.hid (hil.below HBr.out |>.more HBr.out.size)
      have k0 : (0 : Int) ≤ (k : Int) := by omega
      have k1 : (k : Int) < (ls.length : Int) := by omega
      have HTr := Lib.hid (HT.out.later HBr.out)
      have HGr := Lib.hid (HG.out.later HBr.out)
      have HO := Lib.hid (order_any t T _ x _ HTr.out.2 HGr.out HIL.out)
      have HST := Lib.hid (firstA_step (T := T) hxk)
      have HTK := Lib.hid (take_any (p := fun l => anyB T l [1, 2, 3]) hxk)
      have HRT := Lib.hid (fun W (h : Below wr.heap.size wr W) => rtl_any t T _ x W (HTr.out.later h).2 (HGr.out.later h) (HIL.out.later h))
      clear hxk ha hce hil
      by_cases h0 : accE T x = 0
      · have HRB : Hid (rtlR T x = anyB T x [1, 2, 3]) := Lib.hid (by unfold rtlR; rw [h0]; rfl)
        have HN1 : Hid (firstA T (k + 1) (ls.drop (k + 1)) = firstA T 0 ls) := Lib.hid (by rw [← HS.out.2, HST.out, if_neg (by omega)])
        rw [h0] at HO
        rw [HRB.out] at HRT
        clear h0
        generalize ordL T x = ol at *
        cases b with
        | true =>
          have HN : Hid (true = (ls.take (k + 1)).any (fun l => anyB T l [1, 2, 3])) := Lib.hid (by rw [HTK.out, ← HS.out.1]; rfl)
          obtain ⟨x0, x1, x2, x3, x4, x5, x6, x7, x8, x9, x10, x11⟩ := HTr.out.1.tab
          go_wp2_with (go_at_call 43; refine HO.out.mono ?_; rintro e w3 ⟨u2, rfl, ho2, b3⟩; obtain ⟨A2, c2, rfl, _⟩ := id (Ints.of_own ho2); clear ho2)
          go_roundw
          case rel => exact ⟨k + 1, true, by omega, by go_num, rfl, Lib.hid ⟨HN.out, HN1.out⟩, Lib.hid (below_then HBr.out (Nat.le_refl _) b3)⟩
          case measure => simp [intOf]; omega
        | false =>
          have HN : Hid (anyB T x [1, 2, 3] = (ls.take (k + 1)).any (fun l => anyB T l [1, 2, 3])) := Lib.hid (by rw [HTK.out, ← HS.out.1]; rfl)
          clear HRB HTK HST
          generalize anyB T x [1, 2, 3] = bx at *
          obtain ⟨x0, x1, x2, x3, x4, x5, x6, x7, x8, x9, x10, x11⟩ := HTr.out.1.tab
          go_upto_region 8 with (go_at_call 43; refine HO.out.mono ?_; rintro e w3 ⟨u2, rfl, ho2, b3⟩; obtain ⟨A2, c2, rfl, _⟩ := id (Ints.of_own ho2); clear ho2)
          clear x0 x1 x2 x3 x4 x5 x6 x7 x8 x9 x10 x11
          obtain ⟨x0, x1, x2, x3, x4, x5, x6, x7, x8, x9, x10, x11⟩ := (HTr.out.later b3).1.tab
          go_wp2_with (go_at_call 25; refine (HRT.out _ b3).mono ?_; rintro e w4 ⟨rfl, b4⟩)
          go_roundw
          case rel => exact ⟨k + 1, bx, by omega, by go_num, rfl, Lib.hid ⟨HN.out, HN1.out⟩, Lib.hid (below_then HBr.out (Nat.le_refl _) (below_next b3 b4))⟩
          case measure => simp [intOf]; omega
      · have HE : Hid (domR T ls = ((k : Int), accE T x)) := Lib.hid (HFA.out _ (by rw [← HS.out.2, HST.out, if_pos h0]))
        have hb : (accE T x != 0) = true := by simpa using h0
        clear h0 HST HTK HRT
        generalize ordL T x = ol at *
        generalize accE T x = er at *
        obtain ⟨x0, x1, x2, x3, x4, x5, x6, x7, x8, x9, x10, x11⟩ := HTr.out.1.tab
        go_wp2_with (go_at_call 43; refine HO.out.mono ?_; rintro e w3 ⟨u2, rfl, ho2, b3⟩; obtain ⟨A2, c2, rfl, _⟩ := id (Ints.of_own ho2); clear ho2)
        go_ret2
        rw [HE.out]
        exact ⟨rfl, below_w HB0.out (below_then HBr.out (Nat.le_refl _) b3)⟩
    · have HN : Hid (firstA T 0 ls = none) := Lib.hid (by rw [← HS.out.2, List.drop_of_length_le (by omega)]; rfl)
      have HRE := Lib.hid (HFN.out HN.out)
      have HAC := Lib.hid (firstA_none.1 HN.out)
      have HB : Hid (b = ls.any (fun l => anyB T l [1, 2, 3])) := Lib.hid (by have := HS.out.1; rwa [List.take_of_length_le (by omega)] at this)
      have HRB : Hid (domR T ls = if b = true then rulesGo T 0 ls else (0, 0)) := Lib.hid (by rw [HRE.out, ← HB.out])
      have hq : ¬ (k : Int) < (ls.length : Int) := by omega
      have HBr0 := Lib.hid HBr.out.size
      have HT2 := Lib.hid (HT.out.later HBr.out)
      have HV2 := Lib.hid (HV.out.later HBr.out)
      have HB2 := Lib.hid (below_next HB0.out HBr.out)
      clear HS HN HRE HB HFA HFN HT HV HG HB0 HBr hlt hk
      generalize wr = w9 at *
      go_wp2_with fail
      go_loopw [39] (fun si wr => ∃ (k : Nat), k ≤ ls.length ∧ si = .int .i64 k ∧ Hid (b = true → rulesGo T k (ls.drop k) = rulesGo T 0 ls) ∧ Hid (Below w9.heap.size w9 wr)) (fun si _ => ls.length - (intOf si).toNat)
      case atStart => exact ⟨0, by omega, rfl, Lib.hid fun _ => rfl, Lib.hid (Below.refl _ _)⟩
      case round =>
        obtain ⟨k, hk, rfl, HS, HBr⟩ := hrel
        by_cases hlt : k < ls.length
        · obtain ⟨x, hxk⟩ : ∃ x, ls[k]? = some x := ⟨_, List.getElem?_eq_getElem hlt⟩
          have HX0 := Lib.hid (HAC.out x (List.mem_of_getElem? hxk))
          obtain ⟨A0, cc0, ad, A', c', hve, rfl, ha, hce, hil⟩ := HV2.out.at_ hxk
          cases hve
          have e1 := (HBr.out.cell (p := ad.add k) (by rw [block_of_add]; exact ha)).trans hce
          have HIL := Lib.hid (hil.below HBr.out |>.more HBr.out.size)
          have k0 : (0 : Int) ≤ (k : Int) := by omega
          have k1 : (k : Int) < (ls.length : Int) := by omega
          have HTr := Lib.hid (HT2.out.later HBr.out)
          have HRU := Lib.hid (rule_any t T _ x _ HTr.out.2 (accE_zero HX0.out).1 HIL.out)
          have HST := Lib.hid (rulesGo_step (T := T) hxk)
          clear hxk ha hce hil
          cases b with
          | false =>
            go_wp2_with fail
            go_roundw
            case rel => exact ⟨k + 1, by omega, by go_num, Lib.hid (fun h => by cases h), HBr⟩
            case measure => simp [intOf]; omega
          | true =>
            by_cases hr : ruleL T x = 0
            · have HN : Hid (rulesGo T (k + 1) (ls.drop (k + 1)) = rulesGo T 0 ls) := Lib.hid (by rw [← HS.out rfl, HST.out, if_neg (by omega)])
              rw [hr] at HRU
              clear hr HST
              obtain ⟨x0, x1, x2, x3, x4, x5, x6, x7, x8, x9, x10, x11⟩ := HTr.out.1.tab
              go_wp2_with (go_at_call 50; refine HRU.out.mono ?_; rintro e w3 ⟨rfl, b3⟩)
              go_roundw
              case rel => exact ⟨k + 1, by omega, by go_num, Lib.hid (fun _ => HN.out), Lib.hid (below_then HBr.out (Nat.le_refl _) b3)⟩
              case measure => simp [intOf]; omega
            · have HE : Hid (domR T ls = ((k : Int), 19)) := Lib.hid ((HRB.out.trans (if_pos rfl)).trans (by rw [← HS.out rfl, HST.out, if_pos hr]))
              have hb : (ruleL T x != 0) = true := by simpa using hr
              clear hr HST
              generalize ruleL T x = rl at *
              obtain ⟨x0, x1, x2, x3, x4, x5, x6, x7, x8, x9, x10, x11⟩ := HTr.out.1.tab
              go_wp2_with (go_at_call 50; refine HRU.out.mono ?_; rintro e w3 ⟨rfl, b3⟩)
              go_ret2
              rw [HE.out]
              exact ⟨rfl, below_w HB2.out (below_then HBr.out (Nat.le_refl _) b3)⟩
        · have HE : Hid (domR T ls = (0, 0)) := Lib.hid (by
            rw [HRB.out]
            split
            · rename_i hb
              rw [← HS.out hb, List.drop_of_length_le (by omega)]; rfl
            · rfl)
          go_wp2_with fail
          go_ret2
          rw [HE.out]
          exact ⟨rfl, below_w HB2.out HBr.out⟩
end Go.Proofs.YtjigjjbhdgpfjaaDoor
/-
  Literals of one, two and three slices.
-/
namespace Go.Proofs.YtjigjjbhdgpfjaaDoor
open Go.RowKit

theorem lists_one (w : World) (u : Value) (xs : List Int) (h1 : Ints w w.heap.size .i64 u xs) :
    Lists (w.alloc (.cells #[u] 22)) (w.alloc (.cells #[u] 22)).heap.size (.slice (some ⟨w.heap.size, 0, none⟩) 1 1) [xs] :=
  lists_lit w [u] [xs] rfl (by simp) fun i a ys h h' => by
    match i, h, h' with
    | 0, h, h' => simp at h h'; subst h h'; exact h1
    | i + 1, h, _ => simp at h
theorem lists_two (w : World) (u v : Value) (xs ys : List Int) (h1 : Ints w w.heap.size .i64 u xs) (h2 : Ints w w.heap.size .i64 v ys) :
    Lists (w.alloc (.cells #[u, v] 22)) (w.alloc (.cells #[u, v] 22)).heap.size (.slice (some ⟨w.heap.size, 0, none⟩) 2 2) [xs, ys] :=
  lists_lit w [u, v] [xs, ys] rfl (by simp) fun i a zs h h' => by
    match i, h, h' with
    | 0, h, h' => simp at h h'; subst h h'; exact h1
    | 1, h, h' => simp at h h'; subst h h'; exact h2
    | i + 2, h, _ => simp at h
theorem lists_three (w : World) (u v z : Value) (xs ys zs : List Int) (h1 : Ints w w.heap.size .i64 u xs) (h2 : Ints w w.heap.size .i64 v ys) (h3 : Ints w w.heap.size .i64 z zs) :
    Lists (w.alloc (.cells #[u, v, z] 22)) (w.alloc (.cells #[u, v, z] 22)).heap.size (.slice (some ⟨w.heap.size, 0, none⟩) 3 3) [xs, ys, zs] :=
  lists_lit w [u, v, z] [xs, ys, zs] rfl (by simp) fun i a qs h h' => by
    match i, h, h' with
    | 0, h, h' => simp at h h'; subst h h'; exact h1
    | 1, h, h' => simp at h h'; subst h h'; exact h2
    | 2, h, h' => simp at h h'; subst h h'; exact h3
    | i + 3, h, _ => simp at h
end Go.Proofs.YtjigjjbhdgpfjaaDoor
