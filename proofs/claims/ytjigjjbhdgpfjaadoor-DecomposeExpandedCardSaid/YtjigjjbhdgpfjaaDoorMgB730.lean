/-
  Merged texts: lemmas and walks that the last text of this claim leans on.
-/
import Derived.Test.YtjigjjbhdgpfjaaDoorMgB727
import Derived.Test.YtjigjjbhdgpfjaaDoorMgB726
import Derived.Test.YtjigjjbhdgpfjaaDoorMgB729
import Derived.Test.YtjigjjbhdgpfjaaDoorMgB79
import Derived.Test.YtjigjjbhdgpfjaaDoorMgB78
import Derived.Test.YtjigjjbhdgpfjaaDoorMgB719
import Derived.Test.YtjigjjbhdgpfjaaDoorMgB715
import Derived.Test.YtjigjjbhdgpfjaaDoorMgB71
import Derived.Test.YtjigjjbhdgpfjaaDoorMgB724
import Derived.Test.YtjigjjbhdgpfjaaDoorMgB723
import Derived.Test.YtjigjjbhdgpfjaaDoorMgB721
import Derived.Test.YtjigjjbhdgpfjaaDoorMgB75
import Derived.Test.YtjigjjbhdgpfjaaDoorMgB710
/-
  The walks through the reference's expand and One.
-/
namespace Go.Proofs.YtjigjjbhdgpfjaaDoor
open Go.RowKit ND


set_option maxRecDepth 100000 in
set_option maxHeartbeats 1000000 in
theorem refExpand_any (t : Tv) (T : Tab) (hD : DecOk T) (c : Int) (w : World) (ht : TabR w w.heap.size t T) :
    Calls Tryd.prog 42 #[t.val, .int .i64 c] w (RetInts w (expandL T c)) := by
  have HB0 : Hid (Below w.heap.size w (w.alloc (.cells t.cells 26))) := Lib.hid ((Below.refl _ _).alloc (Nat.le_refl _) _)
  have HT : Hid (Tbl (w.alloc (.cells t.cells 26)) w.heap.size t T) := Lib.hid ⟨Blk.new _ _ _, ht.later HB0.out⟩
  clear ht
  have HH := Lib.hid (fun W => refHdec_any c W)
  have HF := Lib.hid (fun W (h : Below (w.alloc (.cells t.cells 26)).heap.size (w.alloc (.cells t.cells 26)) W) => full_any t T c W (HT.out.later h).2 hD.ne)
  rw [hD.full c] at HF
  cases hs : sylB c
  · rw [expandL_not hs]
    rw [hangD_none hs] at HH
    clear hs hD
    generalize expF T.decomps T.decomps.length c = el at *
    go_enter Tryd.func42, Tryd.ntmps42
    go_upto_region 1 with fail
    generalize w.alloc (.cells t.cells 26) = w1 at *
    obtain ⟨x0, x1, x2, x3, x4, x5, x6, x7, x8, x9, x10, x11⟩ := HT.out.1.tab
    go_upto_region 4 with (go_at_call 20; refine (HH.out _).mono ?_; rintro e w2 ⟨u, rfl, hu, hun, b2⟩; obtain rfl := hun rfl; clear hu hun)
    clear x0 x1 x2 x3 x4 x5 x6 x7 x8 x9 x10 x11
    obtain ⟨x0, x1, x2, x3, x4, x5, x6, x7, x8, x9, x10, x11⟩ := (HT.out.later b2).1.tab
    go_wp2_with (go_at_call 74; refine (HF.out _ b2).mono ?_; rintro e w3 ⟨u3, rfl, ho3, b3⟩)
    go_ret
    exact ⟨u3, rfl, ho3, below_next (below_next HB0.out b2) b3⟩
  · have hne := length_pos_ne (hangD_ne hs)
    have h3 := hangD_len c
    rw [expandL_syl hs]
    clear hs hD
    generalize hangD c = hd at *
    have hp : (0 : Int) < (hd.length : Int) := by omega
    go_enter Tryd.func42, Tryd.ntmps42
    go_upto_region 1 with fail
    generalize w.alloc (.cells t.cells 26) = w1 at *
    obtain ⟨x0, x1, x2, x3, x4, x5, x6, x7, x8, x9, x10, x11⟩ := HT.out.1.tab
    go_wp2_with (go_at_call 20; refine (HH.out _).mono ?_; rintro e w2 ⟨u, rfl, hu, hun, b2⟩; obtain ⟨A2, c2, rfl, _⟩ := id hu; have HU := Lib.hid hu; clear hu hun)
    go_ret
    exact ⟨_, rfl, HU.out, below_next HB0.out b2⟩

set_option maxRecDepth 100000 in
set_option maxHeartbeats 1000000 in
theorem refOne_any (t : Tv) (T : Tab) (c : Int) (w : World) (ht : TabR w w.heap.size t T) :
    Calls Tryd.prog 14 #[t.val, .int .i64 c] w (RetInts w (oneL T c)) := by
  have HB0 : Hid (Below w.heap.size w (w.alloc (.cells t.cells 26))) := Lib.hid ((Below.refl _ _).alloc (Nat.le_refl _) _)
  have HT : Hid (Tbl (w.alloc (.cells t.cells 26)) w.heap.size t T) := Lib.hid ⟨Blk.new _ _ _, ht.later HB0.out⟩
  clear ht
  have HL := Lib.hid (refScalar_any c)
  have HK := Lib.hid (fun W (h : Below (w.alloc (.cells t.cells 26)).heap.size (w.alloc (.cells t.cells 26)) W) => check_ref t T W (HT.out.later h).2)
  cases hs : scalarB c
  · have he : oneL T c = [] := by unfold oneL; rw [if_neg (by simp [hs])]
    rw [hs] at HL
    rw [he]
    clear hs he HK
    go_enter Tryd.func14, Tryd.ntmps14
    go_upto_region 1 with fail
    generalize w.alloc (.cells t.cells 26) = w1 at *
    obtain ⟨x0, x1, x2, x3, x4, x5, x6, x7, x8, x9, x10, x11⟩ := HT.out.1.tab
    go_wp2_with (go_at_call 40; refine (HL.out _).mono ?_; rintro e w2 ⟨rfl, rfl⟩)
    go_ret
    exact ⟨_, rfl, Ints.none_, HB0.out⟩
  · rw [hs] at HL
    by_cases hck : T.check = 0
    · have he : oneL T c = expandL T c := by unfold oneL; rw [if_pos ⟨hs, hck⟩]
      have HF := Lib.hid (fun W (h : Below (w.alloc (.cells t.cells 26)).heap.size (w.alloc (.cells t.cells 26)) W) => refExpand_any t T (decOk_of hck) c W (HT.out.later h).2)
      rw [hck] at HK
      rw [he]
      clear he hck hs
      go_enter Tryd.func14, Tryd.ntmps14
      go_upto_region 1 with fail
      generalize w.alloc (.cells t.cells 26) = w1 at *
      obtain ⟨x0, x1, x2, x3, x4, x5, x6, x7, x8, x9, x10, x11⟩ := HT.out.1.tab
      go_upto_region 3 with (first | (go_at_call 40; refine (HL.out _).mono ?_; rintro e w2 ⟨rfl, rfl⟩) | (go_at_call 41; refine (HK.out _ (Below.refl _ _)).mono ?_; rintro e w3 ⟨rfl, b3⟩))
      clear x0 x1 x2 x3 x4 x5 x6 x7 x8 x9 x10 x11
      obtain ⟨x0, x1, x2, x3, x4, x5, x6, x7, x8, x9, x10, x11⟩ := (HT.out.later b3).1.tab
      go_wp2_with (go_at_call 42; refine (HF.out _ b3).mono ?_; rintro e w4 ⟨u, rfl, ho, b4⟩)
      go_ret
      exact ⟨u, rfl, ho, below_next (below_next HB0.out b3) b4⟩
    · have he : oneL T c = [] := by unfold oneL; rw [if_neg (fun h => hck h.2)]
      have hcb : (T.check != 0) = true := by simpa using hck
      rw [he]
      clear he hck hs
      generalize T.check = ck at *
      go_enter Tryd.func14, Tryd.ntmps14
      go_upto_region 1 with fail
      generalize w.alloc (.cells t.cells 26) = w1 at *
      obtain ⟨x0, x1, x2, x3, x4, x5, x6, x7, x8, x9, x10, x11⟩ := HT.out.1.tab
      go_wp2_with (first | (go_at_call 40; refine (HL.out _).mono ?_; rintro e w2 ⟨rfl, rfl⟩) | (go_at_call 41; refine (HK.out _ (Below.refl _ _)).mono ?_; rintro e w3 ⟨rfl, b3⟩))
      go_ret
      exact ⟨_, rfl, Ints.none_, (below_next HB0.out b3)⟩
end Go.Proofs.YtjigjjbhdgpfjaaDoor
/-
  The walk through the law DecomposeBound.
-/
namespace Go.Proofs.YtjigjjbhdgpfjaaDoor
open Go.RowKit ND

theorem set_repx {x : Int} {k j : Nat} (h : j < k) : (List.replicate j x ++ List.replicate (k - j) (0 : Int)).set j x = List.replicate (j + 1) x ++ List.replicate (k - (j + 1)) 0 := by
  obtain ⟨m, rfl⟩ : ∃ m, k = j + 1 + m := ⟨k - (j + 1), by omega⟩
  rw [show j + 1 + m - j = m + 1 by omega, show j + 1 + m - (j + 1) = m by omega, List.set_append_right _ _ (by simp), List.length_replicate, Nat.sub_self, List.replicate_succ, List.set_cons_zero, List.replicate_succ', List.append_assoc]; rfl
/-- NFD of a code point, many times. -/
theorem nfd_rep {T : Tab} (hck : T.check = 0) {x : Int} (hx : scalarB x = true) (k : Nat) :
    (4096 < k * (expandL T x).length → nfdR T (accE T (List.replicate k x)) (List.replicate k x) = ([], 7)) ∧ (k * (expandL T x).length ≤ 4096 → nfdR T (accE T (List.replicate k x)) (List.replicate k x) = (nfdL T (List.replicate k x), 0) ∧ (nfdL T (List.replicate k x)).length = k * (expandL T x).length) := by
  have hl := (expandL_len (decOk_of hck) x).1
  have hf := flatD_rep (T := T) x k
  have hs : (List.replicate k x).all scalarB = true := by
    rw [List.all_eq_true]; intro y hy; rw [(List.mem_replicate.1 hy).2]; exact hx
  refine ⟨fun h => ?_, fun h => ?_⟩
  · by_cases hk : 4096 < k
    · rw [accE_full hck (by rw [List.length_replicate]; exact hk), nfdR_err (by decide)]
    · rw [accE_ok hck (by rw [List.length_replicate]; omega) hs, nfdR_full (by rw [hf]; exact h)]
  · have hk : k ≤ 4096 := Nat.le_trans (Nat.le_mul_of_pos_right k hl) h
    rw [accE_ok hck (by rw [List.length_replicate]; omega) hs, nfdR_ok (by rw [hf]; exact h)]
    exact ⟨rfl, by rw [nfdL_length, hf]⟩

set_option maxRecDepth 100000 in
set_option maxHeartbeats 4000000 in
theorem DecomposeBound_go (W : World) (hg : Glob W) (v : Value) (xs : List Int) (hv : Ints W W.heap.size .i64 v xs) (n1 : Int) (n2 : Int) :
    Calls Tryd.prog 3 #[v, .int .i64 n1, .int .i64 n2] W fun e W' => e = .returned (.bool true) ∧ Below W.heap.size W W' := by
  have HG := Lib.hid hg
  obtain ⟨Ax, cx, rfl, _⟩ := id hv
  have HT := Lib.hid (keepTables_any W _ xs hv)
  clear hv hg
  go_enter Tryd.func3, Tryd.ntmps3
  go_upto_region 2 with (go_at_call 10; refine HT.out.mono ?_; rintro e w1 ⟨t, T, rfl, ht1, hm1, hb1⟩; obtain ⟨A0, A1, A2, A3, A4, A5, A6, A7, A8, A9, A10, A11, k0, k1, k2, k3, k4, k5, k6, k7, k8, k9, k10, k11, rfl⟩ := ht1.shape; have HT1 := Lib.hid ht1; have HB1 := Lib.hid hb1; have HM1 := Lib.hid hm1; clear ht1 hb1 hm1)
  obtain ⟨t, ht, htb⟩ := Tbl.new HT1.out
  have HT2 := Lib.hid htb
  have HB2 := Lib.hid (HB1.out.alloc HB1.out.size (.cells #[.slice A0 T.category.length k0, .slice A1 T.cls.length k1, .slice A2 T.joining.length k2, .slice A3 T.bidi.length k3, .slice A4 T.script.length k4, .slice A5 T.status.length k5, .slice A6 T.ignorable.length k6, .slice A7 T.extensions.length k7, .slice A8 T.maps.length k8, .slice A9 T.decomps.length k9, .slice A10 T.excluded.length k10, .slice A11 T.prototypes.length k11] 26))
  clear htb HT1 HT
  generalize w1.alloc (.cells #[.slice A0 T.category.length k0, .slice A1 T.cls.length k1, .slice A2 T.joining.length k2, .slice A3 T.bidi.length k3, .slice A4 T.script.length k4, .slice A5 T.status.length k5, .slice A6 T.ignorable.length k6, .slice A7 T.extensions.length k7, .slice A8 T.maps.length k8, .slice A9 T.decomps.length k9, .slice A10 T.excluded.length k10, .slice A11 T.prototypes.length k11] 26) = w2 at *
  generalize w1.heap.size = tb at *
  clear ht
  have hck := HM1.out.check
  have HG2 := Lib.hid (HG.out.later HB2.out)
  clear HG HM1
  obtain ⟨p0, p1⟩ := pick_in n1 (n := 5) (by decide)
  have HP := Lib.hid (fun w => pick_any n1 5 w (by decide) (by decide))
  obtain ⟨p, hp⟩ : ∃ p, pick n1 5 = p := ⟨_, rfl⟩
  rw [hp] at HP p0 p1
  clear hp
  obtain ⟨q0, q1⟩ := pick_in n2 (n := 3) (by decide)
  have HQ := Lib.hid (fun w => pick_any n2 3 w (by decide) (by decide))
  obtain ⟨q, hq⟩ : ∃ q, pick n2 3 = q := ⟨_, rfl⟩
  rw [hq] at HQ q0 q1
  clear hq
  have hsc : scalarB (7680 + p) = true := by rw [scalarB_iff]; omega
  have hone : oneL T (7680 + p) = expandL T (7680 + p) := by unfold oneL; rw [if_pos ⟨hsc, hck⟩]
  obtain ⟨hl1, hl2⟩ := expandL_len (decOk_of hck) (7680 + p)
  have HREP := Lib.hid (fun k => nfd_rep hck hsc k)
  have H1 := Lib.hid (fun W (h : Below w2.heap.size w2 W) => one7_any t T (7680 + p) W (HT2.out.later h).2 (HG2.out.later h))
  have H2 := Lib.hid (fun W (h : Below w2.heap.size w2 W) => refOne_any t T (7680 + p) W (HT2.out.later h).2)
  rw [hone] at H1 H2
  clear hone hsc hck
  obtain ⟨el, hel⟩ : ∃ el, expandL T (7680 + p) = el := ⟨_, rfl⟩
  simp only [hel] at HREP
  rw [hel] at H1 H2 hl1 hl2
  clear hel
  obtain ⟨x, hx⟩ : ∃ x, 7680 + p = x := ⟨_, rfl⟩
  rw [hx] at H1 H2
  simp only [hx] at HREP
  obtain ⟨x0, x1, x2, x3, x4, x5, x6, x7, x8, x9, x10, x11⟩ := HT2.out.1.tab
  have HXE := Lib.hid hx
  go_upto_region 3 with (go_at_call 11; refine (HP.out _).mono ?_; rintro e w5 ⟨rfl, rfl⟩)
  try simp only [HXE.out]
  clear hx
  go_upto_region 4 with (go_at_call 12; refine (H1.out _ (Below.refl _ _)).mono ?_; rintro e w5 ⟨u5, rfl, ho5, b5⟩; obtain ⟨A5, c5, rfl, _⟩ := id (Ints.of_own ho5); have HI5 := Lib.hid (Ints.of_own ho5); have B5 := Lib.hid b5; clear ho5 b5)
  clear x0 x1 x2 x3 x4 x5 x6 x7 x8 x9 x10 x11
  obtain ⟨x0, x1, x2, x3, x4, x5, x6, x7, x8, x9, x10, x11⟩ := (HT2.out.later B5.out).1.tab
  have z1 : ¬ (el.length : Int) < 1 := by omega
  have z2 : ¬ (18 : Int) < (el.length : Int) := by omega
  go_upto_region 6 with (first
    | (go_at_call 14; refine (H2.out _ B5.out).mono ?_; rintro e w6 ⟨u6, rfl, hi6, b6⟩; obtain ⟨A6, c6, rfl, _⟩ := id hi6; have HI6 := Lib.hid hi6; have HJ6 := Lib.hid (HI5.out.later b6); have B6 := Lib.hid (below_next B5.out b6); clear hi6 b6)
    | (go_at_call 13; refine (same_of _ _ el el _ HJ6.out HI6.out rfl).mono ?_; rintro e w7 ⟨rfl, b7⟩; have B7 := Lib.hid (below_next B6.out b7); clear b7))
  clear x0 x1 x2 x3 x4 x5 x6 x7 x8 x9 x10 x11
  have r0 : 0 ≤ 4096 / (el.length : Int) := Int.ediv_nonneg (by omega) (by omega)
  have r1 : 4096 / (el.length : Int) ≤ 4096 := Int.ediv_le_self _ (by omega)
  have r2 : 227 ≤ 4096 / (el.length : Int) := (Int.le_ediv_iff_mul_le (by omega)).2 (by omega)
  obtain ⟨k, hk⟩ : ∃ k : Nat, 4096 / (el.length : Int) + q - 1 = (k : Int) := ⟨(4096 / (el.length : Int) + q - 1).toNat, by omega⟩
  have hk1 : 226 ≤ k ∧ k ≤ 4098 := by omega
  have e1 : IntKind.i64.wrap ((4096 : Int).tdiv (el.length : Int)) = 4096 / (el.length : Int) := by
    rw [Int.tdiv_eq_ediv_of_nonneg (by omega)]; exact IntWalk.i64_in _ (by omega)
  have e2 : IntKind.i64.wrap (4096 / (el.length : Int) + q) = 4096 / (el.length : Int) + q := IntWalk.i64_in _ (by omega)
  have e3 : IntKind.i64.wrap (4096 / (el.length : Int) + q - 1) = (k : Int) := by rw [IntWalk.i64_in _ (by omega)]; exact hk
  have z3 : ((el.length : Int) == 0) = false := by rw [beq_eq_false_iff_ne]; omega
  have z4 : (el.length : Int) ≠ 0 := by omega
  have HQ2 : Hid (∀ V, Below w7.heap.size w7 V → Calls Tryd.prog 11 #[.int .i64 n2, .int .i64 3] V fun e V' => e = .returned (.int .i64 q) ∧ Below V.heap.size V V') := Lib.hid fun V _ => (HQ.out V).mono fun e w' ⟨he, hw⟩ => ⟨he, hw ▸ Below.refl _ _⟩
  refine wp_region_quiet_below (by kernel_rfl) (by kernel_rfl) ?_
  repeat (go_big_quiet_step (first | (go_at_call 11; with_reducible exact quiet_t HQ2.out)))
  refine wpQuiet_nil ?_
  rintro _ ⟨⟨dq, osq⟩, rfl⟩
  have bq := below_regrown w7 dq osq
  have B8 := Lib.hid (below_next B7.out bq)
  have HJ8 := Lib.hid ((HJ6.out.later (Below.refl _ _)))
  clear bq HQ2 HJ8 e1 e2 e3 z3 z4 r0 r1 r2 hk HI5 HI6 HJ6 H1 H2 HP HQ B5 B6 p0 p1 q0 q1 z1 z2
  generalize Go.Sort.grow (redrawn w7 dq) osq = w8 at *
  obtain ⟨i0, hi, hz0, hz1, hz2⟩ := info_parts Tryd.infoInt'
  obtain ⟨w9, hmk, hown, hgr⟩ := run_make_full w8 w8.heap.size 22 3 i0 (.int .i64 0) 1 Tryd.underlying22 hi hz0 hz1 .i64 .i64 k (by rw [hz2]; omega) (by unfold maxLen; omega) (Nat.le_refl _)
  have HO9 : Hid (w9.ownsRow w8.heap.size 3 1 (.slice (some ⟨w8.heap.size, 0, none⟩) k k) k ((List.replicate k (0 : Int)).map (Value.int .i64))) := Lib.hid (by
    have h := hown
    rw [show (Value.int .i64 0).cells = #[.int .i64 0] from rfl, toList_madeCells_one] at h
    simpa using h)
  have B9 := Lib.hid ((Below.refl _ _).grown hgr (Nat.le_refl _) (fun q hq => by cases hq) : Below w8.heap.size w8 w9)
  clear hown hgr
  obtain ⟨gb, hgb⟩ : ∃ gb, w8.heap.size = gb := ⟨_, rfl⟩
  rw [hgb] at hmk HO9
  have k9 : (0 : Int) ≤ (k : Int) := by omega
  go_wp2_with fail
  go_loopw [50] (fun i wr => ∃ (j : Nat), j ≤ k ∧ i = .int .i64 j ∧ Hid (wr.ownsRow gb 3 1 (.slice (some ⟨gb, 0, none⟩) k k) k ((List.replicate j x ++ List.replicate (k - j) 0).map (Value.int .i64))) ∧ Hid (Below gb w8 wr)) (fun i _ => k - (intOf i).toNat)
  case atStart => exact ⟨0, by omega, rfl, by simpa using HO9, by rw [← hgb]; exact B9⟩
  case round =>
    obtain ⟨j, hj, rfl, HO, HB⟩ := hrel
    by_cases hlt : j < k
    · have e1 := (HO.out.cellAt j (by omega)).trans (by rw [List.getElem?_map, List.getElem?_append_right (by simp)]; simp [List.getElem?_replicate]; omega : ((List.replicate j x ++ List.replicate (k - j) 0).map (Value.int .i64))[j]? = some (.int .i64 0))
      have f1 := HO.out.frozenAt j
      have q0 : (0 : Int) ≤ (j : Int) := by omega
      have q1 : (j : Int) < (k : Int) := by omega
      have HO' : Hid ((wr.setCell ⟨gb, j, none⟩ (.int .i64 x)).ownsRow gb 3 1 (.slice (some ⟨gb, 0, none⟩) k k) k ((List.replicate (j + 1) x ++ List.replicate (k - (j + 1)) 0).map (Value.int .i64))) := by
        have h := (HO.out.stored j (.int .i64 x)).1
        rw [← List.map_set] at h
        rw [set_repx hlt] at h
        exact Lib.hid h
      have HB' : Hid (Below gb w8 (wr.setCell ⟨gb, j, none⟩ (.int .i64 x))) := Lib.hid (HB.out.setCell (p := ⟨gb, j, none⟩) (Nat.le_refl _) _)
      go_wp2_with fail
      go_roundw
      case rel => exact ⟨j + 1, by omega, by go_num, HO', HB'⟩
      case measure => simp [intOf]; omega
    · have q1 : ¬ (j : Int) < (k : Int) := by omega
      obtain ⟨hr1, hr2⟩ := HREP.out k
      obtain rfl : j = k := by omega
      rw [Nat.sub_self, List.replicate_zero, List.append_nil] at HO
      obtain ⟨ins, hins⟩ : ∃ ins, List.replicate j x = ins := ⟨_, rfl⟩
      have hil : ins.length = j := by rw [← hins]; simp
      rw [hins] at HO hr1 hr2
      have HBw := HB.out
      rw [← hgb] at HBw
      have B10 := Lib.hid (below_next B8.out HBw)
      have HTr := Lib.hid (HT2.out.later B10.out)
      have HIk : Hid (Ints wr wr.heap.size .i64 (.slice (some ⟨gb, 0, none⟩) j j) ins) := by
        have h := HO.out
        rw [← hil] at h
        have h2 := Ints.of_own h
        rw [hil] at h2
        exact Lib.hid h2
      have H1 := Lib.hid (nfd7_any t T (.slice (some ⟨gb, 0, none⟩) j j) ins wr HTr.out.2 (HG2.out.later B10.out) HIk.out)
      have m0 : (0 : Int) ≤ (j : Int) * (el.length : Int) := Int.mul_nonneg (by omega) (by omega)
      have m1 : (j : Int) * (el.length : Int) ≤ 4098 * 18 := Int.mul_le_mul (by omega) (by omega) (by omega) (by omega)
      have m2 : ((j * el.length : Nat) : Int) = (j : Int) * (el.length : Int) := by rw [Int.natCast_mul]
      clear hil HBw hins
      obtain ⟨x0, x1, x2, x3, x4, x5, x6, x7, x8, x9, x10, x11⟩ := HTr.out.1.tab
      by_cases hbig : 4096 < j * el.length
      · rw [hr1 hbig] at H1
        have g1 : (4096 : Int) < (j : Int) * (el.length : Int) := by omega
        clear hr1 hr2 hbig m2
        by_cases hk : 4096 < j
        · have g2 : (4096 : Int) < (j : Int) := by omega
          go_wp2_with (first
            | (go_at_call 15; refine H1.out.mono ?_; rintro e w11 ⟨u11, rfl, ho11, b11⟩; obtain ⟨A11x, c11, rfl, _⟩ := id (Ints.of_own ho11); have B11 := Lib.hid (below_next B10.out b11); clear ho11 b11)
            | (go_at_call 16; refine (awake7 _ (HG2.out.later B11.out)).mono ?_; rintro e w12 ⟨rfl, b12⟩))
          go_ret
          exact ⟨rfl, below_next HB2.out (below_next B11.out b12)⟩
        · have g2 : ¬ (4096 : Int) < (j : Int) := by omega
          go_wp2_with (first
            | (go_at_call 15; refine H1.out.mono ?_; rintro e w11 ⟨u11, rfl, ho11, b11⟩; obtain ⟨A11x, c11, rfl, _⟩ := id (Ints.of_own ho11); have B11 := Lib.hid (below_next B10.out b11); clear ho11 b11)
            | (go_at_call 16; refine (awake7 _ (HG2.out.later B11.out)).mono ?_; rintro e w12 ⟨rfl, b12⟩))
          go_ret
          exact ⟨rfl, below_next HB2.out (below_next B11.out b12)⟩
      · obtain ⟨hr3, hr4⟩ := hr2 (by omega)
        rw [hr3] at H1
        have g1 : ¬ (4096 : Int) < (j : Int) * (el.length : Int) := by omega
        have hk : j ≤ 4096 := Nat.le_trans (Nat.le_mul_of_pos_right j hl1) (by omega)
        have g2 : ¬ (4096 : Int) < (j : Int) := by omega
        obtain ⟨os, hos⟩ : ∃ os, nfdL T ins = os := ⟨_, rfl⟩
        rw [hos] at H1 hr4
        have g3 : (os.length : Int) = (j : Int) * (el.length : Int) := by omega
        clear hr1 hr2 hr3 hr4 hbig m2 hos
        go_wp2_with (first
          | (go_at_call 15; refine H1.out.mono ?_; rintro e w11 ⟨u11, rfl, ho11, b11⟩; obtain ⟨A11x, c11, rfl, _⟩ := id (Ints.of_own ho11); have B11 := Lib.hid (below_next B10.out b11); clear ho11 b11)
          | (go_at_call 16; refine (awake7 _ (HG2.out.later B11.out)).mono ?_; rintro e w12 ⟨rfl, b12⟩))
        go_ret
        refine ⟨?_, below_next HB2.out (below_next B11.out b12)⟩
        simp
theorem DecomposeBound_walk (W : World) (hg : Glob W) (v : Value) (xs : List Int) (hv : Ints W W.heap.size .i64 v xs) (_ : ∀ x ∈ xs, -9223372036854775808 ≤ x ∧ x ≤ 9223372036854775807) (_ : xs.length * 8 ≤ 140737488351232) (n1 : Int) (_ : -9223372036854775808 ≤ n1 ∧ n1 ≤ 9223372036854775807) (n2 : Int) (_ : -9223372036854775808 ≤ n2 ∧ n2 ≤ 9223372036854775807) :
    Calls Tryd.prog 3 #[v, .int .i64 n1, .int .i64 n2] W fun e W' => e = .returned (.bool true) ∧ Below W.heap.size W W' := DecomposeBound_go W hg v xs hv n1 n2
end Go.Proofs.YtjigjjbhdgpfjaaDoor
/-
  The walks through of, meets, classes and last of package bidi.
-/
namespace Go.Proofs.YtjigjjbhdgpfjaaDoor
open Go.RowKit ND

theorem ofInt64 (a : Nat) (ha : a < 9223372036854775808) : (BitVec.ofInt 64 (a : Int)).toNat = a := by
  rw [BitVec.ofInt_natCast, BitVec.toNat_ofNat]; exact Nat.mod_eq_of_lt (by omega)
theorem and_i64 (a b : Nat) (ha : a < 4096) (hb : b < 4096) : bits .and .i64 (a : Int) (b : Int) = ((a &&& b : Nat) : Int) := by
  have hx : a &&& b < 2 ^ 63 := Nat.and_lt_two_pow _ (by omega)
  show IntKind.i64.wrap ((BitVec.ofInt 64 (a : Int) &&& BitVec.ofInt 64 (b : Int)).toNat : Int) = _
  rw [BitVec.toNat_and, ofInt64 a (by omega), ofInt64 b (by omega), IntKind.wrap_i64]
  omega
theorem or_i64 (a b : Nat) (ha : a < 4096) (hb : b < 4096) : bits .or .i64 (a : Int) (b : Int) = ((a ||| b : Nat) : Int) := by
  have hx : a ||| b < 2 ^ 63 := Nat.or_lt_two_pow (by omega) (by omega)
  show IntKind.i64.wrap ((BitVec.ofInt 64 (a : Int) ||| BitVec.ofInt 64 (b : Int)).toNat : Int) = _
  rw [BitVec.toNat_or, ofInt64 a (by omega), ofInt64 b (by omega), IntKind.wrap_i64]
  omega
set_option maxHeartbeats 1000000 in
theorem of_any (k : Int) (w : World) (h0 : 0 ≤ k) (h1 : k ≤ 11) : Calls Tryd.prog 77 #[.int .i64 k] w fun e w' => e = .returned (.int .i64 ((2 ^ k.toNat : Nat) : Int)) ∧ w = w' := by
  rcases (by omega : k = 0 ∨ k = 1 ∨ k = 2 ∨ k = 3 ∨ k = 4 ∨ k = 5 ∨ k = 6 ∨ k = 7 ∨ k = 8 ∨ k = 9 ∨ k = 10 ∨ k = 11) with rfl | rfl | rfl | rfl | rfl | rfl | rfl | rfl | rfl | rfl | rfl | rfl
  all_goals
    clear h0 h1
    go_enter Tryd.func77, Tryd.ntmps77
    go_wp2
    go_ret
    exact ⟨rfl, rfl⟩
set_option maxHeartbeats 1000000 in
theorem meets_any (a b : Int) (m n : Nat) (r : Bool) (w : World) (ha : a = m) (hb : b = n) (hm : m < 4096) (hn : n < 4096) (hr : ((m &&& n) != 0) = r) : Calls Tryd.prog 53 #[.int .i64 a, .int .i64 b] w fun e w' => e = .returned (.bool r) ∧ w = w' := by
  subst ha hb
  have hx := and_i64 m n hm hn
  have hy : (((m &&& n : Nat) : Int) != 0) = r := by
    rw [← hr, Bool.eq_iff_iff, bne_iff_ne, bne_iff_ne]; omega
  obtain ⟨z, hz⟩ : ∃ z, bits .and .i64 (m : Int) (n : Int) = z := ⟨_, rfl⟩
  rw [hz] at hx
  subst hx
  clear hr hm hn
  go_enter Tryd.func53, Tryd.ntmps53
  go_wp2
  go_ret
  exact ⟨rfl, rfl⟩
set_option maxRecDepth 100000 in
set_option maxHeartbeats 2000000 in
theorem classes_any (t : Tv) (T : Tab) (v : Value) (xs : List Int) (w : World) (ht : TabR w w.heap.size t T) (hck : T.check = 0) (hv : Ints w w.heap.size .i64 v xs) :
    Calls Tryd.prog 52 #[t.val, v] w fun e w' => e = .returned (.int .i64 (bmask T xs : Nat)) ∧ Below w.heap.size w w' := by
  obtain ⟨A, c, rfl, _⟩ := id hv
  have HB0 : Hid (Below w.heap.size w (w.alloc (.cells t.cells 26))) := Lib.hid ((Below.refl _ _).alloc (Nat.le_refl _) _)
  have HT : Hid (Tbl (w.alloc (.cells t.cells 26)) w.heap.size t T) := Lib.hid ⟨Blk.new _ _ _, ht.later HB0.out⟩
  have HV := Lib.hid (hv.later HB0.out)
  clear ht hv
  have hsh := shape_of hck
  have HR := Lib.hid (fun x => bidi_range hck x)
  have HC : Hid (∀ (b : Nat) (W : World) (x : Int), Tbl W b t T → Calls Tryd.prog 78 #[.agg #[t.c0, t.c1, t.c2, t.c3, t.c4, t.c5, t.c6, t.c7, t.c8, t.c9, t.c10, t.c11], .int .i64 x] W fun e W' => e = .returned (.int .i64 (T.bidiOf x)) ∧ Below W.heap.size W W') := Lib.hid fun b W x h => bidi_any t T x 0 1114111 W h.2 hsh.c3.1 hsh.c3.2.1
  have hml : xs.length ≤ 9223372036854775807 := by obtain ⟨_, _, _, h1, h2, _⟩ := HV.out; unfold maxLen at h2; omega
  clear hck hsh
  go_enter Tryd.func52, Tryd.ntmps52
  go_upto_region 1 with fail
  generalize w.alloc (.cells t.cells 26) = w1 at *
  obtain ⟨tb, htb⟩ : ∃ tb, w.heap.size = tb := ⟨_, rfl⟩
  rw [htb] at HT
  simp only [htb]
  go_wp2_with fail
  go_loopw [10, 5] (fun si ss wr => ∃ (k : Nat), k ≤ xs.length ∧ si = .int .i64 k ∧ ss = .int .i64 (bmask T (xs.take k) : Nat) ∧ Hid (Below w1.heap.size w1 wr)) (fun si _ _ => xs.length - (intOf si).toNat)
  case atStart => exact ⟨0, by omega, rfl, rfl, Lib.hid (Below.refl _ _)⟩
  case round =>
    obtain ⟨k, hk, rfl, rfl, HBr⟩ := hrel
    by_cases hlt : k < xs.length
    · obtain ⟨x, hxk, _⟩ := get_of hlt
      obtain ⟨_, _, hve, _, _, _, hcell⟩ := HV.out
      cases hve
      obtain ⟨ad, rfl, ha, hce⟩ := hcell k x hxk
      have e1 := (HBr.out.cell (p := ad.add k) (by rw [block_of_add]; exact ha)).trans hce
      have k0 : (0 : Int) ≤ (k : Int) := by omega
      have k1 : (k : Int) < (xs.length : Int) := by omega
      have HTr := Lib.hid (HT.out.later HBr.out)
      have HCx := Lib.hid (HC.out tb wr x HTr.out)
      have hr := HR.out x
      have HOF := Lib.hid (fun W => of_any (T.bidiOf x) W hr.1 hr.2)
      have HN : Hid (bits .or .i64 (bmask T (xs.take k) : Nat) ((2 ^ (T.bidiOf x).toNat : Nat) : Int) = ((bmask T (xs.take (k + 1)) : Nat) : Int)) := Lib.hid (by
        rw [or_i64 _ _ (bmask_lt HR.out _) (Nat.pow_lt_pow_right (n := 12) (by decide) (by omega)), ← bmask_snoc]
        congr 2
        obtain ⟨h1, e⟩ := List.getElem?_eq_some_iff.1 hxk
        rw [List.take_succ_eq_append_getElem h1, e])
      clear hcell hxk ha hce hr
      generalize ((2 ^ (T.bidiOf x).toNat : Nat) : Int) = F at *
      generalize T.bidiOf x = kx at *
      obtain ⟨x0, x1, x2, x3, x4, x5, x6, x7, x8, x9, x10, x11⟩ := HTr.out.1.tab
      go_wp2_with (first
        | (go_at_call 78; refine HCx.out.mono ?_; rintro e w5 ⟨rfl, b5⟩)
        | (go_at_call 77; refine (HOF.out _).mono ?_; rintro e w6 ⟨rfl, rfl⟩))
      go_roundw
      case rel => exact ⟨k + 1, by omega, by go_num, by rw [HN.out], Lib.hid (below_then HBr.out (Nat.le_refl _) b5)⟩
      case measure => simp [intOf]; omega
    · go_wp2_with fail
      go_ret
      exact ⟨ret_int (by rw [List.take_of_length_le (by omega)]), below_w HB0.out HBr.out⟩
set_option maxRecDepth 100000 in
set_option maxHeartbeats 2000000 in
theorem lastM_any (t : Tv) (T : Tab) (v : Value) (xs : List Int) (w : World) (ht : TabR w w.heap.size t T) (hck : T.check = 0) (hv : Ints w w.heap.size .i64 v xs) :
    Calls Tryd.prog 79 #[t.val, v] w fun e w' => e = .returned (.int .i64 (lastM T xs : Nat)) ∧ Below w.heap.size w w' := by
  obtain ⟨A, c, rfl, _⟩ := id hv
  have HB0 : Hid (Below w.heap.size w (w.alloc (.cells t.cells 26))) := Lib.hid ((Below.refl _ _).alloc (Nat.le_refl _) _)
  have HT : Hid (Tbl (w.alloc (.cells t.cells 26)) w.heap.size t T) := Lib.hid ⟨Blk.new _ _ _, ht.later HB0.out⟩
  have HV := Lib.hid (hv.later HB0.out)
  clear ht hv
  have hsh := shape_of hck
  have HR := Lib.hid (fun x => bidi_range hck x)
  have HC : Hid (∀ (b : Nat) (W : World) (x : Int), Tbl W b t T → Calls Tryd.prog 78 #[.agg #[t.c0, t.c1, t.c2, t.c3, t.c4, t.c5, t.c6, t.c7, t.c8, t.c9, t.c10, t.c11], .int .i64 x] W fun e W' => e = .returned (.int .i64 (T.bidiOf x)) ∧ Below W.heap.size W W') := Lib.hid fun b W x h => bidi_any t T x 0 1114111 W h.2 hsh.c3.1 hsh.c3.2.1
  have hml : xs.length ≤ 9223372036854775807 := by obtain ⟨_, _, _, h1, h2, _⟩ := HV.out; unfold maxLen at h2; omega
  clear hck hsh
  go_enter Tryd.func79, Tryd.ntmps79
  go_upto_region 1 with fail
  generalize w.alloc (.cells t.cells 26) = w1 at *
  obtain ⟨tb, htb⟩ : ∃ tb, w.heap.size = tb := ⟨_, rfl⟩
  rw [htb] at HT
  simp only [htb]
  go_wp2_with fail
  go_loopw [5] (fun si wr => ∃ (k : Nat), k ≤ xs.length ∧ si = .int .i64 ((k : Int) - 1) ∧ Hid (lastB T (xs.take k) = lastB T xs) ∧ Hid (Below w1.heap.size w1 wr)) (fun si _ => (intOf si + 1).toNat)
  case atStart => exact ⟨xs.length, by omega, rfl, Lib.hid (by rw [List.take_of_length_le (Nat.le_refl _)]), Lib.hid (Below.refl _ _)⟩
  case round =>
    obtain ⟨k, hk, rfl, HS, HBr⟩ := hrel
    cases k with
    | zero =>
      have g : ¬ (0 : Int) ≤ ((0 : Nat) : Int) - 1 := by omega
      have HL : Hid (lastM T xs = 0) := Lib.hid (by unfold lastM; rw [← HS.out]; simp [lastB])
      go_wp2_with fail
      go_ret
      exact ⟨ret_int (by rw [HL.out]; rfl), below_w HB0.out HBr.out⟩
    | succ j =>
      have v2 : ((j + 1 : Nat) : Int) - 1 = (j : Int) := by omega
      rw [v2]
      obtain ⟨x, hxk, _⟩ := get_of (show j < xs.length by omega)
      obtain ⟨_, _, hve, _, _, _, hcell⟩ := HV.out
      cases hve
      obtain ⟨ad, rfl, ha, hce⟩ := hcell j x hxk
      have e1 := cell_regrown ((HBr.out.cell (p := ad.add j) (by rw [block_of_add]; exact ha)).trans hce)
      have k0 : (0 : Int) ≤ (j : Int) := by omega
      have k1 : (j : Int) < (xs.length : Int) := by omega
      have HTr := Lib.hid (HT.out.later HBr.out)
      have HCx : Hid (∀ V, Below wr.heap.size wr V → Calls Tryd.prog 78 #[.agg #[t.c0, t.c1, t.c2, t.c3, t.c4, t.c5, t.c6, t.c7, t.c8, t.c9, t.c10, t.c11], .int .i64 x] V fun e V' => e = .returned (.int .i64 (T.bidiOf x)) ∧ Below V.heap.size V V') := Lib.hid fun V hV => HC.out tb V x (HTr.out.later hV)
      have hr := HR.out x
      have HST : Hid (lastB T xs = if T.bidiOf x = 10 then lastB T (xs.take j) else T.bidiOf x) := Lib.hid (by
        rw [← HS.out]
        obtain ⟨h1, e⟩ := List.getElem?_eq_some_iff.1 hxk
        rw [List.take_succ_eq_append_getElem h1, last_snoc, e])
      clear hcell hxk ha hce
      go_upto_region 4 with fail
      obtain ⟨x0, x1, x2, x3, x4, x5, x6, x7, x8, x9, x10, x11⟩ := HTr.out.1.tabG
      refine wp_region_quiet_below (by kernel_rfl) (by kernel_rfl) ?_
      repeat (go_big_quiet_step (first | (go_at_call 78; with_reducible exact quiet_t HCx.out)))
      refine wpQuiet_nil ?_
      rintro _ ⟨⟨dq, osq⟩, rfl⟩
      have bq := below_regrown wr dq osq
      clear x0 x1 x2 x3 x4 x5 x6 x7 x8 x9 x10 x11 e1 HCx HTr
      have HBq := Lib.hid (below_then HBr.out (Nat.le_refl _) bq)
      generalize Go.Sort.grow (redrawn wr dq) osq = w5 at *
      clear bq HBr
      by_cases hm : T.bidiOf x = 10
      · have HN : Hid (lastB T (xs.take j) = lastB T xs) := Lib.hid (by rw [HST.out, if_pos hm])
        have g : (T.bidiOf x != 10) = false := by rw [hm]; rfl
        clear hm hr
        generalize T.bidiOf x = kx at *
        go_wp2_with fail
        go_roundw
        case rel => exact ⟨j, by omega, rfl, HN, HBq⟩
        case measure => simp [intOf] <;> omega
      · have g : (T.bidiOf x != 10) = true := by simpa using hm
        have HL : Hid (lastM T xs = 2 ^ (T.bidiOf x).toNat) := Lib.hid (by unfold lastM; rw [HST.out, if_neg hm, if_neg (show ¬ T.bidiOf x < 0 by omega)])
        have HOF := Lib.hid (fun W => of_any (T.bidiOf x) W hr.1 hr.2)
        have HLF : Hid ((((2 ^ (T.bidiOf x).toNat : Nat) : Int)) = ((lastM T xs : Nat) : Int)) := Lib.hid (by rw [HL.out])
        clear hm hr HL
        generalize ((2 ^ (T.bidiOf x).toNat : Nat) : Int) = F at *
        generalize T.bidiOf x = kx at *
        go_wp2_with (go_at_call 77; refine (HOF.out _).mono ?_; rintro e w6 ⟨rfl, rfl⟩)
        go_ret
        exact ⟨ret_int HLF.out, below_w HB0.out HBq.out⟩
end Go.Proofs.YtjigjjbhdgpfjaaDoor
