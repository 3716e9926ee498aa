/-
  Merged texts: lemmas and walks that the last text of this claim leans on.
-/
import Derived.Test.YtjigjjbhdgpfjaaGreatDoorMgB733
import Derived.Test.YtjigjjbhdgpfjaaGreatDoorMgB730
import Derived.Test.YtjigjjbhdgpfjaaGreatDoorMgB79
import Derived.Test.YtjigjjbhdgpfjaaGreatDoorMgB78
import Derived.Test.YtjigjjbhdgpfjaaGreatDoorMgB719
import Derived.Test.YtjigjjbhdgpfjaaGreatDoorMgB731
import Derived.Test.YtjigjjbhdgpfjaaGreatDoorMgB713
/-
  The walks through the reference's expand and One.
-/
namespace Go.Proofs.YtjigjjbhdgpfjaaGreatDoor
open Go.RowKit ND


set_option maxRecDepth 100000 in
set_option maxHeartbeats 1000000 in
theorem refExpand_any (t : Tv) (T : Tab) (hD : DecOk T) (c : Int) (w : World) (ht : TabR w w.heap.size t T) :
    Calls Tryz.prog 52 #[t.val, .int .i64 c] w (RetInts w (expandL T c)) := by
  have HB0 : Hid (Below w.heap.size w (w.alloc (.cells t.cells 26))) := Lib.hid ((Below.refl _ _).alloc (Nat.le_refl _) _)
  have HT : Hid (Tbl (w.alloc (.cells t.cells 26)) w.heap.size t T) := Lib.hid ⟨Blk.new _ _ _, ht.later HB0.out⟩
  clear ht
  have HH := Lib.hid (fun W => refHdec_any c W)
  have HF := Lib.hid (fun W (h : Below (w.alloc (.cells t.cells 26)).heap.size (w.alloc (.cells t.cells 26)) W) => full_any t T c W (HT.out.later h).2 hD.ne)
  rw [hD.full c] at HF
  cases hs : sylB c
  · rw [expandL_not hs]
    rw [hangD_none hs] at HH
    clear hs hD
    generalize expF T.decomps T.decomps.length c = el at *
    go_enter Tryz.func52, Tryz.ntmps52
    go_upto_region 1 with fail
    generalize w.alloc (.cells t.cells 26) = w1 at *
    obtain ⟨x0, x1, x2, x3, x4, x5, x6, x7, x8, x9, x10, x11⟩ := HT.out.1.tab
    go_upto_region 4 with (go_at_call 89; refine (HH.out _).mono ?_; rintro e w2 ⟨u, rfl, hu, hun, b2⟩; obtain rfl := hun rfl; clear hu hun)
    clear x0 x1 x2 x3 x4 x5 x6 x7 x8 x9 x10 x11
    obtain ⟨x0, x1, x2, x3, x4, x5, x6, x7, x8, x9, x10, x11⟩ := (HT.out.later b2).1.tab
    go_wp2_with (go_at_call 90; refine (HF.out _ b2).mono ?_; rintro e w3 ⟨u3, rfl, ho3, b3⟩)
    go_ret
    exact ⟨u3, rfl, ho3, below_next (below_next HB0.out b2) b3⟩
  · have hne := length_pos_ne (hangD_ne hs)
    have h3 := hangD_len c
    rw [expandL_syl hs]
    clear hs hD
    generalize hangD c = hd at *
    have hp : (0 : Int) < (hd.length : Int) := by omega
    go_enter Tryz.func52, Tryz.ntmps52
    go_upto_region 1 with fail
    generalize w.alloc (.cells t.cells 26) = w1 at *
    obtain ⟨x0, x1, x2, x3, x4, x5, x6, x7, x8, x9, x10, x11⟩ := HT.out.1.tab
    go_wp2_with (go_at_call 89; refine (HH.out _).mono ?_; rintro e w2 ⟨u, rfl, hu, hun, b2⟩; obtain ⟨A2, c2, rfl, _⟩ := id hu; have HU := Lib.hid hu; clear hu hun)
    go_ret
    exact ⟨_, rfl, HU.out, below_next HB0.out b2⟩

set_option maxRecDepth 100000 in
set_option maxHeartbeats 1000000 in
theorem refOne_any (t : Tv) (T : Tab) (c : Int) (w : World) (ht : TabR w w.heap.size t T) :
    Calls Tryz.prog 21 #[t.val, .int .i64 c] w (RetInts w (oneL T c)) := by
  have HB0 : Hid (Below w.heap.size w (w.alloc (.cells t.cells 26))) := Lib.hid ((Below.refl _ _).alloc (Nat.le_refl _) _)
  have HT : Hid (Tbl (w.alloc (.cells t.cells 26)) w.heap.size t T) := Lib.hid ⟨Blk.new _ _ _, ht.later HB0.out⟩
  clear ht
  have HL := Lib.hid (refScalar_any c)
  have HK := Lib.hid (fun W (h : Below (w.alloc (.cells t.cells 26)).heap.size (w.alloc (.cells t.cells 26)) W) => check_ref t T W (HT.out.later h).2)
  cases hs : scalarB c
  · have he : oneL T c = [] := by unfold oneL; rw [if_neg (by simp [hs])]
    rw [hs] at HL
    rw [he]
    clear hs he HK
    go_enter Tryz.func21, Tryz.ntmps21
    go_upto_region 1 with fail
    generalize w.alloc (.cells t.cells 26) = w1 at *
    obtain ⟨x0, x1, x2, x3, x4, x5, x6, x7, x8, x9, x10, x11⟩ := HT.out.1.tab
    go_wp2_with (go_at_call 50; refine (HL.out _).mono ?_; rintro e w2 ⟨rfl, rfl⟩)
    go_ret
    exact ⟨_, rfl, Ints.none_, HB0.out⟩
  · rw [hs] at HL
    by_cases hck : T.check = 0
    · have he : oneL T c = expandL T c := by unfold oneL; rw [if_pos ⟨hs, hck⟩]
      have HF := Lib.hid (fun W (h : Below (w.alloc (.cells t.cells 26)).heap.size (w.alloc (.cells t.cells 26)) W) => refExpand_any t T (decOk_of hck) c W (HT.out.later h).2)
      rw [hck] at HK
      rw [he]
      clear he hck hs
      go_enter Tryz.func21, Tryz.ntmps21
      go_upto_region 1 with fail
      generalize w.alloc (.cells t.cells 26) = w1 at *
      obtain ⟨x0, x1, x2, x3, x4, x5, x6, x7, x8, x9, x10, x11⟩ := HT.out.1.tab
      go_upto_region 3 with (first | (go_at_call 50; refine (HL.out _).mono ?_; rintro e w2 ⟨rfl, rfl⟩) | (go_at_call 51; refine (HK.out _ (Below.refl _ _)).mono ?_; rintro e w3 ⟨rfl, b3⟩))
      clear x0 x1 x2 x3 x4 x5 x6 x7 x8 x9 x10 x11
      obtain ⟨x0, x1, x2, x3, x4, x5, x6, x7, x8, x9, x10, x11⟩ := (HT.out.later b3).1.tab
      go_wp2_with (go_at_call 52; refine (HF.out _ b3).mono ?_; rintro e w4 ⟨u, rfl, ho, b4⟩)
      go_ret
      exact ⟨u, rfl, ho, below_next (below_next HB0.out b3) b4⟩
    · have he : oneL T c = [] := by unfold oneL; rw [if_neg (fun h => hck h.2)]
      have hcb : (T.check != 0) = true := by simpa using hck
      rw [he]
      clear he hck hs
      generalize T.check = ck at *
      go_enter Tryz.func21, Tryz.ntmps21
      go_upto_region 1 with fail
      generalize w.alloc (.cells t.cells 26) = w1 at *
      obtain ⟨x0, x1, x2, x3, x4, x5, x6, x7, x8, x9, x10, x11⟩ := HT.out.1.tab
      go_wp2_with (first | (go_at_call 50; refine (HL.out _).mono ?_; rintro e w2 ⟨rfl, rfl⟩) | (go_at_call 51; refine (HK.out _ (Below.refl _ _)).mono ?_; rintro e w3 ⟨rfl, b3⟩))
      go_ret
      exact ⟨_, rfl, Ints.none_, (below_next HB0.out b3)⟩
end Go.Proofs.YtjigjjbhdgpfjaaGreatDoor
/-
  The walk through the reference's NFD.
-/
namespace Go.Proofs.YtjigjjbhdgpfjaaGreatDoor
open Go.RowKit ND

set_option maxRecDepth 100000 in
set_option maxHeartbeats 2000000 in
theorem refNfd_any (t : Tv) (T : Tab) (v : Value) (xs : List Int) (w : World) (ht : TabR w w.heap.size t T) (hv : Ints w w.heap.size .i64 v xs) :
    Calls Tryz.prog 53 #[t.val, v] w (RetTwo w (nfdR T (accE T xs) xs).1 (nfdR T (accE T xs) xs).2) := by
  obtain ⟨A, c, rfl, _⟩ := id hv
  have HB0 : Hid (Below w.heap.size w (w.alloc (.cells t.cells 26))) := Lib.hid ((Below.refl _ _).alloc (Nat.le_refl _) _)
  have HT : Hid (Tbl (w.alloc (.cells t.cells 26)) w.heap.size t T) := Lib.hid ⟨Blk.new _ _ _, ht.later HB0.out⟩
  have HV := Lib.hid (hv.later HB0.out)
  clear ht hv
  have HO := Lib.hid (refAcc_any t T _ xs _ HT.out.2 HV.out)
  by_cases h0 : accE T xs = 0
  · obtain ⟨hck, hlen, _⟩ := accE_zero h0
    have hD := decOk_of hck
    have HX : Hid (∀ (b : Nat) (W : World) (x : Int), Tbl W b t T → Calls Tryz.prog 52 #[.agg #[t.c0, t.c1, t.c2, t.c3, t.c4, t.c5, t.c6, t.c7, t.c8, t.c9, t.c10, t.c11], .int .i64 x] W (RetInts W (expandL T x))) := Lib.hid fun b W x h => refExpand_any t T hD x W h.2
    have HXL := Lib.hid (fun x => (expandL_len hD x).2)
    have HFL := Lib.hid (fun l => (flatD_len hD l).2)
    have HOD := Lib.hid (fun W u (h : TabR W W.heap.size t T) hl hi => ordered_any t T u (flatD T xs) W h hck hl hi)
    have HND : Hid (can T.classOf (flatD T xs) = nfdL T xs) := Lib.hid rfl
    have HEF : Hid (4096 < (flatD T xs).length → nfdR T (accE T xs) xs = ([], 7)) := Lib.hid (by rw [h0]; exact fun h => nfdR_full h)
    have HEO : Hid ((flatD T xs).length ≤ 4096 → nfdR T (accE T xs) xs = (nfdL T xs, 0)) := Lib.hid (by rw [h0]; exact fun h => nfdR_ok h)
    rw [h0] at HO
    generalize nfdR T (accE T xs) xs = R at *
    clear h0 hck hD
    go_enter Tryz.func53, Tryz.ntmps53
    go_upto_region 1 with fail
    generalize w.alloc (.cells t.cells 26) = w1 at *
    obtain ⟨x0, x1, x2, x3, x4, x5, x6, x7, x8, x9, x10, x11⟩ := HT.out.1.tab
    go_upto_region 2 with (go_at_call 36; refine HO.out.mono ?_; rintro e w2 ⟨rfl, b2⟩)
    clear x0 x1 x2 x3 x4 x5 x6 x7 x8 x9 x10 x11
    obtain ⟨tb, htb⟩ : ∃ tb, w.heap.size = tb := ⟨_, rfl⟩
    have HT2 : Hid (Tbl w2 tb t T) := Lib.hid (htb ▸ HT.out.later b2)
    have HV2 := Lib.hid (HV.out.later b2)
    have HB2 := Lib.hid (below_next HB0.out b2)
    simp only [htb]
    clear HT HV HB0 HO b2
    obtain ⟨i0, hi, hz0, hz1, hz2⟩ := info_parts Tryz.infoInt'
    go_wp2_with fail
    go_loopw [18, 7] (fun s23 s9 wr => ∃ (k : Nat) (A9 : Option Addr) (c9 : Nat), k ≤ xs.length ∧ s23 = .int .i64 k ∧ s9 = .slice A9 (flatD T (xs.take k)).length c9 ∧ Hid (wr.ownsRow w2.heap.size 3 1 (.slice A9 (flatD T (xs.take k)).length c9) (flatD T (xs.take k)).length ((flatD T (xs.take k)).map (Value.int .i64))) ∧ Hid (Below w2.heap.size w2 wr)) (fun i _ _ => xs.length - (intOf i).toNat)
    case atStart => exact ⟨0, none, 0, by omega, rfl, rfl, Lib.hid (World.ownsRow_nil _ _ _ _), Lib.hid (Below.refl _ _)⟩
    case round =>
      obtain ⟨k, A9, c9, hk, rfl, rfl, HOr, HBr⟩ := hrel
      have hal := HFL.out (xs.take k)
      rw [List.length_take_of_le hk] at hal
      by_cases hlt : k < xs.length
      · obtain ⟨x, hxk, _⟩ := get_of hlt
        obtain ⟨_, _, hve, _, _, _, hcell⟩ := HV2.out
        cases hve
        obtain ⟨ad, rfl, ha, hce⟩ := hcell k x hxk
        have e1 := (HBr.out.cell (p := ad.add k) (by rw [block_of_add]; exact ha)).trans hce
        have HX2 := Lib.hid hxk
        have k0 : (0 : Int) ≤ (k : Int) := by omega
        have k1 : (k : Int) < (xs.length : Int) := by omega
        have HTr := Lib.hid (HT2.out.later HBr.out)
        have hml := HXL.out x
        have HMx := Lib.hid (HX.out tb wr x HTr.out)
        have HN := Lib.hid (flatD_step (T := T) HX2.out)
        clear hcell hxk ha hce
        generalize flatD T (xs.take k) = acc at *
        generalize expandL T x = ml at *
        obtain ⟨x0, x1, x2, x3, x4, x5, x6, x7, x8, x9, x10, x11⟩ := HTr.out.1.tab
        go_wp2_with (first
          | (go_at_call 52; refine HMx.out.mono ?_; rintro e w7 ⟨u7, rfl, hi7, b7⟩; obtain ⟨A7, c7, rfl, _⟩ := id hi7; have HI7 := Lib.hid hi7; have HO7 := Lib.hid (own_later HOr.out b7); have HB7 := Lib.hid (below_then HBr.out (Nat.le_refl _) b7); clear hi7 b7)
          | (at_builtin; refine wpList_append_ints (by rfl) (.tmp 22) (.tmp 25) rfl Tryz.underlying22 hi hz0 hz1 hz2 w7.heap.size w2.heap.size (.slice A9 acc.length c9) acc (.slice A7 ml.length c7) ml rfl HO7.out rfl HI7.out (by omega) HB7.out.size ?_; intro v6 w6 ho6 hg6 _; obtain ⟨A6, c6, rfl, _⟩ := id (Ints.of_own ho6); have HO6 := Lib.hid ho6; have HB6 := Lib.hid (HB7.out.grown hg6 HB7.out.size (fun q hq => (HO7.out.lt q hq).1)); clear ho6 hg6))
        go_roundw
        case rel => exact ⟨k + 1, A6, c6, by omega, by go_num, by rw [HN.out, List.length_append], Lib.hid (by rw [HN.out]; exact HO6.out), HB6⟩
        case measure => simp [intOf]; omega
      · have ht : xs.take k = xs := List.take_of_length_le (by omega)
        rw [ht] at HOr hal ⊢
        clear ht
        by_cases hfl : 4096 < (flatD T xs).length
        · have HR := Lib.hid (HEF.out hfl)
          have g : (4096 : Int) < ((flatD T xs).length : Int) := by omega
          clear hfl
          generalize flatD T xs = acc at *
          go_wp2_with fail
          go_ret2
          rw [HR.out]
          exact ⟨_, rfl, World.ownsRow_nil _ _ _ _, below_next HB2.out HBr.out⟩
        · have HR := Lib.hid (HEO.out (by omega))
          have g : ¬ (4096 : Int) < ((flatD T xs).length : Int) := by omega
          have HTr := Lib.hid (HT2.out.later HBr.out)
          have HDx := Lib.hid (HOD.out wr _ HTr.out.2 (by omega) (Ints.of_own HOr.out))
          rw [HND.out] at HDx
          clear hfl
          generalize flatD T xs = acc at *
          generalize nfdL T xs = nl at *
          obtain ⟨x0, x1, x2, x3, x4, x5, x6, x7, x8, x9, x10, x11⟩ := HTr.out.1.tab
          go_wp2_with (go_at_call 37; refine HDx.out.mono ?_; rintro e w8 ⟨u8, rfl, ho8, b8⟩)
          go_ret2
          rw [HR.out]
          exact ⟨_, rfl, row_le ho8 (by have := HB2.out.size; have := HBr.out.size; omega), below_next HB2.out (below_then HBr.out (Nat.le_refl _) b8)⟩
  · have HE : Hid (nfdR T (accE T xs) xs = ([], accE T xs)) := Lib.hid (nfdR_err h0)
    have hb : (accE T xs != 0) = true := by simpa using h0
    clear h0
    go_enter Tryz.func53, Tryz.ntmps53
    go_upto_region 1 with fail
    generalize w.alloc (.cells t.cells 26) = w1 at *
    obtain ⟨x0, x1, x2, x3, x4, x5, x6, x7, x8, x9, x10, x11⟩ := HT.out.1.tab
    go_wp2_with (go_at_call 36; refine HO.out.mono ?_; rintro e w2 ⟨rfl, b2⟩)
    go_ret2
    rw [HE.out]
    exact ⟨_, rfl, World.ownsRow_nil _ _ _ _, below_next HB0.out b2⟩

end Go.Proofs.YtjigjjbhdgpfjaaGreatDoor
/-
  The walk through the reference's IsNFD.
-/
namespace Go.Proofs.YtjigjjbhdgpfjaaGreatDoor
open Go.RowKit ND

set_option maxRecDepth 100000 in
set_option maxHeartbeats 1000000 in
theorem refIsNfd_any (t : Tv) (T : Tab) (v : Value) (xs : List Int) (w : World) (ht : TabR w w.heap.size t T) (hv : Ints w w.heap.size .i64 v xs) :
    Calls Tryz.prog 57 #[t.val, v] w fun e w' => e = .returned (.bool (isNfdB T xs)) ∧ Below w.heap.size w w' := by
  obtain ⟨A, c, rfl, _⟩ := id hv
  have HB0 : Hid (Below w.heap.size w (w.alloc (.cells t.cells 26))) := Lib.hid ((Below.refl _ _).alloc (Nat.le_refl _) _)
  have HT : Hid (Tbl (w.alloc (.cells t.cells 26)) w.heap.size t T) := Lib.hid ⟨Blk.new _ _ _, ht.later HB0.out⟩
  have HV := Lib.hid (hv.later HB0.out)
  have HO := Lib.hid (refNfd_any t T _ xs _ HT.out.2 HV.out)
  clear hv ht
  unfold isNfdB
  obtain ⟨ys, er, hr⟩ : ∃ ys er, nfdR T (accE T xs) xs = (ys, er) := ⟨_, _, rfl⟩
  rw [hr] at HO ⊢
  clear hr
  show Calls _ _ _ _ fun e w' => e = .returned (.bool (er == 0 && decide (ys = xs))) ∧ _
  obtain ⟨R, hR⟩ : ∃ R, R = decide (ys = xs) := ⟨_, rfl⟩
  have HR := Lib.hid hR
  rw [← hR]
  clear hR
  go_enter Tryz.func57, Tryz.ntmps57
  go_upto_region 1 with fail
  generalize w.alloc (.cells t.cells 26) = w1 at *
  obtain ⟨x0, x1, x2, x3, x4, x5, x6, x7, x8, x9, x10, x11⟩ := HT.out.1.tab
  go_upto_region 2 with (go_at_call 53; refine HO.out.mono ?_; rintro e w2 ⟨u, rfl, ho2, b2⟩; obtain ⟨A2, c2, rfl, _⟩ := id (Ints.of_own ho2); have HU := Lib.hid (Ints.of_own ho2); clear ho2)
  have HEQ : Hid (∀ V, Below w2.heap.size w2 V → Calls Tryz.prog 92 #[.slice A2 ys.length c2, .slice A xs.length c] V fun e V' => e = .returned (.bool R) ∧ Below V.heap.size V V') := Lib.hid fun V hV => by
    have h := refSame_any _ _ ys xs V (HU.out.later hV) ((HV.out.later b2).later hV)
    rw [← HR.out] at h; exact h
  clear x0 x1 x2 x3 x4 x5 x6 x7 x8 x9 x10 x11
  by_cases h0 : er = 0
  · have hb : (er == 0) = true := by rw [h0]; rfl
    clear h0
    go_wp2_with (go_at_call 92; refine (HEQ.out _ (Below.refl _ _)).mono ?_; rintro e w3 ⟨rfl, b3⟩)
    go_ret
    exact ⟨by rw [hb]; rfl, below_next (below_next HB0.out b2) b3⟩
  · have hb : (er == 0) = false := by simpa using h0
    clear h0
    go_wp2_with fail
    go_ret
    exact ⟨by rw [hb]; rfl, below_next HB0.out b2⟩
end Go.Proofs.YtjigjjbhdgpfjaaGreatDoor
/-
  The walk through the reference's Equivalent.
-/
namespace Go.Proofs.YtjigjjbhdgpfjaaGreatDoor
open Go.RowKit ND

set_option maxRecDepth 100000 in
set_option maxHeartbeats 2000000 in
theorem refEquiv_any (t : Tv) (T : Tab) (v : Value) (xs : List Int) (u : Value) (us : List Int) (w : World) (ht : TabR w w.heap.size t T) (hv : Ints w w.heap.size .i64 v xs) (hu : Ints w w.heap.size .i64 u us) :
    Calls Tryz.prog 55 #[t.val, v, u] w fun e w' => e = .returned (.tuple #[.bool (equivR T xs us).1, .int .i64 (equivR T xs us).2]) ∧ Below w.heap.size w w' := by
  obtain ⟨A, c, rfl, _⟩ := id hv
  obtain ⟨A', c', rfl, _⟩ := id hu
  have HB0 : Hid (Below w.heap.size w (w.alloc (.cells t.cells 26))) := Lib.hid ((Below.refl _ _).alloc (Nat.le_refl _) _)
  have HT : Hid (Tbl (w.alloc (.cells t.cells 26)) w.heap.size t T) := Lib.hid ⟨Blk.new _ _ _, ht.later HB0.out⟩
  have HV := Lib.hid (hv.later HB0.out)
  have HU := Lib.hid (hu.later HB0.out)
  clear ht hv hu
  have H1 := Lib.hid (fun W (h : Below (w.alloc (.cells t.cells 26)).heap.size (w.alloc (.cells t.cells 26)) W) hi => refNfd_any t T (.slice A xs.length c) xs W (HT.out.later h).2 hi)
  have H2 := Lib.hid (fun W (h : Below (w.alloc (.cells t.cells 26)).heap.size (w.alloc (.cells t.cells 26)) W) hi => refNfd_any t T (.slice A' us.length c') us W (HT.out.later h).2 hi)
  unfold equivR
  obtain ⟨y1, e1, h1⟩ : ∃ ys er, nfdR T (accE T xs) xs = (ys, er) := ⟨_, _, rfl⟩
  obtain ⟨y2, e2, h2⟩ : ∃ ys er, nfdR T (accE T us) us = (ys, er) := ⟨_, _, rfl⟩
  rw [h1] at H1
  rw [h2] at H2
  rw [h1, h2]
  clear h1 h2
  show Calls _ _ _ _ fun e w' => e = .returned (.tuple #[.bool (if e1 ≠ 0 then (false, e1) else if e2 ≠ 0 then (false, e2) else (decide (y1 = y2), 0)).1, .int .i64 (if e1 ≠ 0 then (false, e1) else if e2 ≠ 0 then (false, e2) else (decide (y1 = y2), 0)).2]) ∧ _
  by_cases z1 : e1 = 0
  · subst z1
    by_cases z2 : e2 = 0
    · subst z2
      obtain ⟨R, hR⟩ : ∃ R, R = decide (y1 = y2) := ⟨_, rfl⟩
      have HR := Lib.hid hR
      rw [← hR]
      clear hR
      go_enter Tryz.func55, Tryz.ntmps55
      go_upto_region 1 with fail
      generalize w.alloc (.cells t.cells 26) = w1 at *
      obtain ⟨x0, x1, x2, x3, x4, x5, x6, x7, x8, x9, x10, x11⟩ := HT.out.1.tab
      go_upto_region 4 with (go_at_call 53; refine (H1.out _ (Below.refl _ _) HV.out).mono ?_; rintro e w2 ⟨u2, rfl, ho2, b2⟩; obtain ⟨A2, c2, rfl, _⟩ := id (Ints.of_own ho2); have HI2 := Lib.hid (Ints.of_own ho2); clear ho2)
      clear x0 x1 x2 x3 x4 x5 x6 x7 x8 x9 x10 x11
      obtain ⟨x0, x1, x2, x3, x4, x5, x6, x7, x8, x9, x10, x11⟩ := (HT.out.later b2).1.tab
      go_upto_region 7 with (go_at_call 53; refine (H2.out _ b2 (HU.out.later b2)).mono ?_; rintro e w3 ⟨u3, rfl, ho3, b3⟩; obtain ⟨A3, c3, rfl, _⟩ := id (Ints.of_own ho3); have HI3 := Lib.hid (Ints.of_own ho3); clear ho3)
      clear x0 x1 x2 x3 x4 x5 x6 x7 x8 x9 x10 x11
      have HEQ : Hid (Calls Tryz.prog 92 #[.slice A2 y1.length c2, .slice A3 y2.length c3] w3 fun e V' => e = .returned (.bool R) ∧ Below w3.heap.size w3 V') := Lib.hid (by
        have h := refSame_any _ _ y1 y2 w3 (HI2.out.later b3) HI3.out
        rw [← HR.out] at h; exact h)
      go_wp2_with (go_at_call 92; refine HEQ.out.mono ?_; rintro e w4 ⟨rfl, b4⟩)
      go_ret2
      exact ⟨rfl, below_next (below_next (below_next HB0.out b2) b3) b4⟩
    · have hb : (e2 != 0) = true := by simpa using z2
      have HE : Hid ((if (0 : Int) ≠ 0 then (false, (0 : Int)) else if e2 ≠ 0 then (false, e2) else (decide (y1 = y2), 0)) = (false, e2)) := Lib.hid (by rw [if_neg (by omega), if_pos z2])
      rw [HE.out]
      clear z2
      go_enter Tryz.func55, Tryz.ntmps55
      go_upto_region 1 with fail
      generalize w.alloc (.cells t.cells 26) = w1 at *
      obtain ⟨x0, x1, x2, x3, x4, x5, x6, x7, x8, x9, x10, x11⟩ := HT.out.1.tab
      go_upto_region 4 with (go_at_call 53; refine (H1.out _ (Below.refl _ _) HV.out).mono ?_; rintro e w2 ⟨u2, rfl, ho2, b2⟩; obtain ⟨A2, c2, rfl, _⟩ := id (Ints.of_own ho2); clear ho2)
      clear x0 x1 x2 x3 x4 x5 x6 x7 x8 x9 x10 x11
      obtain ⟨x0, x1, x2, x3, x4, x5, x6, x7, x8, x9, x10, x11⟩ := (HT.out.later b2).1.tab
      go_wp2_with (go_at_call 53; refine (H2.out _ b2 (HU.out.later b2)).mono ?_; rintro e w3 ⟨u3, rfl, ho3, b3⟩; obtain ⟨A3, c3, rfl, _⟩ := id (Ints.of_own ho3); clear ho3)
      go_ret2
      exact ⟨rfl, below_next (below_next HB0.out b2) b3⟩
  · have hb : (e1 != 0) = true := by simpa using z1
    have HE : Hid ((if e1 ≠ 0 then (false, e1) else if e2 ≠ 0 then (false, e2) else (decide (y1 = y2), 0)) = (false, e1)) := Lib.hid (by rw [if_pos z1])
    rw [HE.out]
    clear z1
    go_enter Tryz.func55, Tryz.ntmps55
    go_upto_region 1 with fail
    generalize w.alloc (.cells t.cells 26) = w1 at *
    obtain ⟨x0, x1, x2, x3, x4, x5, x6, x7, x8, x9, x10, x11⟩ := HT.out.1.tab
    go_wp2_with (go_at_call 53; refine (H1.out _ (Below.refl _ _) HV.out).mono ?_; rintro e w2 ⟨u2, rfl, ho2, b2⟩; obtain ⟨A2, c2, rfl, _⟩ := id (Ints.of_own ho2); clear ho2)
    go_ret2
    exact ⟨rfl, below_next HB0.out b2⟩

end Go.Proofs.YtjigjjbhdgpfjaaGreatDoor
/-
  keep.Same of two equal lists.
-/
namespace Go.Proofs.YtjigjjbhdgpfjaaGreatDoor
open Go.RowKit ND

theorem same_of (v u : Value) (xs ys : List Int) (w : World) (hv : Ints w w.heap.size .i64 v xs) (hu : Ints w w.heap.size .i64 u ys) (h : xs = ys) :
    Calls Tryz.prog 13 #[v, u] w fun e w' => e = .returned (.bool true) ∧ Below w.heap.size w w' := by
  have h2 := same_any v u xs ys w hv hu
  rw [decide_eq_true h] at h2; exact h2
end Go.Proofs.YtjigjjbhdgpfjaaGreatDoor
