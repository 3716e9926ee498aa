/-
  Merged texts: lemmas and walks that the last text of this claim leans on.
-/
import Derived.Test.YtecpbicfiaifdaaGreatDoorMgB735
import Derived.Test.YtecpbicfiaifdaaGreatDoorMgB722
import Derived.Test.YtecpbicfiaifdaaGreatDoorMgB728
import Derived.Test.YtecpbicfiaifdaaGreatDoorMgB718
import Derived.Test.YtecpbicfiaifdaaGreatDoorMgB75
import Derived.Test.YtecpbicfiaifdaaGreatDoorMgB725
import Derived.Test.YtecpbicfiaifdaaGreatDoorMgB724
/-
  The walk through skeleton.Map.
-/
namespace Go.Proofs.YtecpbicfiaifdaaGreatDoor
open Go.RowKit ND

set_option maxRecDepth 100000 in
set_option maxHeartbeats 4000000 in
theorem skm_any (t : Tv) (T : Tab) (v : Value) (xs : List Int) (w : World) (ht : TabR w w.heap.size t T) (hg : Glob w) (hv : Ints w w.heap.size .i64 v xs) :
    Calls Tryz.prog 53 #[t.val, v] w (RetTwo w (skmR T (accE T xs) xs).1 (skmR T (accE T xs) xs).2) := by
  obtain ⟨A, c, rfl, _⟩ := id hv
  have HB0 : Hid (Below w.heap.size w (w.alloc (.cells t.cells 26))) := Lib.hid ((Below.refl _ _).alloc (Nat.le_refl _) _)
  have HT : Hid (Tbl (w.alloc (.cells t.cells 26)) w.heap.size t T) := Lib.hid ⟨Blk.new _ _ _, ht.later HB0.out⟩
  have HV := Lib.hid (hv.later HB0.out)
  have HG := Lib.hid (hg.later HB0.out)
  clear ht hv hg
  have HO := Lib.hid (order_any t T _ xs _ HT.out.2 HG.out HV.out)
  by_cases h0 : accE T xs = 0
  · obtain ⟨hck, hlen, _⟩ := accE_zero h0
    have hsh := shape_of hck
    have hsz := sized_of hck
    have HI : Hid (∀ (b : Nat) (W : World) (x : Int), Tbl W b t T → Calls Tryz.prog 77 #[.agg #[t.c0, t.c1, t.c2, t.c3, t.c4, t.c5, t.c6, t.c7, t.c8, t.c9, t.c10, t.c11], .int .i64 x] W (fun e W' => e = .returned (.bool (T.ignB x)) ∧ Below W.heap.size W W')) := Lib.hid fun b W x h => ignorable_any t T x 0 1114111 W h.2 hsh.c6.1 hsh.c6.2.1
    have HP : Hid (∀ (b : Nat) (W : World) (x : Int), Tbl W b t T → Calls Tryz.prog 78 #[.agg #[t.c0, t.c1, t.c2, t.c3, t.c4, t.c5, t.c6, t.c7, t.c8, t.c9, t.c10, t.c11], .int .i64 x] W (RetSeq W (findL T.prototypes x))) := Lib.hid fun b W x h => prototype_any t T x W h.2 (keysB_sort hsh.kp) hsz.np hsh.lp
    have HML := Lib.hid (fun x => proto_flen hck x)
    have HEF : Hid (4096 < (skelM T xs).length → skmR T (accE T xs) xs = ([], 7)) := Lib.hid (by rw [h0]; exact fun h => skmR_full h)
    have HEO : Hid ((skelM T xs).length ≤ 4096 → skmR T (accE T xs) xs = (skelM T xs, 0)) := Lib.hid (by rw [h0]; exact fun h => skmR_ok h)
    rw [h0] at HO
    generalize skmR T (accE T xs) xs = R at *
    clear h0 hck hsh hsz
    generalize ordL T xs = ol at *
    go_enter Tryz.func53, Tryz.ntmps53
    go_upto_region 1 with fail
    generalize w.alloc (.cells t.cells 26) = w1 at *
    obtain ⟨x0, x1, x2, x3, x4, x5, x6, x7, x8, x9, x10, x11⟩ := HT.out.1.tab
    go_upto_region 2 with (go_at_call 75; refine HO.out.mono ?_; rintro e w2 ⟨u2, rfl, ho2, b2⟩; obtain ⟨A2, c2, rfl, _⟩ := id (Ints.of_own ho2); clear ho2)
    clear x0 x1 x2 x3 x4 x5 x6 x7 x8 x9 x10 x11
    obtain ⟨tb, htb⟩ : ∃ tb, w.heap.size = tb := ⟨_, rfl⟩
    have HT2 : Hid (Tbl w2 tb t T) := Lib.hid (htb ▸ HT.out.later b2)
    have HV2 := Lib.hid (HV.out.later b2)
    have HB2 := Lib.hid (below_next HB0.out b2)
    simp only [htb]
    clear HT HV HB0 HO b2
    obtain ⟨i0, hi, hz0, hz1, hz2⟩ := info_parts Tryz.infoInt'
    go_wp2_with fail
    go_loopw [23, 8] (fun si so wr => ∃ (k : Nat) (acc : List Int) (A9 : Option Addr) (c9 : Nat), k ≤ xs.length ∧ si = .int .i64 k ∧ so = .slice A9 acc.length c9 ∧ acc.length ≤ 18 * k ∧ Hid (acc = skelM T (xs.take k)) ∧ Hid (wr.ownsRow w2.heap.size 3 1 (.slice A9 acc.length c9) acc.length (acc.map (Value.int .i64))) ∧ Hid (Below w2.heap.size w2 wr)) (fun i _ _ => xs.length - (intOf i).toNat)
    case atStart => exact ⟨0, [], none, 0, by omega, rfl, rfl, by simp, Lib.hid rfl, Lib.hid (World.ownsRow_nil _ _ _ _), Lib.hid (Below.refl _ _)⟩
    case round =>
      obtain ⟨k, acc, A9, c9, hk, rfl, rfl, hal, HS, HOr, HBr⟩ := hrel
      by_cases hlt : k < xs.length
      · obtain ⟨x, hxk, _⟩ := get_of hlt
        obtain ⟨_, _, hve, _, _, _, hcell⟩ := HV2.out
        cases hve
        obtain ⟨ad, rfl, ha, hce⟩ := hcell k x hxk
        have e1 := (HBr.out.cell (p := ad.add k) (by rw [block_of_add]; exact ha)).trans hce
        have HX := Lib.hid hxk
        have k0 : (0 : Int) ≤ (k : Int) := by omega
        have k1 : (k : Int) < (xs.length : Int) := by omega
        have HTr := Lib.hid (HT2.out.later HBr.out)
        have HOS := Lib.hid (skelM_step (T := T) HX.out)
        have HIx := Lib.hid (fun W (h : Below wr.heap.size wr W) => HI.out tb W x (HTr.out.later h))
        have HPx := Lib.hid (fun W (h : Below wr.heap.size wr W) => HP.out tb W x (HTr.out.later h))
        have hml := HML.out x
        clear hcell hxk ha hce
        obtain ⟨ig, hig⟩ : ∃ ig, T.ignB x = ig := ⟨_, rfl⟩
        simp only [hig] at HIx
        cases ig with
        | true =>
          have HN : Hid (acc = skelM T (xs.take (k + 1))) := Lib.hid (by rw [HOS.out, proto_ign hig, List.append_nil]; exact HS.out)
          clear hig
          generalize findL T.prototypes x = ml at *
          obtain ⟨x0, x1, x2, x3, x4, x5, x6, x7, x8, x9, x10, x11⟩ := HTr.out.1.tab
          go_wp2_with ((go_at_call 77; refine (HIx.out _ (Below.refl _ _)).mono ?_; rintro e w5 ⟨rfl, b5⟩; have HO5 := Lib.hid (own_later HOr.out b5); have HB5 := Lib.hid (below_then HBr.out (Nat.le_refl _) b5); have HT5 := Lib.hid (HTr.out.later b5); clear x0 x1 x2 x3 x4 x5 x6 x7 x8 x9 x10 x11; obtain ⟨x0, x1, x2, x3, x4, x5, x6, x7, x8, x9, x10, x11⟩ := HT5.out.1.tab))
          go_roundw
          case rel => exact ⟨k + 1, acc, A9, c9, by omega, by go_num, rfl, by omega, HN, HO5, HB5⟩
          case measure => simp [intOf]; omega
        | false =>
          by_cases hp : findL T.prototypes x = []
          · have HN : Hid (acc ++ [x] = skelM T (xs.take (k + 1))) := Lib.hid (by rw [HOS.out, proto_none hig hp, ← HS.out])
            rw [hp] at HPx
            clear hig hp hml
            obtain ⟨x0, x1, x2, x3, x4, x5, x6, x7, x8, x9, x10, x11⟩ := HTr.out.1.tab
            go_wp2_with (first
              | (go_at_call 77; refine (HIx.out _ (Below.refl _ _)).mono ?_; rintro e w5 ⟨rfl, b5⟩; have HO5 := Lib.hid (own_later HOr.out b5); have HB5 := Lib.hid (below_then HBr.out (Nat.le_refl _) b5); have HT5 := Lib.hid (HTr.out.later b5); clear x0 x1 x2 x3 x4 x5 x6 x7 x8 x9 x10 x11; obtain ⟨x0, x1, x2, x3, x4, x5, x6, x7, x8, x9, x10, x11⟩ := HT5.out.1.tab)
              | (go_at_call 78; refine (HPx.out _ b5).mono ?_; rintro e w7 ⟨u7, rfl, hi7, _, b7⟩; obtain ⟨A7, c7, rfl, _⟩ := id hi7; have HI7 := Lib.hid hi7; have HO7 := Lib.hid (own_later HO5.out b7); have HB7 := Lib.hid (below_then HB5.out (Nat.le_refl _) b7); clear hi7 b7)
              | (at_builtin; refine wpList_append_ints (by rfl) (.tmp 39) (.tmp 41) rfl Tryz.underlying22 hi hz0 hz1 hz2 (w7.heap.size + 1) w2.heap.size (.slice A9 acc.length c9) acc (.slice (some ⟨w7.heap.size, 0, none⟩) 1 1) [x] rfl (HO7.out.alloc _) rfl (by have h := Ints.of_own (own_new w7 3 [x] (by simp)); simpa using h) (by simp; omega) (by have := HB7.out.size; simp; omega) ?_; intro v6 w6 ho6 hg6 _; obtain ⟨A6, c6, rfl, _⟩ := id (Ints.of_own ho6); have HO6 := Lib.hid ho6; have HB6 := Lib.hid ((HB7.out.alloc HB7.out.size (.cells #[.int .i64 x] 3)).grown hg6 (by have := HB7.out.size; simp; omega) (fun q hq => (HO7.out.lt q hq).1)); clear ho6 hg6))
            go_roundw
            case rel => exact ⟨k + 1, acc ++ [x], A6, c6, by omega, by go_num, by simp, by simp; omega, HN, HO6, HB6⟩
            case measure => simp [intOf]; omega
          · have HN : Hid (acc ++ findL T.prototypes x = skelM T (xs.take (k + 1))) := Lib.hid (by rw [HOS.out, proto_some hig hp, ← HS.out])
            have gp : (0 : Int) < ((findL T.prototypes x).length : Int) := by have := List.length_pos_iff.2 hp; omega
            clear hig hp
            generalize findL T.prototypes x = ml at *
            obtain ⟨x0, x1, x2, x3, x4, x5, x6, x7, x8, x9, x10, x11⟩ := HTr.out.1.tab
            go_wp2_with (first
              | (go_at_call 77; refine (HIx.out _ (Below.refl _ _)).mono ?_; rintro e w5 ⟨rfl, b5⟩; have HO5 := Lib.hid (own_later HOr.out b5); have HB5 := Lib.hid (below_then HBr.out (Nat.le_refl _) b5); have HT5 := Lib.hid (HTr.out.later b5); clear x0 x1 x2 x3 x4 x5 x6 x7 x8 x9 x10 x11; obtain ⟨x0, x1, x2, x3, x4, x5, x6, x7, x8, x9, x10, x11⟩ := HT5.out.1.tab)
              | (go_at_call 78; refine (HPx.out _ b5).mono ?_; rintro e w7 ⟨u7, rfl, hi7, _, b7⟩; obtain ⟨A7, c7, rfl, _⟩ := id hi7; have HI7 := Lib.hid hi7; have HO7 := Lib.hid (own_later HO5.out b7); have HB7 := Lib.hid (below_then HB5.out (Nat.le_refl _) b7); clear hi7 b7)
              | (at_builtin; refine wpList_append_ints (by rfl) (.tmp 36) (.tmp 37) rfl Tryz.underlying22 hi hz0 hz1 hz2 w7.heap.size w2.heap.size (.slice A9 acc.length c9) acc (.slice A7 ml.length c7) ml rfl HO7.out rfl HI7.out (by omega) HB7.out.size ?_; intro v6 w6 ho6 hg6 _; obtain ⟨A6, c6, rfl, _⟩ := id (Ints.of_own ho6); have HO6 := Lib.hid ho6; have HB6 := Lib.hid (HB7.out.grown hg6 HB7.out.size (fun q hq => (HO7.out.lt q hq).1)); clear ho6 hg6))
            go_roundw
            case rel => exact ⟨k + 1, acc ++ ml, A6, c6, by omega, by go_num, by simp, by simp; omega, HN, HO6, HB6⟩
            case measure => simp [intOf]; omega
      · have HA : Hid (acc = skelM T xs) := Lib.hid (by have := HS.out; rwa [List.take_of_length_le (by omega)] at this)
        by_cases hfl : 4096 < acc.length
        · have HR := Lib.hid (HEF.out (by rw [← HA.out]; exact hfl))
          have g : (4096 : Int) < (acc.length : Int) := by omega
          clear hfl
          go_wp2_with fail
          go_ret2
          rw [HR.out]
          exact ⟨_, rfl, World.ownsRow_nil _ _ _ _, below_next HB2.out HBr.out⟩
        · have HR := Lib.hid (HEO.out (by rw [← HA.out]; omega))
          rw [← HA.out] at HR
          have g : ¬ (4096 : Int) < (acc.length : Int) := by omega
          clear hfl
          go_wp2_with fail
          go_ret2
          rw [HR.out]
          exact ⟨_, rfl, row_le HOr.out HB2.out.size, below_next HB2.out HBr.out⟩
  · have HE := Lib.hid (skmR_err (T := T) (l := xs) h0)
    have hb : (accE T xs != 0) = true := by simpa using h0
    clear h0
    go_enter Tryz.func53, Tryz.ntmps53
    go_upto_region 1 with fail
    generalize w.alloc (.cells t.cells 26) = w1 at *
    obtain ⟨x0, x1, x2, x3, x4, x5, x6, x7, x8, x9, x10, x11⟩ := HT.out.1.tab
    go_wp2_with (go_at_call 75; refine HO.out.mono ?_; rintro e w2 ⟨u2, rfl, ho2, b2⟩; obtain ⟨A2, c2, rfl, _⟩ := id (Ints.of_own ho2); clear ho2)
    go_ret2
    rw [HE.out]
    exact ⟨_, rfl, World.ownsRow_nil _ _ _ _, below_next HB0.out b2⟩
end Go.Proofs.YtecpbicfiaifdaaGreatDoor
/-
  The walk through skeleton.Of.
-/
namespace Go.Proofs.YtecpbicfiaifdaaGreatDoor
open Go.RowKit ND

set_option maxRecDepth 100000 in
set_option maxHeartbeats 2000000 in
theorem skOf_any (t : Tv) (T : Tab) (v : Value) (xs : List Int) (w : World) (ht : TabR w w.heap.size t T) (hg : Glob w) (hv : Ints w w.heap.size .i64 v xs) :
    Calls Tryz.prog 16 #[t.val, v] w (RetTwo w (skelR T xs).1 (skelR T xs).2) := by
  obtain ⟨A, c, rfl, _⟩ := id hv
  have HB0 : Hid (Below w.heap.size w (w.alloc (.cells t.cells 26))) := Lib.hid ((Below.refl _ _).alloc (Nat.le_refl _) _)
  have HT : Hid (Tbl (w.alloc (.cells t.cells 26)) w.heap.size t T) := Lib.hid ⟨Blk.new _ _ _, ht.later HB0.out⟩
  have HV := Lib.hid (hv.later HB0.out)
  have HG := Lib.hid (hg.later HB0.out)
  clear ht hv hg
  have H1 := Lib.hid (nfd7_any t T _ xs _ HT.out.2 HG.out HV.out)
  obtain ⟨dl, e1, hd⟩ : ∃ dl e1, nfdR T (accE T xs) xs = (dl, e1) := ⟨_, _, rfl⟩
  rw [hd] at H1
  have H2 := Lib.hid (fun W v (h : Below (w.alloc (.cells t.cells 26)).heap.size (w.alloc (.cells t.cells 26)) W) hi => skm_any t T v dl W (HT.out.later h).2 (HG.out.later h) hi)
  obtain ⟨ml, e2, hm⟩ : ∃ ml e2, skmR T (accE T dl) dl = (ml, e2) := ⟨_, _, rfl⟩
  rw [hm] at H2
  have H3 := Lib.hid (fun W v (h : Below (w.alloc (.cells t.cells 26)).heap.size (w.alloc (.cells t.cells 26)) W) hi => nfd7_any t T v ml W (HT.out.later h).2 (HG.out.later h) hi)
  obtain ⟨rl, e3, hr⟩ : ∃ rl e3, nfdR T (accE T ml) ml = (rl, e3) := ⟨_, _, rfl⟩
  rw [hr] at H3
  by_cases h1 : e1 = 0
  · subst h1
    by_cases h2 : e2 = 0
    · subst h2
      have HR := Lib.hid ((skelR_e3 hd hm).trans hr)
      clear hd hm hr
      generalize skelR T xs = R at *
      go_enter Tryz.func16, Tryz.ntmps16
      go_upto_region 1 with fail
      generalize w.alloc (.cells t.cells 26) = w1 at *
      obtain ⟨x0, x1, x2, x3, x4, x5, x6, x7, x8, x9, x10, x11⟩ := HT.out.1.tab
      go_upto_region 2 with (go_at_call 52; refine H1.out.mono ?_; rintro e w2 ⟨u2, rfl, ho2, b2⟩; obtain ⟨A2, c2, rfl, _⟩ := id (Ints.of_own ho2); have HU2 := Lib.hid (Ints.of_own ho2); clear ho2)
      clear x0 x1 x2 x3 x4 x5 x6 x7 x8 x9 x10 x11
      obtain ⟨x0, x1, x2, x3, x4, x5, x6, x7, x8, x9, x10, x11⟩ := (HT.out.later b2).1.tab
      go_upto_region 5 with (go_at_call 53; refine (H2.out _ _ b2 HU2.out).mono ?_; rintro e w3 ⟨u3, rfl, ho3, b3⟩; obtain ⟨A3, c3, rfl, _⟩ := id (Ints.of_own ho3); have HU3 := Lib.hid (Ints.of_own ho3); have b23 := below_next b2 b3; clear ho3)
      clear x0 x1 x2 x3 x4 x5 x6 x7 x8 x9 x10 x11
      obtain ⟨x0, x1, x2, x3, x4, x5, x6, x7, x8, x9, x10, x11⟩ := (HT.out.later b23).1.tab
      go_wp2_with (go_at_call 52; refine (H3.out _ _ b23 HU3.out).mono ?_; rintro e w4 ⟨u4, rfl, ho4, b4⟩; obtain ⟨A4, c4, rfl, _⟩ := id (Ints.of_own ho4))
      go_ret2
      rw [HR.out]
      exact ⟨_, rfl, row_le ho4 (by have := HB0.out.size; have := b23.size; omega), below_next (below_next HB0.out b23) b4⟩
    · have HR := Lib.hid (skelR_e2 hd hm h2)
      have hb : (e2 != 0) = true := by simpa using h2
      clear hd hm hr h2
      generalize skelR T xs = R at *
      go_enter Tryz.func16, Tryz.ntmps16
      go_upto_region 1 with fail
      generalize w.alloc (.cells t.cells 26) = w1 at *
      obtain ⟨x0, x1, x2, x3, x4, x5, x6, x7, x8, x9, x10, x11⟩ := HT.out.1.tab
      go_upto_region 2 with (go_at_call 52; refine H1.out.mono ?_; rintro e w2 ⟨u2, rfl, ho2, b2⟩; obtain ⟨A2, c2, rfl, _⟩ := id (Ints.of_own ho2); have HU2 := Lib.hid (Ints.of_own ho2); clear ho2)
      clear x0 x1 x2 x3 x4 x5 x6 x7 x8 x9 x10 x11
      obtain ⟨x0, x1, x2, x3, x4, x5, x6, x7, x8, x9, x10, x11⟩ := (HT.out.later b2).1.tab
      go_wp2_with (go_at_call 53; refine (H2.out _ _ b2 HU2.out).mono ?_; rintro e w3 ⟨u3, rfl, ho3, b3⟩; obtain ⟨A3, c3, rfl, _⟩ := id (Ints.of_own ho3); have HU3 := Lib.hid (Ints.of_own ho3); have b23 := below_next b2 b3; clear ho3)
      go_ret2
      rw [HR.out]
      exact ⟨_, rfl, World.ownsRow_nil _ _ _ _, below_next HB0.out b23⟩
  · have HR := Lib.hid (skelR_e1 hd h1)
    have hb : (e1 != 0) = true := by simpa using h1
    clear hd hm hr h1
    generalize skelR T xs = R at *
    go_enter Tryz.func16, Tryz.ntmps16
    go_upto_region 1 with fail
    generalize w.alloc (.cells t.cells 26) = w1 at *
    obtain ⟨x0, x1, x2, x3, x4, x5, x6, x7, x8, x9, x10, x11⟩ := HT.out.1.tab
    go_wp2_with (go_at_call 52; refine H1.out.mono ?_; rintro e w2 ⟨u2, rfl, ho2, b2⟩; obtain ⟨A2, c2, rfl, _⟩ := id (Ints.of_own ho2); have HU2 := Lib.hid (Ints.of_own ho2); clear ho2)
    go_ret2
    rw [HR.out]
    exact ⟨_, rfl, World.ownsRow_nil _ _ _ _, below_next HB0.out b2⟩
end Go.Proofs.YtecpbicfiaifdaaGreatDoor
/-
  The walk through confuse.Classes.
-/
namespace Go.Proofs.YtecpbicfiaifdaaGreatDoor
open Go.RowKit ND

theorem Tryz.infoRow : (Tryz.prog.info? 22).map (fun i => (i.zero, i.size, i.bytes)) = some (some (.slice none 0 0), 1, 24) := by kernel_rfl
set_option maxRecDepth 100000 in
set_option maxHeartbeats 8000000 in
theorem classes_any (t : Tv) (T : Tab) (v : Value) (yss : List (List Int)) (w : World) (ht : TabR w w.heap.size t T) (hg : Glob w) (hv : Lists w w.heap.size v yss) :
    Calls Tryz.prog 61 #[t.val, v] w (RetTwo w (classesR T yss).1 (classesR T yss).2) := by
  obtain ⟨A, c, rfl, _⟩ := id hv
  have HB0 : Hid (Below w.heap.size w (w.alloc (.cells t.cells 26))) := Lib.hid ((Below.refl _ _).alloc (Nat.le_refl _) _)
  have HT : Hid (Tbl (w.alloc (.cells t.cells 26)) w.heap.size t T) := Lib.hid ⟨Blk.new _ _ _, ht.later HB0.out⟩
  have HV := Lib.hid (hv.later HB0.out)
  have HG := Lib.hid (hg.later HB0.out)
  clear ht hv hg
  by_cases hbig : 256 < yss.length
  · have HR := Lib.hid (classesR_full (T := T) hbig)
    have g1 : (256 : Int) < (yss.length : Int) := by omega
    clear hbig
    generalize classesR T yss = R at *
    go_enter Tryz.func61, Tryz.ntmps61
    go_wp2_with fail
    go_ret2
    rw [HR.out]
    exact ⟨_, rfl, World.ownsRow_nil _ _ _ _, HB0.out⟩
  · have g1 : ¬ (256 : Int) < (yss.length : Int) := by omega
    have HRE := Lib.hid (fun e (h : firstE T yss = e) h2 => classesR_err (by omega) h h2)
    have HRO := Lib.hid (fun (h : firstE T yss = 0) => classesR_ok (T := T) (by omega) h)
    have hl6 : yss.length ≤ 256 := by omega
    clear hbig
    generalize classesR T yss = R at *
    go_enter Tryz.func61, Tryz.ntmps61
    go_upto_region 1 with fail
    generalize w.alloc (.cells t.cells 26) = w1 at *
    obtain ⟨tb, htb⟩ : ∃ tb, w.heap.size = tb := ⟨_, rfl⟩
    rw [htb] at HT
    simp only [htb]
    obtain ⟨i0, hi, hz0, hz1, hz2⟩ := info_parts Tryz.infoInt'
    obtain ⟨j0, hj, hy0, hy1, hy2⟩ := info_parts Tryz.infoRow
    have eg : ∀ args w, (callFunc 84 args).run Tryz.prog w = .ok (.enter 84 args) w := fun args w => by kernel_rfl
    have HEG := Lib.hid eg
    clear eg
    go_wp2_with fail
    go_loopw [18, 6, 7] (fun si t6 t7 wr => ∃ (k : Nat) (s6 s7 : Value), k ≤ yss.length ∧ si = .int .i64 k ∧ s6 = t6 ∧ s7 = t7 ∧ Hid (firstE T (yss.drop k) = firstE T yss) ∧ Hid (LRowA wr w1.heap.size s6 ((skels T yss).take k) s7.ownBlock) ∧ Hid (wr.ownsRow w1.heap.size 3 1 s7 ((classesL T yss).take k).length (((classesL T yss).take k).map (Value.int .i64))) ∧ Hid (Below w1.heap.size w1 wr)) (fun si _ _ _ => yss.length - (intOf si).toNat)
    case atStart => exact ⟨0, _, _, by omega, rfl, rfl, rfl, Lib.hid rfl, Lib.hid (LRowA.nil _ _), Lib.hid (World.ownsRow_nil _ _ _ _), Lib.hid (Below.refl _ _)⟩
    case round =>
      obtain ⟨k, s6, s7, hk, rfl, rfl, rfl, HE, HLr, HOr, HBr⟩ := hrel
      have HTr := Lib.hid (HT.out.later HBr.out)
      by_cases hlt : k < yss.length
      · obtain ⟨l, hl⟩ : ∃ l, yss[k]? = some l := ⟨_, List.getElem?_eq_getElem hlt⟩
        obtain ⟨_, _, hve, _, _, _, hcell⟩ := HV.out
        cases hve
        obtain ⟨ad, u, rfl, ha, hce, hil⟩ := hcell k l hl
        have e1 := (HBr.out.cell (p := ad.add k) (by rw [block_of_add]; exact ha)).trans hce
        have HIL := Lib.hid ((hil.below HBr.out).more HBr.out.size)
        have H1 := Lib.hid (skOf_any t T u l wr HTr.out.2 (HG.out.later HBr.out) HIL.out)
        have HL := Lib.hid hl
        have k0 : (0 : Int) ≤ (k : Int) := by omega
        have k1 : (k : Int) < (yss.length : Int) := by omega
        clear hcell hce hl hil ha HIL
        obtain ⟨s, er, hs⟩ : ∃ s er, skelR T l = (s, er) := ⟨_, _, rfl⟩
        rw [hs] at H1
        by_cases h0 : er = 0
        · subst h0
          have HE2 := Lib.hid (firstE_go HL.out HE.out hs)
          have HSS := Lib.hid (skels_snoc HL.out hs)
          have HCS := Lib.hid (classes_snoc HL.out hs)
          clear hs
          obtain ⟨x0, x1, x2, x3, x4, x5, x6, x7, x8, x9, x10, x11⟩ := HTr.out.1.tab
          go_upto_region 9 with (go_at_call 16; refine H1.out.mono ?_; rintro e w5 ⟨u5, rfl, ho5, b5⟩; obtain ⟨As, cs, rfl, _⟩ := id (Ints.of_own ho5); have HU5 := Lib.hid (Ints.of_own ho5); have HAD := Lib.hid (own_addr ho5); clear ho5)
          clear x0 x1 x2 x3 x4 x5 x6 x7 x8 x9 x10 x11 H1 e1
          have bl := (Below.refl w5.heap.size w5).alloc (Nat.le_refl _) (.cells #[.slice As s.length cs] 22)
          have HBK := Lib.hid (Blk.new w5 22 #[.slice As s.length cs])
          have HLS := Lib.hid ((HLr.out.later b5).later bl)
          have HOS := Lib.hid (own_later (own_later HOr.out b5) bl)
          have HBS := Lib.hid (below_then (below_then HBr.out (Nat.le_refl _) b5) (by have := HBr.out.size; have := b5.size; omega) bl)
          have HUS := Lib.hid (HU5.out.later bl)
          have HSZ : Hid (wr.heap.size ≤ w5.heap.size) := Lib.hid b5.size
          have HSB : Hid (w5.heap.size ≤ (w5.alloc (.cells #[.slice As s.length cs] 22)).heap.size) := Lib.hid bl.size
          have HFR : Hid (∀ ad, As = some ad → wr.heap.size ≤ ad.block) := Lib.hid (fun ad ha => (HAD.out ad ha).1)
          clear b5 bl HU5
          generalize w5.alloc (.cells #[.slice As s.length cs] 22) = w6 at *
          obtain ⟨sb, hsb⟩ : ∃ sb, w5.heap.size = sb := ⟨_, rfl⟩
          rw [hsb] at HBK
          simp only [hsb]
          have n1 : ((skels T yss).take k).length = k := by rw [List.length_take, skels_length]; omega
          have n2 : ((classesL T yss).take k).length = k := by rw [List.length_take, classesL_length]; omega
          have HN1 := Lib.hid n1
          have HN2 := Lib.hid n2
          have HIX := Lib.hid (indexFunc_any 84 #[.pointer (some ⟨sb, 0, none⟩)] s6 ((skels T yss).take k) (fun y => decide (y = s)) w6 HEG.out (LRowA.toL HLS.out).lists (by omega) (fun W u ys hb hi => by simpa using clos21_any sb As cs s u ys W (HBK.out.later hb) (HUS.out.later hb) hi))
          have hci := class_idx HSS.out
          clear n1 n2
          obtain ⟨ix, hix⟩ : ∃ ix, idxGo (fun y => decide (y = s)) 0 ((skels T yss).take k) = ix := ⟨_, rfl⟩
          rw [hix] at HIX hci
          clear hix
          obtain ⟨f, hf⟩ : ∃ f, classOfI (skels T yss) s = f := ⟨_, rfl⟩
          rw [hf] at hci HCS
          clear hf
          go_upto_region 12 with (go_at_call 83; refine HIX.out.mono ?_; rintro e w7 ⟨rfl, b7⟩)
          have bl7 := (Below.refl w7.heap.size w7).alloc (Nat.le_refl _) (.cells #[.slice As s.length cs] 22)
          have x0 := (HBK.out.later b7).cell 0
          have HL7 := Lib.hid ((HLS.out.later b7).later bl7)
          have HO7 := Lib.hid (own_later (own_later HOS.out b7) bl7)
          have HB7 := Lib.hid (below_then (below_then HBS.out (Nat.le_refl _) b7) (Nat.le_refl _) bl7)
          have HU7 := Lib.hid ((HUS.out.later b7).later bl7)
          have HD7 : Hid (∀ ad, As = some ad → ad.block < (w7.alloc (.cells #[.slice As s.length cs] 22)).heap.size ∧ s6.ownBlock ≠ some ad.block ∧ s7.ownBlock ≠ some ad.block) := Lib.hid (fun ad ha => by
            obtain ⟨q1, q2⟩ := HLr.out.lt
            have q3 := HFR.out ad ha
            have q4 : ad.block < w7.heap.size := by
              have := (HAD.out ad ha).2
              have := HSB.out
              have := b7.size
              omega
            refine ⟨by simp; omega, fun h => ?_, fun h => ?_⟩
            · have := q1 _ h; omega
            · have := q2 _ h; omega)
          clear HIX HUS HLS HOS HBS HBK bl7 HLr HOr HBr b7 HEG HAD HSB HFR HSZ
          rcases hci with hi1 | ⟨hi1, hi2, hi3⟩
          · obtain ⟨rfl, rfl⟩ := hi1
            have HNX : Hid ((skels T yss).take (k + 1) = (skels T yss).take k ++ [s] ∧ (classesL T yss).take (k + 1) = (classesL T yss).take k ++ [(k : Int)]) := Lib.hid ⟨take_snoc21 HSS.out, take_snoc21 HCS.out⟩
            clear HSS HCS
            generalize (skels T yss).take k = sk at *
            generalize (classesL T yss).take k = ck at *
            go_wp2_with (first
              | (at_builtin; refine wpList_append_sliceA (by rfl) (.tmp 38) (.tmp 40) rfl Tryz.underlying44 hj hy0 hy1 hy2 w1.heap.size s6 sk ⟨w7.heap.size, 0, none⟩ As cs s rfl s7.ownBlock HL7.out rfl ((Blk.new w7 22 #[.slice As s.length cs]).cell 0) HU7.out HD7.out (by have := HN1.out; omega) HB7.out.size ?_; intro v8 w8 hr8 hg8; have HL8 := Lib.hid hr8; have HO8 := Lib.hid (own_other HO7.out hg8 HL7.out.apart); have HB8 := Lib.hid (HB7.out.trans (hg8.below HL7.out.above HB7.out.size)); clear hr8 hg8)
              | (at_builtin; refine wpList_append_gr (by rfl) (.tmp 42) (.tmp 44) rfl Tryz.underlying22 hi hz0 hz1 hz2 (w8.heap.size + 1) w1.heap.size s7 ck (.slice (some ⟨w8.heap.size, 0, none⟩) 1 1) [(k : Int)] rfl (HO8.out.alloc _) rfl (by have h := Ints.of_own (own_new w8 3 [(k : Int)] (by simp)); simpa using h) (by have := HN2.out; simp; omega) (by have := HB8.out.size; simp; omega) ?_; intro v9 w9 ho9 hg9; have HO9 := Lib.hid ho9; have HL9 := Lib.hid ((HL8.out.later ((Below.refl w8.heap.size w8).alloc (Nat.le_refl _) _)).other hg9 (fun g hg => (own_base ho9 g hg).2)); have HB9 := Lib.hid ((below_then HB8.out (Nat.le_refl _) ((Below.refl w8.heap.size w8).alloc (Nat.le_refl _) _)).trans (hg9.below (fun g hg => (own_base HO8.out g hg).1) (by have := HB8.out.size; simp; omega))); clear ho9 hg9))
            go_roundw
            case rel => exact ⟨k + 1, _, _, by omega, by go_num, rfl, rfl, HE2, Lib.hid (by rw [HNX.out.1]; exact HL9.out), Lib.hid (by rw [HNX.out.2]; exact HO9.out), HB9⟩
            case measure => simp [intOf]; omega
          · subst hi2
            have hneg : ¬ f < 0 := by omega
            clear hi1
            have HNX : Hid ((skels T yss).take (k + 1) = (skels T yss).take k ++ [s] ∧ (classesL T yss).take (k + 1) = (classesL T yss).take k ++ [f]) := Lib.hid ⟨take_snoc21 HSS.out, take_snoc21 HCS.out⟩
            clear HSS HCS
            generalize (skels T yss).take k = sk at *
            generalize (classesL T yss).take k = ck at *
            go_wp2_with (first
              | (at_builtin; refine wpList_append_sliceA (by rfl) (.tmp 38) (.tmp 40) rfl Tryz.underlying44 hj hy0 hy1 hy2 w1.heap.size s6 sk ⟨w7.heap.size, 0, none⟩ As cs s rfl s7.ownBlock HL7.out rfl ((Blk.new w7 22 #[.slice As s.length cs]).cell 0) HU7.out HD7.out (by have := HN1.out; omega) HB7.out.size ?_; intro v8 w8 hr8 hg8; have HL8 := Lib.hid hr8; have HO8 := Lib.hid (own_other HO7.out hg8 HL7.out.apart); have HB8 := Lib.hid (HB7.out.trans (hg8.below HL7.out.above HB7.out.size)); clear hr8 hg8)
              | (at_builtin; refine wpList_append_gr (by rfl) (.tmp 42) (.tmp 44) rfl Tryz.underlying22 hi hz0 hz1 hz2 (w8.heap.size + 1) w1.heap.size s7 ck (.slice (some ⟨w8.heap.size, 0, none⟩) 1 1) [f] rfl (HO8.out.alloc _) rfl (by have h := Ints.of_own (own_new w8 3 [f] (by simp)); simpa using h) (by have := HN2.out; simp; omega) (by have := HB8.out.size; simp; omega) ?_; intro v9 w9 ho9 hg9; have HO9 := Lib.hid ho9; have HL9 := Lib.hid ((HL8.out.later ((Below.refl w8.heap.size w8).alloc (Nat.le_refl _) _)).other hg9 (fun g hg => (own_base ho9 g hg).2)); have HB9 := Lib.hid ((below_then HB8.out (Nat.le_refl _) ((Below.refl w8.heap.size w8).alloc (Nat.le_refl _) _)).trans (hg9.below (fun g hg => (own_base HO8.out g hg).1) (by have := HB8.out.size; simp; omega))); clear ho9 hg9))
            go_roundw
            case rel => exact ⟨k + 1, _, _, by omega, by go_num, rfl, rfl, HE2, Lib.hid (by rw [HNX.out.1]; exact HL9.out), Lib.hid (by rw [HNX.out.2]; exact HO9.out), HB9⟩
            case measure => simp [intOf]; omega
        · have HR := Lib.hid (HRE.out er (firstE_hit HL.out HE.out hs h0) h0)
          have hb : (er != 0) = true := by simpa using h0
          clear hs h0
          obtain ⟨x0, x1, x2, x3, x4, x5, x6, x7, x8, x9, x10, x11⟩ := HTr.out.1.tab
          go_wp2_with (go_at_call 16; refine H1.out.mono ?_; rintro e w5 ⟨u5, rfl, ho5, b5⟩; obtain ⟨As, cs, rfl, _⟩ := id (Ints.of_own ho5); have HB5 := Lib.hid (below_then HBr.out (Nat.le_refl _) b5); clear ho5 b5)
          go_ret2
          rw [HR.out]
          exact ⟨_, rfl, World.ownsRow_nil _ _ _ _, below_next HB0.out (HB5.out.alloc HB5.out.size _)⟩
      · have HR := Lib.hid (HRO.out (firstE_end (by omega) HE.out))
        have HOX : Hid (wr.ownsRow w1.heap.size 3 1 s7 (classesL T yss).length ((classesL T yss).map (Value.int .i64))) := Lib.hid (by have h := HOr.out; rwa [List.take_of_length_le (by rw [classesL_length]; omega)] at h)
        go_wp2_with fail
        go_ret2
        rw [HR.out]
        exact ⟨_, rfl, row_le HOX.out HB0.out.size, below_next HB0.out HBr.out⟩
end Go.Proofs.YtecpbicfiaifdaaGreatDoor
/-
  The walk through confuse.Twins.
-/
namespace Go.Proofs.YtecpbicfiaifdaaGreatDoor
open Go.RowKit ND

set_option maxRecDepth 100000 in
set_option maxHeartbeats 2000000 in
theorem twins_any (t : Tv) (T : Tab) (v : Value) (yss : List (List Int)) (w : World) (ht : TabR w w.heap.size t T) (hg : Glob w) (hv : Lists w w.heap.size v yss) :
    Calls Tryz.prog 29 #[t.val, v] w fun e w' => e = .returned (.tuple #[.int .i64 (twinsR T yss).1, .int .i64 (twinsR T yss).2.1, .bool (twinsR T yss).2.2]) ∧ Below w.heap.size w w' := by
  obtain ⟨A, c, rfl, _⟩ := id hv
  have HB0 : Hid (Below w.heap.size w (w.alloc (.cells t.cells 26))) := Lib.hid ((Below.refl _ _).alloc (Nat.le_refl _) _)
  have HT : Hid (Tbl (w.alloc (.cells t.cells 26)) w.heap.size t T) := Lib.hid ⟨Blk.new _ _ _, ht.later HB0.out⟩
  have HC := Lib.hid (classes_any t T _ yss _ HT.out.2 (hg.later HB0.out) (hv.later HB0.out))
  clear ht hv hg
  unfold twinsR
  obtain ⟨cl, er, hcl⟩ : ∃ cl er, classesR T yss = (cl, er) := ⟨_, _, rfl⟩
  rw [hcl] at HC ⊢
  clear hcl
  show Calls _ _ _ _ fun e w' => e = .returned (.tuple #[.int .i64 (twinsGo 0 cl).1, .int .i64 (twinsGo 0 cl).2.1, .bool (twinsGo 0 cl).2.2]) ∧ _
  obtain ⟨R, hR⟩ : ∃ R, twinsGo 0 cl = R := ⟨_, rfl⟩
  have HR : Hid (twinsGo 0 (cl.drop 0) = R) := Lib.hid hR
  rw [hR]
  clear hR
  go_enter Tryz.func29, Tryz.ntmps29
  go_upto_region 1 with fail
  generalize w.alloc (.cells t.cells 26) = w1 at *
  obtain ⟨x0, x1, x2, x3, x4, x5, x6, x7, x8, x9, x10, x11⟩ := HT.out.1.tab
  go_upto_region 2 with (go_at_call 61; refine HC.out.mono ?_; rintro e w2 ⟨u2, rfl, ho2, b2⟩; obtain ⟨A2, c2, rfl, _⟩ := id (Ints.of_own ho2); have HU := Lib.hid (Ints.of_own ho2); have HB2 := Lib.hid (below_next HB0.out b2); clear ho2 b2)
  clear x0 x1 x2 x3 x4 x5 x6 x7 x8 x9 x10 x11 HC
  have l1 : cl.length ≤ 9223372036854775807 := by
    obtain ⟨_, _, e, h1, h2, _⟩ := HU.out
    unfold maxLen at h2; cases e; omega
  go_wp2_with fail
  go_loopw [19] (fun si wr => ∃ (j : Nat), j ≤ cl.length ∧ si = .int .i64 j ∧ Hid (twinsGo j (cl.drop j) = R) ∧ wr = w2) (fun si _ => cl.length - (intOf si).toNat)
  case atStart => exact ⟨0, by omega, rfl, HR, rfl⟩
  case round =>
    clear HR
    obtain ⟨j, hj, rfl, HS, rfl⟩ := hrel
    by_cases hlt : j < cl.length
    · obtain ⟨x, hxj, _⟩ := get_of hlt
      obtain ⟨_, _, hve, _, _, _, hcell⟩ := HU.out
      cases hve
      obtain ⟨ad, rfl, ha, e1⟩ := hcell j x hxj
      have j0 : (0 : Int) ≤ (j : Int) := by omega
      have j1 : (j : Int) < (cl.length : Int) := by omega
      have hst := twins_step hxj
      rw [HS.out] at hst
      clear hcell hxj ha
      by_cases hx : x < (j : Int)
      · rw [if_pos hx] at hst
        have HN := Lib.hid hst
        clear hst
        go_wp2_with fail
        go_ret3
        rw [HN.out]
        exact ⟨rfl, HB2.out⟩
      · rw [if_neg hx] at hst
        have HN := Lib.hid hst.symm
        clear hst
        go_wp2_with fail
        go_roundw
        case rel => exact ⟨j + 1, by omega, by go_num, HN, by first | rfl | trivial⟩
        case measure => simp [intOf]; omega
    · have HN : Hid (R = (0, 0, false)) := Lib.hid (HS.out.symm.trans (twins_end (by omega)))
      go_wp2_with fail
      go_ret3
      rw [HN.out]
      exact ⟨rfl, HB2.out⟩
end Go.Proofs.YtecpbicfiaifdaaGreatDoor
/-
  The walk through awake of the laws of layer 21: the example of its chapter.
-/
namespace Go.Proofs.YtecpbicfiaifdaaGreatDoor
open Go.RowKit ND

def tab21 : Tab := ⟨[], [], [], [], [], [], [], [], [], [], [], [(109, [114, 110])]⟩
theorem cl21 : classesR tab21 [[109], [97], [114, 110]] = ([0, 1, 0], 0) := by decide +kernel
theorem tw21 : twinsR tab21 [[109], [97], [114, 110]] = (0, 2, true) := by decide +kernel
/-- The example's tables, as they lie. -/
theorem lay21 (w : World) : ∃ t : Tv, t = ⟨.slice none 0 0, .slice none 0 0, .slice none 0 0, .slice none 0 0, .slice none 0 0, .slice none 0 0, .slice none 0 0, .slice none 0 0, .slice none 0 0, .slice none 0 0, .slice none 0 0, .slice (some ⟨w.heap.size + 1, 0, none⟩) 1 1⟩ ∧ Tbl (((w.alloc (.cells #[.int .i64 114, .int .i64 110] 3)).alloc (.cells #[.int .i64 109, .slice (some ⟨w.heap.size, 0, none⟩) 2 2] 71)).alloc (.cells #[.slice none 0 0, .slice none 0 0, .slice none 0 0, .slice none 0 0, .slice none 0 0, .slice none 0 0, .slice none 0 0, .slice none 0 0, .slice none 0 0, .slice none 0 0, .slice none 0 0, .slice (some ⟨w.heap.size + 1, 0, none⟩) 1 1] 26)) (w.heap.size + 1 + 1) t tab21 ∧ Below w.heap.size w (((w.alloc (.cells #[.int .i64 114, .int .i64 110] 3)).alloc (.cells #[.int .i64 109, .slice (some ⟨w.heap.size, 0, none⟩) 2 2] 71)).alloc (.cells #[.slice none 0 0, .slice none 0 0, .slice none 0 0, .slice none 0 0, .slice none 0 0, .slice none 0 0, .slice none 0 0, .slice none 0 0, .slice none 0 0, .slice none 0 0, .slice none 0 0, .slice (some ⟨w.heap.size + 1, 0, none⟩) 1 1] 26)) := by
  have b1 := (Below.refl w.heap.size w).alloc (Nat.le_refl _) (.cells #[.int .i64 114, .int .i64 110] 3)
  have i1 : Ints (w.alloc (.cells #[.int .i64 114, .int .i64 110] 3)) (w.alloc (.cells #[.int .i64 114, .int .i64 110] 3)).heap.size .i64 (.slice (some ⟨w.heap.size, 0, none⟩) 2 2) [114, 110] := (by have h := Ints.of_own (own_new w 3 [114, 110] (by simp)); simpa using h)
  have s1 : (w.alloc (.cells #[.int .i64 114, .int .i64 110] 3)).heap.size = w.heap.size + 1 := by simp
  generalize (w.alloc (.cells #[.int .i64 114, .int .i64 110] 3)) = a1 at *
  have b3 := (Below.refl a1.heap.size a1).alloc (Nat.le_refl _) (.cells #[.int .i64 109, .slice (some ⟨w.heap.size, 0, none⟩) 2 2] 71)
  have hm := lit_map a1 109 _ [114, 110] i1
  have s3 : (a1.alloc (.cells #[.int .i64 109, .slice (some ⟨w.heap.size, 0, none⟩) 2 2] 71)).heap.size = w.heap.size + 1 + 1 := by simp [s1]
  rw [s1] at hm
  generalize a1.alloc (.cells #[.int .i64 109, .slice (some ⟨w.heap.size, 0, none⟩) 2 2] 71) = a3 at *
  have b4 := (Below.refl a3.heap.size a3).alloc (Nat.le_refl _) (.cells #[.slice none 0 0, .slice none 0 0, .slice none 0 0, .slice none 0 0, .slice none 0 0, .slice none 0 0, .slice none 0 0, .slice none 0 0, .slice none 0 0, .slice none 0 0, .slice none 0 0, .slice (some ⟨w.heap.size + 1, 0, none⟩) 1 1] 26)
  have hX := Blk.new a3 26 #[.slice none 0 0, .slice none 0 0, .slice none 0 0, .slice none 0 0, .slice none 0 0, .slice none 0 0, .slice none 0 0, .slice none 0 0, .slice none 0 0, .slice none 0 0, .slice none 0 0, .slice (some ⟨w.heap.size + 1, 0, none⟩) 1 1]
  rw [s3] at hX
  refine ⟨_, rfl, ⟨hX, ⟨Spans.none_, Spans.none_, Spans.none_, Spans.none_, Spans.none_, Spans.none_, Spans.none_, Mapps.none_, Mapps.none_, Mapps.none_, Ints.none_, hm.later b4⟩⟩, below_next (below_next b1 b3) b4⟩
/-- The example's sequences, as they lie. -/
theorem rows21 (w1 : World) : Lists ((((w1.alloc (.cells #[.int .i64 109] 3)).alloc (.cells #[.int .i64 97] 3)).alloc (.cells #[.int .i64 114, .int .i64 110] 3)).alloc (.cells #[.slice (some ⟨w1.heap.size, 0, none⟩) 1 1, .slice (some ⟨w1.heap.size + 1, 0, none⟩) 1 1, .slice (some ⟨w1.heap.size + 1 + 1, 0, none⟩) 2 2] 22)) ((((w1.alloc (.cells #[.int .i64 109] 3)).alloc (.cells #[.int .i64 97] 3)).alloc (.cells #[.int .i64 114, .int .i64 110] 3)).alloc (.cells #[.slice (some ⟨w1.heap.size, 0, none⟩) 1 1, .slice (some ⟨w1.heap.size + 1, 0, none⟩) 1 1, .slice (some ⟨w1.heap.size + 1 + 1, 0, none⟩) 2 2] 22)).heap.size (.slice (some ⟨w1.heap.size + 1 + 1 + 1, 0, none⟩) 3 3) [[109], [97], [114, 110]] ∧ Below w1.heap.size w1 ((((w1.alloc (.cells #[.int .i64 109] 3)).alloc (.cells #[.int .i64 97] 3)).alloc (.cells #[.int .i64 114, .int .i64 110] 3)).alloc (.cells #[.slice (some ⟨w1.heap.size, 0, none⟩) 1 1, .slice (some ⟨w1.heap.size + 1, 0, none⟩) 1 1, .slice (some ⟨w1.heap.size + 1 + 1, 0, none⟩) 2 2] 22)) := by
  have c1 := (Below.refl w1.heap.size w1).alloc (Nat.le_refl _) (.cells #[.int .i64 109] 3)
  have i1 : Ints (w1.alloc (.cells #[.int .i64 109] 3)) (w1.alloc (.cells #[.int .i64 109] 3)).heap.size .i64 (.slice (some ⟨w1.heap.size, 0, none⟩) 1 1) [109] := (by have h := Ints.of_own (own_new w1 3 [109] (by simp)); simpa using h)
  have s1 : (w1.alloc (.cells #[.int .i64 109] 3)).heap.size = w1.heap.size + 1 := by simp
  generalize (w1.alloc (.cells #[.int .i64 109] 3)) = a1 at *
  have c2 := (Below.refl a1.heap.size a1).alloc (Nat.le_refl _) (.cells #[.int .i64 97] 3)
  have i2 : Ints (a1.alloc (.cells #[.int .i64 97] 3)) (a1.alloc (.cells #[.int .i64 97] 3)).heap.size .i64 (.slice (some ⟨a1.heap.size, 0, none⟩) 1 1) [97] := (by have h := Ints.of_own (own_new a1 3 [97] (by simp)); simpa using h)
  have s2 : (a1.alloc (.cells #[.int .i64 97] 3)).heap.size = w1.heap.size + 1 + 1 := by simp [s1]
  have i1 := i1.later c2
  rw [s1] at i2
  generalize a1.alloc (.cells #[.int .i64 97] 3) = a2 at *
  have c3 := (Below.refl a2.heap.size a2).alloc (Nat.le_refl _) (.cells #[.int .i64 114, .int .i64 110] 3)
  have i3 : Ints (a2.alloc (.cells #[.int .i64 114, .int .i64 110] 3)) (a2.alloc (.cells #[.int .i64 114, .int .i64 110] 3)).heap.size .i64 (.slice (some ⟨a2.heap.size, 0, none⟩) 2 2) [114, 110] := (by have h := Ints.of_own (own_new a2 3 [114, 110] (by simp)); simpa using h)
  have s3 : (a2.alloc (.cells #[.int .i64 114, .int .i64 110] 3)).heap.size = w1.heap.size + 1 + 1 + 1 := by simp [s2]
  have i1 := i1.later c3
  have i2 := i2.later c3
  rw [s2] at i3
  generalize a2.alloc (.cells #[.int .i64 114, .int .i64 110] 3) = a3 at *
  have c4 := (Below.refl a3.heap.size a3).alloc (Nat.le_refl _) (.cells #[.slice (some ⟨w1.heap.size, 0, none⟩) 1 1, .slice (some ⟨w1.heap.size + 1, 0, none⟩) 1 1, .slice (some ⟨w1.heap.size + 1 + 1, 0, none⟩) 2 2] 22)
  have h := lists_three a3 _ _ _ [109] [97] [114, 110] i1 i2 i3
  rw [s3] at h
  exact ⟨h, below_next (below_next (below_next c1 c2) c3) c4⟩
set_option maxRecDepth 100000 in
set_option maxHeartbeats 4000000 in
theorem awake21 (w : World) (hg : Glob w) : Calls Tryz.prog 31 #[] w fun e w' => e = .returned (.bool true) ∧ Below w.heap.size w w' := by
  have HG := Lib.hid (fun W (h : Below w.heap.size w W) => hg.later h)
  clear hg
  go_enter Tryz.func31, Tryz.ntmps31
  go_upto_region 2 with fail
  obtain ⟨t, ht, htb, hb0⟩ := lay21 w
  have HT := Lib.hid htb
  have B0 := Lib.hid hb0
  clear htb hb0 ht
  generalize (((w.alloc (.cells #[.int .i64 114, .int .i64 110] 3)).alloc (.cells #[.int .i64 109, .slice (some ⟨w.heap.size, 0, none⟩) 2 2] 71)).alloc (.cells #[.slice none 0 0, .slice none 0 0, .slice none 0 0, .slice none 0 0, .slice none 0 0, .slice none 0 0, .slice none 0 0, .slice none 0 0, .slice none 0 0, .slice none 0 0, .slice none 0 0, .slice (some ⟨w.heap.size + 1, 0, none⟩) 1 1] 26)) = w1 at *
  obtain ⟨tb, htb⟩ : ∃ tb, w.heap.size + 1 + 1 = tb := ⟨_, rfl⟩
  rw [htb] at HT
  simp only [htb]
  clear htb
  go_upto_region 3 with fail
  obtain ⟨hls, hb2⟩ := rows21 w1
  have HLS := Lib.hid hls
  have B1 := Lib.hid hb2
  have HT2 := Lib.hid (HT.out.later hb2)
  clear hls hb2 HT
  generalize ((((w1.alloc (.cells #[.int .i64 109] 3)).alloc (.cells #[.int .i64 97] 3)).alloc (.cells #[.int .i64 114, .int .i64 110] 3)).alloc (.cells #[.slice (some ⟨w1.heap.size, 0, none⟩) 1 1, .slice (some ⟨w1.heap.size + 1, 0, none⟩) 1 1, .slice (some ⟨w1.heap.size + 1 + 1, 0, none⟩) 2 2] 22)) = w2 at *
  obtain ⟨lb, hlb⟩ : ∃ lb, w1.heap.size + 1 + 1 + 1 = lb := ⟨_, rfl⟩
  rw [hlb] at HLS
  simp only [hlb]
  clear hlb
  have HG2 := Lib.hid (fun W (h : Below w2.heap.size w2 W) => HG.out W (below_next B0.out (below_next B1.out h)))
  have HCL := Lib.hid (fun W (h : Below w2.heap.size w2 W) => classes_any t tab21 _ [[109], [97], [114, 110]] W (HT2.out.later h).2 (HG2.out W h) (HLS.out.later h))
  have HTW := Lib.hid (fun W (h : Below w2.heap.size w2 W) => twins_any t tab21 _ [[109], [97], [114, 110]] W (HT2.out.later h).2 (HG2.out W h) (HLS.out.later h))
  rw [cl21] at HCL
  rw [tw21] at HTW
  clear HG
  obtain ⟨x0, x1, x2, x3, x4, x5, x6, x7, x8, x9, x10, x11⟩ := HT2.out.1.tab
  go_upto_region 4 with (go_at_call 61; refine (HCL.out _ (Below.refl _ _)).mono ?_; rintro e w3 ⟨u3, rfl, ho3, b3⟩; obtain ⟨A3, c3, rfl, _⟩ := id (Ints.of_own ho3); have HU3 := Lib.hid (Ints.of_own ho3); have B3 := Lib.hid b3; clear b3 ho3)
  clear x0 x1 x2 x3 x4 x5 x6 x7 x8 x9 x10 x11
  obtain ⟨x0, x1, x2, x3, x4, x5, x6, x7, x8, x9, x10, x11⟩ := (HT2.out.later B3.out).1.tab
  go_upto_region 5 with (go_at_call 29; refine (HTW.out _ B3.out).mono ?_; rintro e w4 ⟨rfl, b4⟩; have B4 := Lib.hid (below_next B3.out b4); have HU4 := Lib.hid (HU3.out.later b4); clear b4)
  clear x0 x1 x2 x3 x4 x5 x6 x7 x8 x9 x10 x11
  go_wp2_with (go_at_call 17; have bl := (Below.refl w4.heap.size w4).alloc (Nat.le_refl _) (.cells #[.int .i64 0, .int .i64 1, .int .i64 0] 3); refine (same_of _ _ [0, 1, 0] [0, 1, 0] _ (HU4.out.later bl) (by have h := Ints.of_own (own_new w4 3 [0, 1, 0] (by simp)); simpa using h) rfl).mono ?_; rintro e w5 ⟨rfl, b5⟩; have B5 := Lib.hid (below_next B4.out (below_next bl b5)); clear bl b5)
  go_ret
  exact ⟨rfl, below_next B0.out (below_next B1.out B5.out)⟩
end Go.Proofs.YtecpbicfiaifdaaGreatDoor
