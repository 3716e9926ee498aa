/-
  Merged texts: lemmas and walks that the last text of this claim leans on.
-/
import Derived.Test.YtecpbicfiaifdaaGreatDoorMgB735
import Derived.Test.YtecpbicfiaifdaaGreatDoorMgB722
import Derived.Test.YtecpbicfiaifdaaGreatDoorMgB728
import Derived.Test.YtecpbicfiaifdaaGreatDoorMgB715
import Derived.Test.YtecpbicfiaifdaaGreatDoorMgB716
import Derived.Test.YtecpbicfiaifdaaGreatDoorMgB736
/-
  The walk through the reference's Map of layer 20.
-/
namespace Go.Proofs.YtecpbicfiaifdaaGreatDoor
open Go.RowKit ND

set_option maxRecDepth 100000 in
set_option maxHeartbeats 4000000 in
theorem refSkm_any (t : Tv) (T : Tab) (v : Value) (xs : List Int) (w : World) (ht : TabR w w.heap.size t T) (hv : Ints w w.heap.size .i64 v xs) :
    Calls Tryz.prog 59 #[t.val, v] w (RetTwo w (skmR T (accE T xs) xs).1 (skmR T (accE T xs) xs).2) := by
  obtain ⟨A, c, rfl, _⟩ := id hv
  have HB0 : Hid (Below w.heap.size w (w.alloc (.cells t.cells 26))) := Lib.hid ((Below.refl _ _).alloc (Nat.le_refl _) _)
  have HT : Hid (Tbl (w.alloc (.cells t.cells 26)) w.heap.size t T) := Lib.hid ⟨Blk.new _ _ _, ht.later HB0.out⟩
  have HV := Lib.hid (hv.later HB0.out)
  clear ht hv
  have HO := Lib.hid (refAccept_any t T _ xs _ HT.out.2 HV.out)
  by_cases h0 : accE T xs = 0
  · obtain ⟨hck, hlen, _⟩ := accE_zero h0
    have hsh := shape_of hck
    have hsz := sized_of hck
    have HI : Hid (∀ (b : Nat) (W : World) (x : Int), Tbl W b t T → Calls Tryz.prog 19 #[.agg #[t.c0, t.c1, t.c2, t.c3, t.c4, t.c5, t.c6, t.c7, t.c8, t.c9, t.c10, t.c11], .int .i64 x] W (fun e W' => e = .returned (.bool (T.ignB x)) ∧ Below W.heap.size W W')) := Lib.hid fun b W x h => refIgnorable_any t T x W h.2
    have HP : Hid (∀ (b : Nat) (W : World) (x : Int), Tbl W b t T → Calls Tryz.prog 20 #[.agg #[t.c0, t.c1, t.c2, t.c3, t.c4, t.c5, t.c6, t.c7, t.c8, t.c9, t.c10, t.c11], .int .i64 x] W (RetInts W (findL T.prototypes x))) := Lib.hid fun b W x h => refPrototype_any t T x W h.2
    have HML := Lib.hid (fun x => proto_flen hck x)
    have HEF : Hid (4096 < (skelM T xs).length → skmR T (accE T xs) xs = ([], 7)) := Lib.hid (by rw [h0]; exact fun h => skmR_full h)
    have HEO : Hid ((skelM T xs).length ≤ 4096 → skmR T (accE T xs) xs = (skelM T xs, 0)) := Lib.hid (by rw [h0]; exact fun h => skmR_ok h)
    rw [h0] at HO
    generalize skmR T (accE T xs) xs = R at *
    clear h0 hck hsh hsz
    go_enter Tryz.func59, Tryz.ntmps59
    go_upto_region 1 with fail
    generalize w.alloc (.cells t.cells 26) = w1 at *
    obtain ⟨x0, x1, x2, x3, x4, x5, x6, x7, x8, x9, x10, x11⟩ := HT.out.1.tab
    go_upto_region 2 with (go_at_call 81; refine HO.out.mono ?_; rintro e w2 ⟨rfl, b2⟩)
    clear x0 x1 x2 x3 x4 x5 x6 x7 x8 x9 x10 x11
    obtain ⟨tb, htb⟩ : ∃ tb, w.heap.size = tb := ⟨_, rfl⟩
    have HT2 : Hid (Tbl w2 tb t T) := Lib.hid (htb ▸ HT.out.later b2)
    have HV2 := Lib.hid (HV.out.later b2)
    have HB2 := Lib.hid (below_next HB0.out b2)
    simp only [htb]
    clear HT HV HB0 HO b2
    obtain ⟨i0, hi, hz0, hz1, hz2⟩ := info_parts Tryz.infoInt'
    go_wp2_with fail
    go_loopw [19, 7] (fun si so wr => ∃ (k : Nat) (acc : List Int) (A9 : Option Addr) (c9 : Nat), k ≤ xs.length ∧ si = .int .i64 k ∧ so = .slice A9 acc.length c9 ∧ acc.length ≤ 18 * k ∧ Hid (acc = skelM T (xs.take k)) ∧ Hid (wr.ownsRow w2.heap.size 3 1 (.slice A9 acc.length c9) acc.length (acc.map (Value.int .i64))) ∧ Hid (Below w2.heap.size w2 wr)) (fun i _ _ => xs.length - (intOf i).toNat)
    case atStart => exact ⟨0, [], none, 0, by omega, rfl, rfl, by simp, Lib.hid rfl, Lib.hid (World.ownsRow_nil _ _ _ _), Lib.hid (Below.refl _ _)⟩
    case round =>
      obtain ⟨k, acc, A9, c9, hk, rfl, rfl, hal, HS, HOr, HBr⟩ := hrel
      by_cases hlt : k < xs.length
      · obtain ⟨x, hxk, _⟩ := get_of hlt
        obtain ⟨_, _, hve, _, _, _, hcell⟩ := HV2.out
        cases hve
        obtain ⟨ad, rfl, ha, hce⟩ := hcell k x hxk
        have e1 := (HBr.out.cell (p := ad.add k) (by rw [block_of_add]; exact ha)).trans hce
        have HX := Lib.hid hxk
        have k0 : (0 : Int) ≤ (k : Int) := by omega
        have k1 : (k : Int) < (xs.length : Int) := by omega
        have HTr := Lib.hid (HT2.out.later HBr.out)
        have HOS := Lib.hid (skelM_step (T := T) HX.out)
        have HIx := Lib.hid (fun W (h : Below wr.heap.size wr W) => HI.out tb W x (HTr.out.later h))
        have HPx := Lib.hid (fun W (h : Below wr.heap.size wr W) => HP.out tb W x (HTr.out.later h))
        have hml := HML.out x
        clear hcell hxk ha hce
        obtain ⟨ig, hig⟩ : ∃ ig, T.ignB x = ig := ⟨_, rfl⟩
        simp only [hig] at HIx
        cases ig with
        | true =>
          have HN : Hid (acc = skelM T (xs.take (k + 1))) := Lib.hid (by rw [HOS.out, proto_ign hig, List.append_nil]; exact HS.out)
          clear hig
          generalize findL T.prototypes x = ml at *
          obtain ⟨x0, x1, x2, x3, x4, x5, x6, x7, x8, x9, x10, x11⟩ := HTr.out.1.tab
          go_wp2_with (first | (go_at_call 20; refine (HPx.out _ (Below.refl _ _)).mono ?_; rintro e w5 ⟨u7, rfl, hi7, b5⟩; obtain ⟨A7, c7, rfl, _⟩ := id hi7; have HI5 := Lib.hid hi7; have HO5 := Lib.hid (own_later HOr.out b5); have HB5 := Lib.hid (below_then HBr.out (Nat.le_refl _) b5); have HT5 := Lib.hid (HTr.out.later b5); clear hi7 x0 x1 x2 x3 x4 x5 x6 x7 x8 x9 x10 x11; obtain ⟨x0, x1, x2, x3, x4, x5, x6, x7, x8, x9, x10, x11⟩ := HT5.out.1.tab) | (go_at_call 19; refine (HIx.out _ b5).mono ?_; rintro e w7 ⟨rfl, b7⟩; have HI7 := Lib.hid (HI5.out.later b7); have HO7 := Lib.hid (own_later HO5.out b7); have HB7 := Lib.hid (below_then HB5.out (Nat.le_refl _) b7); clear b7))
          go_roundw
          case rel => exact ⟨k + 1, acc, A9, c9, by omega, by go_num, rfl, by omega, HN, HO7, HB7⟩
          case measure => simp [intOf]; omega
        | false =>
          by_cases hp : findL T.prototypes x = []
          · have HN : Hid (acc ++ [x] = skelM T (xs.take (k + 1))) := Lib.hid (by rw [HOS.out, proto_none hig hp, ← HS.out])
            rw [hp] at HPx
            clear hig hp hml
            obtain ⟨x0, x1, x2, x3, x4, x5, x6, x7, x8, x9, x10, x11⟩ := HTr.out.1.tab
            go_wp2_with (first
              | (go_at_call 20; refine (HPx.out _ (Below.refl _ _)).mono ?_; rintro e w5 ⟨u7, rfl, hi7, b5⟩; obtain ⟨A7, c7, rfl, _⟩ := id hi7; have HI5 := Lib.hid hi7; have HO5 := Lib.hid (own_later HOr.out b5); have HB5 := Lib.hid (below_then HBr.out (Nat.le_refl _) b5); have HT5 := Lib.hid (HTr.out.later b5); clear hi7 x0 x1 x2 x3 x4 x5 x6 x7 x8 x9 x10 x11; obtain ⟨x0, x1, x2, x3, x4, x5, x6, x7, x8, x9, x10, x11⟩ := HT5.out.1.tab)
              | (go_at_call 19; refine (HIx.out _ b5).mono ?_; rintro e w7 ⟨rfl, b7⟩; have HI7 := Lib.hid (HI5.out.later b7); have HO7 := Lib.hid (own_later HO5.out b7); have HB7 := Lib.hid (below_then HB5.out (Nat.le_refl _) b7); clear b7)
              | (at_builtin; refine wpList_append_ints (by rfl) (.tmp 26) (.tmp 28) rfl Tryz.underlying22 hi hz0 hz1 hz2 (w7.heap.size + 1) w2.heap.size (.slice A9 acc.length c9) acc (.slice (some ⟨w7.heap.size, 0, none⟩) 1 1) [x] rfl (HO7.out.alloc _) rfl (by have h := Ints.of_own (own_new w7 3 [x] (by simp)); simpa using h) (by simp; omega) (by have := HB7.out.size; simp; omega) ?_; intro v6 w6 ho6 hg6 _; obtain ⟨A6, c6, rfl, _⟩ := id (Ints.of_own ho6); have HO6 := Lib.hid ho6; have HB6 := Lib.hid ((HB7.out.alloc HB7.out.size (.cells #[.int .i64 x] 3)).grown hg6 (by have := HB7.out.size; simp; omega) (fun q hq => (HO7.out.lt q hq).1)); clear ho6 hg6))
            go_roundw
            case rel => exact ⟨k + 1, acc ++ [x], A6, c6, by omega, by go_num, by simp, by simp; omega, HN, HO6, HB6⟩
            case measure => simp [intOf]; omega
          · have HN : Hid (acc ++ findL T.prototypes x = skelM T (xs.take (k + 1))) := Lib.hid (by rw [HOS.out, proto_some hig hp, ← HS.out])
            have gp : (0 : Int) < ((findL T.prototypes x).length : Int) := by have := List.length_pos_iff.2 hp; omega
            clear hig hp
            generalize findL T.prototypes x = ml at *
            obtain ⟨x0, x1, x2, x3, x4, x5, x6, x7, x8, x9, x10, x11⟩ := HTr.out.1.tab
            go_wp2_with (first
              | (go_at_call 20; refine (HPx.out _ (Below.refl _ _)).mono ?_; rintro e w5 ⟨u7, rfl, hi7, b5⟩; obtain ⟨A7, c7, rfl, _⟩ := id hi7; have HI5 := Lib.hid hi7; have HO5 := Lib.hid (own_later HOr.out b5); have HB5 := Lib.hid (below_then HBr.out (Nat.le_refl _) b5); have HT5 := Lib.hid (HTr.out.later b5); clear hi7 x0 x1 x2 x3 x4 x5 x6 x7 x8 x9 x10 x11; obtain ⟨x0, x1, x2, x3, x4, x5, x6, x7, x8, x9, x10, x11⟩ := HT5.out.1.tab)
              | (go_at_call 19; refine (HIx.out _ b5).mono ?_; rintro e w7 ⟨rfl, b7⟩; have HI7 := Lib.hid (HI5.out.later b7); have HO7 := Lib.hid (own_later HO5.out b7); have HB7 := Lib.hid (below_then HB5.out (Nat.le_refl _) b7); clear b7)
              | (at_builtin; refine wpList_append_ints (by rfl) (.tmp 38) (.tmp 39) rfl Tryz.underlying22 hi hz0 hz1 hz2 w7.heap.size w2.heap.size (.slice A9 acc.length c9) acc (.slice A7 ml.length c7) ml rfl HO7.out rfl HI7.out (by omega) HB7.out.size ?_; intro v6 w6 ho6 hg6 _; obtain ⟨A6, c6, rfl, _⟩ := id (Ints.of_own ho6); have HO6 := Lib.hid ho6; have HB6 := Lib.hid (HB7.out.grown hg6 HB7.out.size (fun q hq => (HO7.out.lt q hq).1)); clear ho6 hg6))
            go_roundw
            case rel => exact ⟨k + 1, acc ++ ml, A6, c6, by omega, by go_num, by simp, by simp; omega, HN, HO6, HB6⟩
            case measure => simp [intOf]; omega
      · have HA : Hid (acc = skelM T xs) := Lib.hid (by have := HS.out; rwa [List.take_of_length_le (by omega)] at this)
        by_cases hfl : 4096 < acc.length
        · have HR := Lib.hid (HEF.out (by rw [← HA.out]; exact hfl))
          have g : (4096 : Int) < (acc.length : Int) := by omega
          clear hfl
          go_wp2_with fail
          go_ret2
          rw [HR.out]
          exact ⟨_, rfl, World.ownsRow_nil _ _ _ _, below_next HB2.out HBr.out⟩
        · have HR := Lib.hid (HEO.out (by rw [← HA.out]; omega))
          rw [← HA.out] at HR
          have g : ¬ (4096 : Int) < (acc.length : Int) := by omega
          clear hfl
          go_wp2_with fail
          go_ret2
          rw [HR.out]
          exact ⟨_, rfl, row_le HOr.out HB2.out.size, below_next HB2.out HBr.out⟩
  · have HE := Lib.hid (skmR_err (T := T) (l := xs) h0)
    have hb : (accE T xs != 0) = true := by simpa using h0
    clear h0
    go_enter Tryz.func59, Tryz.ntmps59
    go_upto_region 1 with fail
    generalize w.alloc (.cells t.cells 26) = w1 at *
    obtain ⟨x0, x1, x2, x3, x4, x5, x6, x7, x8, x9, x10, x11⟩ := HT.out.1.tab
    go_wp2_with (go_at_call 81; refine HO.out.mono ?_; rintro e w2 ⟨rfl, b2⟩)
    go_ret2
    rw [HE.out]
    exact ⟨_, rfl, World.ownsRow_nil _ _ _ _, below_next HB0.out b2⟩
end Go.Proofs.YtecpbicfiaifdaaGreatDoor
/-
  The walk through the reference's Of.
-/
namespace Go.Proofs.YtecpbicfiaifdaaGreatDoor
open Go.RowKit ND

set_option maxRecDepth 100000 in
set_option maxHeartbeats 2000000 in
theorem refOf_any (t : Tv) (T : Tab) (v : Value) (xs : List Int) (w : World) (ht : TabR w w.heap.size t T) (hv : Ints w w.heap.size .i64 v xs) :
    Calls Tryz.prog 26 #[t.val, v] w (RetTwo w (skelR T xs).1 (skelR T xs).2) := by
  obtain ⟨A, c, rfl, _⟩ := id hv
  have HB0 : Hid (Below w.heap.size w (w.alloc (.cells t.cells 26))) := Lib.hid ((Below.refl _ _).alloc (Nat.le_refl _) _)
  have HT : Hid (Tbl (w.alloc (.cells t.cells 26)) w.heap.size t T) := Lib.hid ⟨Blk.new _ _ _, ht.later HB0.out⟩
  have HV := Lib.hid (hv.later HB0.out)
  clear ht hv
  have H1 := Lib.hid (refNfd_any t T _ xs _ HT.out.2 HV.out)
  obtain ⟨dl, e1, hd⟩ : ∃ dl e1, nfdR T (accE T xs) xs = (dl, e1) := ⟨_, _, rfl⟩
  rw [hd] at H1
  have H2 := Lib.hid (fun W v (h : Below (w.alloc (.cells t.cells 26)).heap.size (w.alloc (.cells t.cells 26)) W) hi => refSkm_any t T v dl W (HT.out.later h).2 hi)
  obtain ⟨ml, e2, hm⟩ : ∃ ml e2, skmR T (accE T dl) dl = (ml, e2) := ⟨_, _, rfl⟩
  rw [hm] at H2
  have H3 := Lib.hid (fun W v (h : Below (w.alloc (.cells t.cells 26)).heap.size (w.alloc (.cells t.cells 26)) W) hi => refNfd_any t T v ml W (HT.out.later h).2 hi)
  obtain ⟨rl, e3, hr⟩ : ∃ rl e3, nfdR T (accE T ml) ml = (rl, e3) := ⟨_, _, rfl⟩
  rw [hr] at H3
  by_cases h1 : e1 = 0
  · subst h1
    by_cases h2 : e2 = 0
    · subst h2
      have HR := Lib.hid ((skelR_e3 hd hm).trans hr)
      clear hd hm hr
      generalize skelR T xs = R at *
      go_enter Tryz.func26, Tryz.ntmps26
      go_upto_region 1 with fail
      generalize w.alloc (.cells t.cells 26) = w1 at *
      obtain ⟨x0, x1, x2, x3, x4, x5, x6, x7, x8, x9, x10, x11⟩ := HT.out.1.tab
      go_upto_region 2 with (go_at_call 14; refine H1.out.mono ?_; rintro e w2 ⟨u2, rfl, ho2, b2⟩; obtain ⟨A2, c2, rfl, _⟩ := id (Ints.of_own ho2); have HU2 := Lib.hid (Ints.of_own ho2); clear ho2)
      clear x0 x1 x2 x3 x4 x5 x6 x7 x8 x9 x10 x11
      obtain ⟨x0, x1, x2, x3, x4, x5, x6, x7, x8, x9, x10, x11⟩ := (HT.out.later b2).1.tab
      go_upto_region 5 with (go_at_call 59; refine (H2.out _ _ b2 HU2.out).mono ?_; rintro e w3 ⟨u3, rfl, ho3, b3⟩; obtain ⟨A3, c3, rfl, _⟩ := id (Ints.of_own ho3); have HU3 := Lib.hid (Ints.of_own ho3); have b23 := below_next b2 b3; clear ho3)
      clear x0 x1 x2 x3 x4 x5 x6 x7 x8 x9 x10 x11
      obtain ⟨x0, x1, x2, x3, x4, x5, x6, x7, x8, x9, x10, x11⟩ := (HT.out.later b23).1.tab
      go_wp2_with (go_at_call 14; refine (H3.out _ _ b23 HU3.out).mono ?_; rintro e w4 ⟨u4, rfl, ho4, b4⟩; obtain ⟨A4, c4, rfl, _⟩ := id (Ints.of_own ho4))
      go_ret2
      rw [HR.out]
      exact ⟨_, rfl, row_le ho4 (by have := HB0.out.size; have := b23.size; omega), below_next (below_next HB0.out b23) b4⟩
    · have HR := Lib.hid (skelR_e2 hd hm h2)
      have hb : (e2 != 0) = true := by simpa using h2
      clear hd hm hr h2
      generalize skelR T xs = R at *
      go_enter Tryz.func26, Tryz.ntmps26
      go_upto_region 1 with fail
      generalize w.alloc (.cells t.cells 26) = w1 at *
      obtain ⟨x0, x1, x2, x3, x4, x5, x6, x7, x8, x9, x10, x11⟩ := HT.out.1.tab
      go_upto_region 2 with (go_at_call 14; refine H1.out.mono ?_; rintro e w2 ⟨u2, rfl, ho2, b2⟩; obtain ⟨A2, c2, rfl, _⟩ := id (Ints.of_own ho2); have HU2 := Lib.hid (Ints.of_own ho2); clear ho2)
      clear x0 x1 x2 x3 x4 x5 x6 x7 x8 x9 x10 x11
      obtain ⟨x0, x1, x2, x3, x4, x5, x6, x7, x8, x9, x10, x11⟩ := (HT.out.later b2).1.tab
      go_wp2_with (go_at_call 59; refine (H2.out _ _ b2 HU2.out).mono ?_; rintro e w3 ⟨u3, rfl, ho3, b3⟩; obtain ⟨A3, c3, rfl, _⟩ := id (Ints.of_own ho3); have HU3 := Lib.hid (Ints.of_own ho3); have b23 := below_next b2 b3; clear ho3)
      go_ret2
      rw [HR.out]
      exact ⟨_, rfl, World.ownsRow_nil _ _ _ _, below_next HB0.out b23⟩
  · have HR := Lib.hid (skelR_e1 hd h1)
    have hb : (e1 != 0) = true := by simpa using h1
    clear hd hm hr h1
    generalize skelR T xs = R at *
    go_enter Tryz.func26, Tryz.ntmps26
    go_upto_region 1 with fail
    generalize w.alloc (.cells t.cells 26) = w1 at *
    obtain ⟨x0, x1, x2, x3, x4, x5, x6, x7, x8, x9, x10, x11⟩ := HT.out.1.tab
    go_wp2_with (go_at_call 14; refine H1.out.mono ?_; rintro e w2 ⟨u2, rfl, ho2, b2⟩; obtain ⟨A2, c2, rfl, _⟩ := id (Ints.of_own ho2); have HU2 := Lib.hid (Ints.of_own ho2); clear ho2)
    go_ret2
    rw [HR.out]
    exact ⟨_, rfl, World.ownsRow_nil _ _ _ _, below_next HB0.out b2⟩
end Go.Proofs.YtecpbicfiaifdaaGreatDoor
/-
  Contracts of the reference whose result is known.
-/
namespace Go.Proofs.YtecpbicfiaifdaaGreatDoor
open Go.RowKit ND

theorem refOf_eq (t : Tv) (T : Tab) (v : Value) (xs : List Int) (w : World) (r : List Int × Int) (ht : TabR w w.heap.size t T) (hv : Ints w w.heap.size .i64 v xs) (hr : skelR T xs = r) :
    Calls Tryz.prog 26 #[t.val, v] w (RetTwo w r.1 r.2) := by subst hr; exact refOf_any t T v xs w ht hv
end Go.Proofs.YtecpbicfiaifdaaGreatDoor
/-
  The walk through the law ConfuseSkeleton.
-/
namespace Go.Proofs.YtecpbicfiaifdaaGreatDoor
open Go.RowKit ND

/-- A short sequence is confusable with its skeleton. -/
theorem same_skel {T : Tab} (h : T.check = 0) {l : List Int} (hs : l.all scalarB = true) (hl : l.length ≤ 12) : sameR T l (skelL T l) = (true, 0) := by
  have h1 := skelR_short h hs hl
  have h2 : (skelL T l).length ≤ 4096 := by
    have h1 := (flatD_len (decOk_of h) l).2
    have h2 := skelM_len (proOk_of h) (nfdL T l)
    rw [nfdL_length] at h2
    rw [skelL_length]; omega
  have h3 := skelR_twice h hs h2
  unfold sameR bothE
  rw [h1, h3]; simp
/-- Where two short sequences differ, and whether they are confusable. -/
theorem both_short {T : Tab} (h : T.check = 0) {a b : List Int} (hs : a.all scalarB = true) (hl : a.length ≤ 12) (hs2 : b.all scalarB = true) (hl2 : b.length ≤ 12) :
    ∃ (D : Int) (q : Bool), differR T a b = (D, 0) ∧ sameR T a b = (q, 0) ∧ -1 ≤ D ∧ (D == -1) = q := by
  have h1 := skelR_short h hs hl
  have h2 := skelR_short h hs2 hl2
  refine ⟨differL (skelL T a) (skelL T b), decide (skelL T a = skelL T b), ?_, ?_, diffGo_ge _ _ _, ?_⟩
  · unfold differR bothE; rw [h1, h2]; simp
  · unfold sameR bothE; rw [h1, h2]; simp
  · have h3 := differL_neg (skelL T a) (skelL T b)
    by_cases he : skelL T a = skelL T b
    · rw [h3.2 he, decide_eq_true he]; rfl
    · rw [decide_eq_false he, beq_eq_false_iff_ne]
      exact fun e => he (h3.1 e)
set_option maxRecDepth 100000 in
set_option maxHeartbeats 4000000 in
theorem ConfuseSkeleton_go (W : World) (hg : Glob W) (v : Value) (xs : List Int) (hv : Ints W W.heap.size .i64 v xs) (vm : Value) (ms : List Int) (hvm : Ints W W.heap.size .i64 vm ms) (vo : Value) (os_ : List Int) (hvo : Ints W W.heap.size .i64 vo os_) :
    Calls Tryz.prog 11 #[v, vm, vo] W fun e W' => e = .returned (.bool true) ∧ Below W.heap.size W W' := by
  have HG := Lib.hid hg
  have HM := Lib.hid hvm
  have HO := Lib.hid hvo
  obtain ⟨Ax, cx, rfl, _⟩ := id hv
  obtain ⟨Am, cm, rfl, _⟩ := id hvm
  obtain ⟨Ao, co, rfl, _⟩ := id hvo
  have HT := Lib.hid (keepTables_any W _ xs hv)
  clear hv hg hvm hvo
  go_enter Tryz.func11, Tryz.ntmps11
  go_upto_region 2 with (go_at_call 12; refine HT.out.mono ?_; rintro e w1 ⟨t, T, rfl, ht1, hm1, hb1⟩; obtain ⟨A0, A1, A2, A3, A4, A5, A6, A7, A8, A9, A10, A11, k0, k1, k2, k3, k4, k5, k6, k7, k8, k9, k10, k11, rfl⟩ := ht1.shape; have HT1 := Lib.hid ht1; have HB1 := Lib.hid hb1; have HM1 := Lib.hid hm1; clear ht1 hb1 hm1)
  obtain ⟨t, ht, htb⟩ := Tbl.new HT1.out
  have HT2 := Lib.hid htb
  have HB2 := Lib.hid (HB1.out.alloc HB1.out.size (.cells #[.slice A0 T.category.length k0, .slice A1 T.cls.length k1, .slice A2 T.joining.length k2, .slice A3 T.bidi.length k3, .slice A4 T.script.length k4, .slice A5 T.status.length k5, .slice A6 T.ignorable.length k6, .slice A7 T.extensions.length k7, .slice A8 T.maps.length k8, .slice A9 T.decomps.length k9, .slice A10 T.excluded.length k10, .slice A11 T.prototypes.length k11] 26))
  clear htb HT1 HT
  generalize w1.alloc (.cells #[.slice A0 T.category.length k0, .slice A1 T.cls.length k1, .slice A2 T.joining.length k2, .slice A3 T.bidi.length k3, .slice A4 T.script.length k4, .slice A5 T.status.length k5, .slice A6 T.ignorable.length k6, .slice A7 T.extensions.length k7, .slice A8 T.maps.length k8, .slice A9 T.decomps.length k9, .slice A10 T.excluded.length k10, .slice A11 T.prototypes.length k11] 26) = w2 at *
  generalize w1.heap.size = tb at *
  clear ht
  have hck := HM1.out.check
  have HG2 := Lib.hid (HG.out.later HB2.out)
  have HM2 := Lib.hid (HM.out.later HB2.out)
  have HO2 := Lib.hid (HO.out.later HB2.out)
  clear HG HM HO HM1
  go_upto_region 3 with (first
    | (go_at_call 13; refine (points_any _ (.slice Am ms.length cm) ms HM2.out).mono ?_; rintro e w3 ⟨u3, as_, rfl, hi3, hal, has, b3⟩; obtain ⟨A3, c3, rfl, _⟩ := id hi3; have HA3 := Lib.hid hi3; have HSA := Lib.hid (List.all_eq_true.2 has); have B3 := Lib.hid b3; clear hi3 b3 HM2 has)
    | (go_at_call 24; refine (word_any _ (.slice Ao os_.length co) os_ (HO2.out.later B3.out)).mono ?_; rintro e w4 ⟨u4, bs, rfl, ho4, hbl, hbs, b4, _⟩; have hi4 := Ints.of_own ho4; obtain ⟨A4, c4, rfl, _⟩ := id hi4; have HB4 := Lib.hid hi4; have HSB := Lib.hid (words_scal hbs); have HA4 := Lib.hid (HA3.out.later b4); have B4 := Lib.hid (below_next B3.out b4); clear hi4 b4 ho4 hbs HA3))
  have H1 := Lib.hid (fun W (h : Below w2.heap.size w2 W) hi => refOf_eq t T (.slice A3 as_.length c3) as_ W _ (HT2.out.later h).2 hi (skelR_short hck HSA.out (by omega)))
  have hss := same_skel hck HSA.out (by omega : as_.length ≤ 12)
  obtain ⟨D, q, hd, hs2, hge, hdq⟩ := both_short hck HSA.out (by omega : as_.length ≤ 12) HSB.out (by omega : bs.length ≤ 12)
  have H2 := Lib.hid (fun u W (h : Below w2.heap.size w2 W) hi hu => cfSame_any t T (.slice A3 as_.length c3) as_ u (skelL T as_) W (HT2.out.later h).2 (HG2.out.later h) hi hu)
  have H3 := Lib.hid (fun W (h : Below w2.heap.size w2 W) hi hu => differ_any t T (.slice A3 as_.length c3) as_ (.slice A4 bs.length c4) bs W (HT2.out.later h).2 (HG2.out.later h) hi hu)
  have H4 := Lib.hid (fun W (h : Below w2.heap.size w2 W) hi hu => cfSame_any t T (.slice A3 as_.length c3) as_ (.slice A4 bs.length c4) bs W (HT2.out.later h).2 (HG2.out.later h) hi hu)
  rw [hss] at H2
  rw [hd] at H3
  rw [hs2] at H4
  clear hss hd hs2 hck HSA HSB
  generalize skelL T as_ = sl at *
  obtain ⟨x0, x1, x2, x3, x4, x5, x6, x7, x8, x9, x10, x11⟩ := (HT2.out.later B4.out).1.tab
  go_upto_region 4 with (go_at_call 26; refine (H1.out _ B4.out HA4.out).mono ?_; rintro e w5 ⟨u5, rfl, ho5, b5⟩; obtain ⟨A5, c5, rfl, _⟩ := id (Ints.of_own ho5); have HS5 := Lib.hid (Ints.of_own ho5); have HA5 := Lib.hid (HA4.out.later b5); have HB5 := Lib.hid (HB4.out.later b5); have B5 := Lib.hid (below_next B4.out b5); clear ho5 b5 HA4 HB4 H1)
  clear x0 x1 x2 x3 x4 x5 x6 x7 x8 x9 x10 x11
  obtain ⟨x0, x1, x2, x3, x4, x5, x6, x7, x8, x9, x10, x11⟩ := (HT2.out.later B5.out).1.tab
  go_upto_region 5 with (go_at_call 36; refine (H2.out _ _ B5.out HA5.out HS5.out).mono ?_; rintro e w6 ⟨rfl, b6⟩; have HA6 := Lib.hid (HA5.out.later b6); have HB6 := Lib.hid (HB5.out.later b6); have B6 := Lib.hid (below_next B5.out b6); clear b6 HA5 HB5 HS5 H2)
  clear x0 x1 x2 x3 x4 x5 x6 x7 x8 x9 x10 x11
  obtain ⟨x0, x1, x2, x3, x4, x5, x6, x7, x8, x9, x10, x11⟩ := (HT2.out.later B6.out).1.tab
  go_upto_region 6 with (go_at_call 37; refine (H3.out _ B6.out HA6.out HB6.out).mono ?_; rintro e w7 ⟨rfl, b7⟩; have HA7 := Lib.hid (HA6.out.later b7); have HB7 := Lib.hid (HB6.out.later b7); have B7 := Lib.hid (below_next B6.out b7); clear b7 HA6 HB6 H3)
  clear x0 x1 x2 x3 x4 x5 x6 x7 x8 x9 x10 x11
  obtain ⟨x0, x1, x2, x3, x4, x5, x6, x7, x8, x9, x10, x11⟩ := (HT2.out.later B7.out).1.tab
  go_upto_region 7 with (go_at_call 36; refine (H4.out _ B7.out HA7.out HB7.out).mono ?_; rintro e w8 ⟨rfl, b8⟩; have B8 := Lib.hid (below_next B7.out b8); clear b8 HA7 HB7 H4)
  clear x0 x1 x2 x3 x4 x5 x6 x7 x8 x9 x10 x11
  cases q with
  | true =>
    go_wp2_with (go_at_call 31; refine (awake21 _ (HG2.out.later B8.out)).mono ?_; rintro e w9 ⟨rfl, b9⟩)
    go_ret
    exact ⟨rfl, below_next HB2.out (below_next B8.out b9)⟩
  | false =>
    go_wp2_with (go_at_call 31; refine (awake21 _ (HG2.out.later B8.out)).mono ?_; rintro e w9 ⟨rfl, b9⟩)
    go_ret
    exact ⟨rfl, below_next HB2.out (below_next B8.out b9)⟩
theorem ConfuseSkeleton_walk (W : World) (hg : Glob W) (v : Value) (xs : List Int) (hv : Ints W W.heap.size .i64 v xs) (_ : ∀ x ∈ xs, -9223372036854775808 ≤ x ∧ x ≤ 9223372036854775807) (_ : xs.length * 8 ≤ 140737488351232) (vm : Value) (ms : List Int) (hvm : Ints W W.heap.size .i64 vm ms) (_ : ∀ x ∈ ms, -9223372036854775808 ≤ x ∧ x ≤ 9223372036854775807) (_ : ms.length * 8 ≤ 140737488351232) (vo : Value) (os_ : List Int) (hvo : Ints W W.heap.size .i64 vo os_) (_ : ∀ x ∈ os_, -9223372036854775808 ≤ x ∧ x ≤ 9223372036854775807) (_ : os_.length * 8 ≤ 140737488351232) :
    Calls Tryz.prog 11 #[v, vm, vo] W fun e W' => e = .returned (.bool true) ∧ Below W.heap.size W W' := ConfuseSkeleton_go W hg v xs hv vm ms hvm vo os_ hvo
end Go.Proofs.YtecpbicfiaifdaaGreatDoor
