/-
  Merged texts: lemmas and walks that the last text of this claim leans on.
-/
import Derived.Test.YtecpbicfiaifdaaGreatDoorMgB735
import Derived.Test.YtecpbicfiaifdaaGreatDoorMgB722
import Derived.Test.YtecpbicfiaifdaaGreatDoorMgB728
import Derived.Test.YtecpbicfiaifdaaGreatDoorMgB724
/-
  The walk through the reference's Map of layer 20.
-/
namespace Go.Proofs.YtecpbicfiaifdaaGreatDoor
open Go.RowKit ND

set_option maxRecDepth 100000 in
set_option maxHeartbeats 4000000 in
theorem refSkm_any (t : Tv) (T : Tab) (v : Value) (xs : List Int) (w : World) (ht : TabR w w.heap.size t T) (hv : Ints w w.heap.size .i64 v xs) :
    Calls Tryz.prog 59 #[t.val, v] w (RetTwo w (skmR T (accE T xs) xs).1 (skmR T (accE T xs) xs).2) := by
  obtain ⟨A, c, rfl, _⟩ := id hv
  have HB0 : Hid (Below w.heap.size w (w.alloc (.cells t.cells 26))) := Lib.hid ((Below.refl _ _).alloc (Nat.le_refl _) _)
  have HT : Hid (Tbl (w.alloc (.cells t.cells 26)) w.heap.size t T) := Lib.hid ⟨Blk.new _ _ _, ht.later HB0.out⟩
  have HV := Lib.hid (hv.later HB0.out)
  clear ht hv
  have HO := Lib.hid (refAccept_any t T _ xs _ HT.out.2 HV.out)
  by_cases h0 : accE T xs = 0
  · obtain ⟨hck, hlen, _⟩ := accE_zero h0
    have hsh := shape_of hck
    have hsz := sized_of hck
    have HI : Hid (∀ (b : Nat) (W : World) (x : Int), Tbl W b t T → Calls Tryz.prog 19 #[.agg #[t.c0, t.c1, t.c2, t.c3, t.c4, t.c5, t.c6, t.c7, t.c8, t.c9, t.c10, t.c11], .int .i64 x] W (fun e W' => e = .returned (.bool (T.ignB x)) ∧ Below W.heap.size W W')) := Lib.hid fun b W x h => refIgnorable_any t T x W h.2
    have HP : Hid (∀ (b : Nat) (W : World) (x : Int), Tbl W b t T → Calls Tryz.prog 20 #[.agg #[t.c0, t.c1, t.c2, t.c3, t.c4, t.c5, t.c6, t.c7, t.c8, t.c9, t.c10, t.c11], .int .i64 x] W (RetInts W (findL T.prototypes x))) := Lib.hid fun b W x h => refPrototype_any t T x W h.2
    have HML := Lib.hid (fun x => proto_flen hck x)
    have HEF : Hid (4096 < (skelM T xs).length → skmR T (accE T xs) xs = ([], 7)) := Lib.hid (by rw [h0]; exact fun h => skmR_full h)
    have HEO : Hid ((skelM T xs).length ≤ 4096 → skmR T (accE T xs) xs = (skelM T xs, 0)) := Lib.hid (by rw [h0]; exact fun h => skmR_ok h)
    rw [h0] at HO
    generalize skmR T (accE T xs) xs = R at *
    clear h0 hck hsh hsz
    go_enter Tryz.func59, Tryz.ntmps59
    go_upto_region 1 with fail
    generalize w.alloc (.cells t.cells 26) = w1 at *
    obtain ⟨x0, x1, x2, x3, x4, x5, x6, x7, x8, x9, x10, x11⟩ := HT.out.1.tab
    go_upto_region 2 with (go_at_call 81; refine HO.out.mono ?_; rintro e w2 ⟨rfl, b2⟩)
    clear x0 x1 x2 x3 x4 x5 x6 x7 x8 x9 x10 x11
    obtain ⟨tb, htb⟩ : ∃ tb, w.heap.size = tb := ⟨_, rfl⟩
    have HT2 : Hid (Tbl w2 tb t T) := Lib.hid (htb ▸ HT.out.later b2)
    have HV2 := Lib.hid (HV.out.later b2)
    have HB2 := Lib.hid (below_next HB0.out b2)
    simp only [htb]
    clear HT HV HB0 HO b2
    obtain ⟨i0, hi, hz0, hz1, hz2⟩ := info_parts Tryz.infoInt'
    go_wp2_with fail
    go_loopw [19, 7] (fun si so wr => ∃ (k : Nat) (acc : List Int) (A9 : Option Addr) (c9 : Nat), k ≤ xs.length ∧ si = .int .i64 k ∧ so = .slice A9 acc.length c9 ∧ acc.length ≤ 18 * k ∧ Hid (acc = skelM T (xs.take k)) ∧ Hid (wr.ownsRow w2.heap.size 3 1 (.slice A9 acc.length c9) acc.length (acc.map (Value.int .i64))) ∧ Hid (Below w2.heap.size w2 wr)) (fun i _ _ => xs.length - (intOf i).toNat)
    case atStart => exact ⟨0, [], none, 0, by omega, rfl, rfl, by simp, Lib.hid rfl, Lib.hid (World.ownsRow_nil _ _ _ _), Lib.hid (Below.refl _ _)⟩
    case round =>
      obtain ⟨k, acc, A9, c9, hk, rfl, rfl, hal, HS, HOr, HBr⟩ := hrel
      by_cases hlt : k < xs.length
      · obtain ⟨x, hxk, _⟩ := get_of hlt
        obtain ⟨_, _, hve, _, _, _, hcell⟩ := HV2.out
        cases hve
        obtain ⟨ad, rfl, ha, hce⟩ := hcell k x hxk
        have e1 := (HBr.out.cell (p := ad.add k) (by rw [block_of_add]; exact ha)).trans hce
        have HX := Lib.hid hxk
        have k0 : (0 : Int) ≤ (k : Int) := by omega
        have k1 : (k : Int) < (xs.length : Int) := by omega
        have HTr := Lib.hid (HT2.out.later HBr.out)
        have HOS := Lib.hid (skelM_step (T := T) HX.out)
        have HIx := Lib.hid (fun W (h : Below wr.heap.size wr W) => HI.out tb W x (HTr.out.later h))
        have HPx := Lib.hid (fun W (h : Below wr.heap.size wr W) => HP.out tb W x (HTr.out.later h))
        have hml := HML.out x
        clear hcell hxk ha hce
        obtain ⟨ig, hig⟩ : ∃ ig, T.ignB x = ig := ⟨_, rfl⟩
        simp only [hig] at HIx
        cases ig with
        | true =>
          have HN : Hid (acc = skelM T (xs.take (k + 1))) := Lib.hid (by rw [HOS.out, proto_ign hig, List.append_nil]; exact HS.out)
          clear hig
          generalize findL T.prototypes x = ml at *
          obtain ⟨x0, x1, x2, x3, x4, x5, x6, x7, x8, x9, x10, x11⟩ := HTr.out.1.tab
          go_wp2_with (first | (go_at_call 20; refine (HPx.out _ (Below.refl _ _)).mono ?_; rintro e w5 ⟨u7, rfl, hi7, b5⟩; obtain ⟨A7, c7, rfl, _⟩ := id hi7; have HI5 := Lib.hid hi7; have HO5 := Lib.hid (own_later HOr.out b5); have HB5 := Lib.hid (below_then HBr.out (Nat.le_refl _) b5); have HT5 := Lib.hid (HTr.out.later b5); clear hi7 x0 x1 x2 x3 x4 x5 x6 x7 x8 x9 x10 x11; obtain ⟨x0, x1, x2, x3, x4, x5, x6, x7, x8, x9, x10, x11⟩ := HT5.out.1.tab) | (go_at_call 19; refine (HIx.out _ b5).mono ?_; rintro e w7 ⟨rfl, b7⟩; have HI7 := Lib.hid (HI5.out.later b7); have HO7 := Lib.hid (own_later HO5.out b7); have HB7 := Lib.hid (below_then HB5.out (Nat.le_refl _) b7); clear b7))
          go_roundw
          case rel => exact ⟨k + 1, acc, A9, c9, by omega, by go_num, rfl, by omega, HN, HO7, HB7⟩
          case measure => simp [intOf]; omega
        | false =>
          by_cases hp : findL T.prototypes x = []
          · have HN : Hid (acc ++ [x] = skelM T (xs.take (k + 1))) := Lib.hid (by rw [HOS.out, proto_none hig hp, ← HS.out])
            rw [hp] at HPx
            clear hig hp hml
            obtain ⟨x0, x1, x2, x3, x4, x5, x6, x7, x8, x9, x10, x11⟩ := HTr.out.1.tab
            go_wp2_with (first
              | (go_at_call 20; refine (HPx.out _ (Below.refl _ _)).mono ?_; rintro e w5 ⟨u7, rfl, hi7, b5⟩; obtain ⟨A7, c7, rfl, _⟩ := id hi7; have HI5 := Lib.hid hi7; have HO5 := Lib.hid (own_later HOr.out b5); have HB5 := Lib.hid (below_then HBr.out (Nat.le_refl _) b5); have HT5 := Lib.hid (HTr.out.later b5); clear hi7 x0 x1 x2 x3 x4 x5 x6 x7 x8 x9 x10 x11; obtain ⟨x0, x1, x2, x3, x4, x5, x6, x7, x8, x9, x10, x11⟩ := HT5.out.1.tab)
              | (go_at_call 19; refine (HIx.out _ b5).mono ?_; rintro e w7 ⟨rfl, b7⟩; have HI7 := Lib.hid (HI5.out.later b7); have HO7 := Lib.hid (own_later HO5.out b7); have HB7 := Lib.hid (below_then HB5.out (Nat.le_refl _) b7); clear b7)
              | (at_builtin; refine wpList_append_ints (by rfl) (.tmp 26) (.tmp 28) rfl Tryz.underlying22 hi hz0 hz1 hz2 (w7.heap.size + 1) w2.heap.size (.slice A9 acc.length c9) acc (.slice (some ⟨w7.heap.size, 0, none⟩) 1 1) [x] rfl (HO7.out.alloc _) rfl (by have h := Ints.of_own (own_new w7 3 [x] (by simp)); simpa using h) (by simp; omega) (by have := HB7.out.size; simp; omega) ?_; intro v6 w6 ho6 hg6 _; obtain ⟨A6, c6, rfl, _⟩ := id (Ints.of_own ho6); have HO6 := Lib.hid ho6; have HB6 := Lib.hid ((HB7.out.alloc HB7.out.size (.cells #[.int .i64 x] 3)).grown hg6 (by have := HB7.out.size; simp; omega) (fun q hq => (HO7.out.lt q hq).1)); clear ho6 hg6))
            go_roundw
            case rel => exact ⟨k + 1, acc ++ [x], A6, c6, by omega, by go_num, by simp, by simp; omega, HN, HO6, HB6⟩
            case measure => simp [intOf]; omega
          · have HN : Hid (acc ++ findL T.prototypes x = skelM T (xs.take (k + 1))) := Lib.hid (by rw [HOS.out, proto_some hig hp, ← HS.out])
            have gp : (0 : Int) < ((findL T.prototypes x).length : Int) := by have := List.length_pos_iff.2 hp; omega
            clear hig hp
            generalize findL T.prototypes x = ml at *
            obtain ⟨x0, x1, x2, x3, x4, x5, x6, x7, x8, x9, x10, x11⟩ := HTr.out.1.tab
            go_wp2_with (first
              | (go_at_call 20; refine (HPx.out _ (Below.refl _ _)).mono ?_; rintro e w5 ⟨u7, rfl, hi7, b5⟩; obtain ⟨A7, c7, rfl, _⟩ := id hi7; have HI5 := Lib.hid hi7; have HO5 := Lib.hid (own_later HOr.out b5); have HB5 := Lib.hid (below_then HBr.out (Nat.le_refl _) b5); have HT5 := Lib.hid (HTr.out.later b5); clear hi7 x0 x1 x2 x3 x4 x5 x6 x7 x8 x9 x10 x11; obtain ⟨x0, x1, x2, x3, x4, x5, x6, x7, x8, x9, x10, x11⟩ := HT5.out.1.tab)
              | (go_at_call 19; refine (HIx.out _ b5).mono ?_; rintro e w7 ⟨rfl, b7⟩; have HI7 := Lib.hid (HI5.out.later b7); have HO7 := Lib.hid (own_later HO5.out b7); have HB7 := Lib.hid (below_then HB5.out (Nat.le_refl _) b7); clear b7)
              | (at_builtin; refine wpList_append_ints (by rfl) (.tmp 38) (.tmp 39) rfl Tryz.underlying22 hi hz0 hz1 hz2 w7.heap.size w2.heap.size (.slice A9 acc.length c9) acc (.slice A7 ml.length c7) ml rfl HO7.out rfl HI7.out (by omega) HB7.out.size ?_; intro v6 w6 ho6 hg6 _; obtain ⟨A6, c6, rfl, _⟩ := id (Ints.of_own ho6); have HO6 := Lib.hid ho6; have HB6 := Lib.hid (HB7.out.grown hg6 HB7.out.size (fun q hq => (HO7.out.lt q hq).1)); clear ho6 hg6))
            go_roundw
            case rel => exact ⟨k + 1, acc ++ ml, A6, c6, by omega, by go_num, by simp, by simp; omega, HN, HO6, HB6⟩
            case measure => simp [intOf]; omega
      · have HA : Hid (acc = skelM T xs) := Lib.hid (by have := HS.out; rwa [List.take_of_length_le (by omega)] at this)
        by_cases hfl : 4096 < acc.length
        · have HR := Lib.hid (HEF.out (by rw [← HA.out]; exact hfl))
          have g : (4096 : Int) < (acc.length : Int) := by omega
          clear hfl
          go_wp2_with fail
          go_ret2
          rw [HR.out]
          exact ⟨_, rfl, World.ownsRow_nil _ _ _ _, below_next HB2.out HBr.out⟩
        · have HR := Lib.hid (HEO.out (by rw [← HA.out]; omega))
          rw [← HA.out] at HR
          have g : ¬ (4096 : Int) < (acc.length : Int) := by omega
          clear hfl
          go_wp2_with fail
          go_ret2
          rw [HR.out]
          exact ⟨_, rfl, row_le HOr.out HB2.out.size, below_next HB2.out HBr.out⟩
  · have HE := Lib.hid (skmR_err (T := T) (l := xs) h0)
    have hb : (accE T xs != 0) = true := by simpa using h0
    clear h0
    go_enter Tryz.func59, Tryz.ntmps59
    go_upto_region 1 with fail
    generalize w.alloc (.cells t.cells 26) = w1 at *
    obtain ⟨x0, x1, x2, x3, x4, x5, x6, x7, x8, x9, x10, x11⟩ := HT.out.1.tab
    go_wp2_with (go_at_call 81; refine HO.out.mono ?_; rintro e w2 ⟨rfl, b2⟩)
    go_ret2
    rw [HE.out]
    exact ⟨_, rfl, World.ownsRow_nil _ _ _ _, below_next HB0.out b2⟩
end Go.Proofs.YtecpbicfiaifdaaGreatDoor
/-
  The walk through the reference's Of.
-/
namespace Go.Proofs.YtecpbicfiaifdaaGreatDoor
open Go.RowKit ND

set_option maxRecDepth 100000 in
set_option maxHeartbeats 2000000 in
theorem refOf_any (t : Tv) (T : Tab) (v : Value) (xs : List Int) (w : World) (ht : TabR w w.heap.size t T) (hv : Ints w w.heap.size .i64 v xs) :
    Calls Tryz.prog 26 #[t.val, v] w (RetTwo w (skelR T xs).1 (skelR T xs).2) := by
  obtain ⟨A, c, rfl, _⟩ := id hv
  have HB0 : Hid (Below w.heap.size w (w.alloc (.cells t.cells 26))) := Lib.hid ((Below.refl _ _).alloc (Nat.le_refl _) _)
  have HT : Hid (Tbl (w.alloc (.cells t.cells 26)) w.heap.size t T) := Lib.hid ⟨Blk.new _ _ _, ht.later HB0.out⟩
  have HV := Lib.hid (hv.later HB0.out)
  clear ht hv
  have H1 := Lib.hid (refNfd_any t T _ xs _ HT.out.2 HV.out)
  obtain ⟨dl, e1, hd⟩ : ∃ dl e1, nfdR T (accE T xs) xs = (dl, e1) := ⟨_, _, rfl⟩
  rw [hd] at H1
  have H2 := Lib.hid (fun W v (h : Below (w.alloc (.cells t.cells 26)).heap.size (w.alloc (.cells t.cells 26)) W) hi => refSkm_any t T v dl W (HT.out.later h).2 hi)
  obtain ⟨ml, e2, hm⟩ : ∃ ml e2, skmR T (accE T dl) dl = (ml, e2) := ⟨_, _, rfl⟩
  rw [hm] at H2
  have H3 := Lib.hid (fun W v (h : Below (w.alloc (.cells t.cells 26)).heap.size (w.alloc (.cells t.cells 26)) W) hi => refNfd_any t T v ml W (HT.out.later h).2 hi)
  obtain ⟨rl, e3, hr⟩ : ∃ rl e3, nfdR T (accE T ml) ml = (rl, e3) := ⟨_, _, rfl⟩
  rw [hr] at H3
  by_cases h1 : e1 = 0
  · subst h1
    by_cases h2 : e2 = 0
    · subst h2
      have HR := Lib.hid ((skelR_e3 hd hm).trans hr)
      clear hd hm hr
      generalize skelR T xs = R at *
      go_enter Tryz.func26, Tryz.ntmps26
      go_upto_region 1 with fail
      generalize w.alloc (.cells t.cells 26) = w1 at *
      obtain ⟨x0, x1, x2, x3, x4, x5, x6, x7, x8, x9, x10, x11⟩ := HT.out.1.tab
      go_upto_region 2 with (go_at_call 14; refine H1.out.mono ?_; rintro e w2 ⟨u2, rfl, ho2, b2⟩; obtain ⟨A2, c2, rfl, _⟩ := id (Ints.of_own ho2); have HU2 := Lib.hid (Ints.of_own ho2); clear ho2)
      clear x0 x1 x2 x3 x4 x5 x6 x7 x8 x9 x10 x11
      obtain ⟨x0, x1, x2, x3, x4, x5, x6, x7, x8, x9, x10, x11⟩ := (HT.out.later b2).1.tab
      go_upto_region 5 with (go_at_call 59; refine (H2.out _ _ b2 HU2.out).mono ?_; rintro e w3 ⟨u3, rfl, ho3, b3⟩; obtain ⟨A3, c3, rfl, _⟩ := id (Ints.of_own ho3); have HU3 := Lib.hid (Ints.of_own ho3); have b23 := below_next b2 b3; clear ho3)
      clear x0 x1 x2 x3 x4 x5 x6 x7 x8 x9 x10 x11
      obtain ⟨x0, x1, x2, x3, x4, x5, x6, x7, x8, x9, x10, x11⟩ := (HT.out.later b23).1.tab
      go_wp2_with (go_at_call 14; refine (H3.out _ _ b23 HU3.out).mono ?_; rintro e w4 ⟨u4, rfl, ho4, b4⟩; obtain ⟨A4, c4, rfl, _⟩ := id (Ints.of_own ho4))
      go_ret2
      rw [HR.out]
      exact ⟨_, rfl, row_le ho4 (by have := HB0.out.size; have := b23.size; omega), below_next (below_next HB0.out b23) b4⟩
    · have HR := Lib.hid (skelR_e2 hd hm h2)
      have hb : (e2 != 0) = true := by simpa using h2
      clear hd hm hr h2
      generalize skelR T xs = R at *
      go_enter Tryz.func26, Tryz.ntmps26
      go_upto_region 1 with fail
      generalize w.alloc (.cells t.cells 26) = w1 at *
      obtain ⟨x0, x1, x2, x3, x4, x5, x6, x7, x8, x9, x10, x11⟩ := HT.out.1.tab
      go_upto_region 2 with (go_at_call 14; refine H1.out.mono ?_; rintro e w2 ⟨u2, rfl, ho2, b2⟩; obtain ⟨A2, c2, rfl, _⟩ := id (Ints.of_own ho2); have HU2 := Lib.hid (Ints.of_own ho2); clear ho2)
      clear x0 x1 x2 x3 x4 x5 x6 x7 x8 x9 x10 x11
      obtain ⟨x0, x1, x2, x3, x4, x5, x6, x7, x8, x9, x10, x11⟩ := (HT.out.later b2).1.tab
      go_wp2_with (go_at_call 59; refine (H2.out _ _ b2 HU2.out).mono ?_; rintro e w3 ⟨u3, rfl, ho3, b3⟩; obtain ⟨A3, c3, rfl, _⟩ := id (Ints.of_own ho3); have HU3 := Lib.hid (Ints.of_own ho3); have b23 := below_next b2 b3; clear ho3)
      go_ret2
      rw [HR.out]
      exact ⟨_, rfl, World.ownsRow_nil _ _ _ _, below_next HB0.out b23⟩
  · have HR := Lib.hid (skelR_e1 hd h1)
    have hb : (e1 != 0) = true := by simpa using h1
    clear hd hm hr h1
    generalize skelR T xs = R at *
    go_enter Tryz.func26, Tryz.ntmps26
    go_upto_region 1 with fail
    generalize w.alloc (.cells t.cells 26) = w1 at *
    obtain ⟨x0, x1, x2, x3, x4, x5, x6, x7, x8, x9, x10, x11⟩ := HT.out.1.tab
    go_wp2_with (go_at_call 14; refine H1.out.mono ?_; rintro e w2 ⟨u2, rfl, ho2, b2⟩; obtain ⟨A2, c2, rfl, _⟩ := id (Ints.of_own ho2); have HU2 := Lib.hid (Ints.of_own ho2); clear ho2)
    go_ret2
    rw [HR.out]
    exact ⟨_, rfl, World.ownsRow_nil _ _ _ _, below_next HB0.out b2⟩
end Go.Proofs.YtecpbicfiaifdaaGreatDoor
/-
  The walks through the reference's Differ and Confusable.
-/
namespace Go.Proofs.YtecpbicfiaifdaaGreatDoor
open Go.RowKit ND

theorem sameR_differ (T : Tab) (a b : List Int) : sameR T a b = ((differR T a b).2 == 0 && ((differR T a b).1 == -1), (differR T a b).2) := by
  unfold sameR differR
  by_cases h : bothE T a b = 0
  · rw [if_neg (by omega), h]
    have h3 := differL_neg (skelR T a).1 (skelR T b).1
    by_cases he : (skelR T a).1 = (skelR T b).1
    · rw [h3.2 he, decide_eq_true he]; rfl
    · have : (differL (skelR T a).1 (skelR T b).1 == -1) = false := beq_eq_false_iff_ne.2 fun e => he (h3.1 e)
      rw [decide_eq_false he, this]
  · rw [if_pos h]
    have : (bothE T a b == 0) = false := by simpa using h
    rw [this]; rfl
set_option maxRecDepth 100000 in
set_option maxHeartbeats 4000000 in
theorem refDiffer_any (t : Tv) (T : Tab) (v : Value) (xs : List Int) (u : Value) (us : List Int) (w : World) (ht : TabR w w.heap.size t T) (hv : Ints w w.heap.size .i64 v xs) (hu : Ints w w.heap.size .i64 u us) :
    Calls Tryz.prog 62 #[t.val, v, u] w fun e w' => e = .returned (.tuple #[.int .i64 (differR T xs us).1, .int .i64 (differR T xs us).2]) ∧ Below w.heap.size w w' := by
  obtain ⟨A, c, rfl, _⟩ := id hv
  obtain ⟨A', c', rfl, _⟩ := id hu
  have HB0 : Hid (Below w.heap.size w (w.alloc (.cells t.cells 26))) := Lib.hid ((Below.refl _ _).alloc (Nat.le_refl _) _)
  have HT : Hid (Tbl (w.alloc (.cells t.cells 26)) w.heap.size t T) := Lib.hid ⟨Blk.new _ _ _, ht.later HB0.out⟩
  have HV := Lib.hid (hv.later HB0.out)
  have HU := Lib.hid (hu.later HB0.out)
  clear ht hv hu
  have H1 := Lib.hid (refOf_any t T _ xs _ HT.out.2 HV.out)
  obtain ⟨x, e1, hd⟩ : ∃ x e1, skelR T xs = (x, e1) := ⟨_, _, rfl⟩
  rw [hd] at H1
  have H2 := Lib.hid (fun W (h : Below (w.alloc (.cells t.cells 26)).heap.size (w.alloc (.cells t.cells 26)) W) => refOf_any t T _ us W (HT.out.later h).2 (HU.out.later h))
  obtain ⟨y, e2, hm⟩ : ∃ y e2, skelR T us = (y, e2) := ⟨_, _, rfl⟩
  rw [hm] at H2
  by_cases h1 : e1 = 0
  · subst h1
    by_cases h2 : e2 = 0
    · subst h2
      have hR : differR T xs us = (diffGo 0 x y, 0) := by
        rcases differR_of (bothR_3 hd hm) with ⟨h, _⟩ | ⟨_, h⟩
        · exact absurd rfl h
        · exact h
      have HR := Lib.hid hR
      obtain ⟨D, hD⟩ : ∃ D, diffGo 0 x y = D := ⟨_, rfl⟩
      have hneg := diffGo_neg x y 0
      rw [hD] at HR hneg
      have HD : Hid (diffGo 0 (x.drop 0) (y.drop 0) = D) := Lib.hid hD
      clear hd hm hR hD
      generalize differR T xs us = R at *
      obtain ⟨q, hq⟩ : ∃ q, decide (x = y) = q := ⟨_, rfl⟩
      have HSM := Lib.hid (fun v u w hv hu => refSame_any v u x y w hv hu)
      rw [hq] at HSM
      cases q with
      | true =>
        have hDD : D = -1 := hneg.2 (of_decide_eq_true hq)
        subst hDD
        clear hneg hq
        go_enter Tryz.func62, Tryz.ntmps62
        go_upto_region 1 with fail
        generalize w.alloc (.cells t.cells 26) = w1 at *
        obtain ⟨x0, x1, x2, x3, x4, x5, x6, x7, x8, x9, x10, x11⟩ := HT.out.1.tab
        go_upto_region 4 with (go_at_call 26; refine H1.out.mono ?_; rintro e w2 ⟨u2, rfl, ho2, b2⟩; obtain ⟨A2, c2, rfl, _⟩ := id (Ints.of_own ho2); have HU2 := Lib.hid (Ints.of_own ho2); clear ho2)
        clear x0 x1 x2 x3 x4 x5 x6 x7 x8 x9 x10 x11
        obtain ⟨x0, x1, x2, x3, x4, x5, x6, x7, x8, x9, x10, x11⟩ := (HT.out.later b2).1.tab
        go_upto_region 7 with (go_at_call 26; refine (H2.out _ b2).mono ?_; rintro e w3 ⟨u3, rfl, ho3, b3⟩; obtain ⟨A3, c3, rfl, _⟩ := id (Ints.of_own ho3); have HU3 := Lib.hid (Ints.of_own ho3); have HX3 := Lib.hid (HU2.out.later b3); have b23 := below_next b2 b3; clear ho3)
        clear x0 x1 x2 x3 x4 x5 x6 x7 x8 x9 x10 x11
        go_wp2_with (go_at_call 54; refine (HSM.out _ _ _ HX3.out HU3.out).mono ?_; rintro e w4 ⟨rfl, b4⟩)
        go_ret2
        rw [HR.out]
        exact ⟨rfl, below_next (below_next HB0.out b23) b4⟩
      | false =>
        have HDN := Lib.hid (show D ≠ -1 from fun h => of_decide_eq_false hq (hneg.1 h))
        clear hneg hq
        go_enter Tryz.func62, Tryz.ntmps62
        go_upto_region 1 with fail
        generalize w.alloc (.cells t.cells 26) = w1 at *
        obtain ⟨x0, x1, x2, x3, x4, x5, x6, x7, x8, x9, x10, x11⟩ := HT.out.1.tab
        go_upto_region 4 with (go_at_call 26; refine H1.out.mono ?_; rintro e w2 ⟨u2, rfl, ho2, b2⟩; obtain ⟨A2, c2, rfl, _⟩ := id (Ints.of_own ho2); have HU2 := Lib.hid (Ints.of_own ho2); clear ho2)
        clear x0 x1 x2 x3 x4 x5 x6 x7 x8 x9 x10 x11
        obtain ⟨x0, x1, x2, x3, x4, x5, x6, x7, x8, x9, x10, x11⟩ := (HT.out.later b2).1.tab
        go_upto_region 7 with (go_at_call 26; refine (H2.out _ b2).mono ?_; rintro e w3 ⟨u3, rfl, ho3, b3⟩; obtain ⟨A3, c3, rfl, _⟩ := id (Ints.of_own ho3); have HU3 := Lib.hid (Ints.of_own ho3); have HX3 := Lib.hid (HU2.out.later b3); have b23 := below_next b2 b3; clear ho3)
        clear x0 x1 x2 x3 x4 x5 x6 x7 x8 x9 x10 x11
        go_upto_region 9 with (go_at_call 54; refine (HSM.out _ _ _ HX3.out HU3.out).mono ?_; rintro e w4 ⟨rfl, b4⟩)
        have HX4 := Lib.hid (HX3.out.later b4)
        have HY4 := Lib.hid (HU3.out.later b4)
        have HB4 := Lib.hid (below_next (below_next HB0.out b23) b4)
        have l1 : x.length ≤ 9223372036854775807 := by
          obtain ⟨_, _, e, h1, h2, _⟩ := HX4.out
          unfold maxLen at h2; cases e; omega
        clear b23 b4 b2 b3 HX3 HU3 HU2 HSM HB0 HT HV HU H1 H2
        go_wp2_with fail
        go_loopw [11] (fun si wr => ∃ (j : Nat), j ≤ x.length ∧ j ≤ y.length ∧ si = .int .i64 j ∧ Hid (diffGo j (x.drop j) (y.drop j) = D) ∧ Hid (Below w4.heap.size w4 wr)) (fun si _ => x.length - (intOf si).toNat)
        case atStart => exact ⟨0, by omega, by omega, rfl, HD, Lib.hid (Below.refl _ _)⟩
        case round =>
          clear HD
          obtain ⟨j, hj, hj2, rfl, HS, HBr⟩ := hrel
          by_cases hx : j < x.length
          · by_cases hy : j < y.length
            · obtain ⟨xj, hxj⟩ : ∃ z, x[j]? = some z := ⟨_, List.getElem?_eq_getElem hx⟩
              obtain ⟨yj, hyj⟩ : ∃ z, y[j]? = some z := ⟨_, List.getElem?_eq_getElem hy⟩
              obtain ⟨_, _, hve, _, _, _, hcx⟩ := HX4.out
              cases hve
              obtain ⟨_, _, hvf, _, _, _, hcy⟩ := HY4.out
              cases hvf
              obtain ⟨ax, rfl, hax, hdx⟩ := hcx j xj hxj
              obtain ⟨ay, rfl, hay, hdy⟩ := hcy j yj hyj
              have ex := cell_regrown ((HBr.out.cell (p := ax.add j) (by rw [block_of_add]; exact hax)).trans hdx)
              have ey := cell_regrown ((HBr.out.cell (p := ay.add j) (by rw [block_of_add]; exact hay)).trans hdy)
              have j0 : (0 : Int) ≤ (j : Int) := by omega
              have j1 : (j : Int) < (x.length : Int) := by omega
              have j2 : (j : Int) < (y.length : Int) := by omega
              have hon := diff_on hxj hyj
              rw [HS.out] at hon
              have HON := Lib.hid hon
              clear hcx hcy hxj hyj hdx hdy hax hay hon
              go_upto_region 10 with fail
              refine wp_region_quiet_below (by kernel_rfl) (by kernel_rfl) ?_
              repeat (go_big_quiet_step (fail))
              refine wpQuiet_nil ?_
              rintro _ ⟨⟨dq, osq⟩, rfl⟩
              have bq := below_regrown wr dq osq
              have HB5 := Lib.hid (below_then HBr.out (Nat.le_refl _) bq)
              clear bq ex ey HBr
              generalize Go.Sort.grow (redrawn wr dq) osq = w5 at *
              by_cases hxy : xj = yj
              · have hz : (xj == yj) = true := beq_iff_eq.2 hxy
                have HN : Hid (diffGo (j + 1) (x.drop (j + 1)) (y.drop (j + 1)) = D) := Lib.hid (by have h := HON.out; rw [if_pos hxy] at h; exact h.symm)
                clear hxy
                go_wp2_with fail
                go_roundw
                case rel => exact ⟨j + 1, by omega, by omega, by go_num, HN, HB5⟩
                case measure => simp [intOf]; omega
              · have hz : (xj == yj) = false := by simpa using hxy
                have HN : Hid (D = (j : Int)) := Lib.hid (by have h := HON.out; rw [if_neg hxy] at h; exact h)
                clear hxy
                go_wp2_with fail
                go_ret2
                rw [HR.out, HN.out]
                exact ⟨rfl, below_next HB4.out HB5.out⟩
            · have hend := diff_end (x := x) (y := y) (i := j) (by omega) (by omega) (by omega)
              rw [HS.out] at hend
              have HN : Hid (D = (j : Int)) := Lib.hid (by
                split at hend
                · exact absurd hend HDN.out
                · exact hend)
              have j1 : (j : Int) < (x.length : Int) := by omega
              have j2 : ¬ (j : Int) < (y.length : Int) := by omega
              clear hend
              go_upto_region 10 with fail
              refine wp_region_quiet_below (by kernel_rfl) (by kernel_rfl) ?_
              repeat (go_big_quiet_step (fail))
              refine wpQuiet_nil ?_
              rintro _ ⟨⟨dq, osq⟩, rfl⟩
              have bq := below_regrown wr dq osq
              have HB5 := Lib.hid (below_then HBr.out (Nat.le_refl _) bq)
              clear bq HBr
              generalize Go.Sort.grow (redrawn wr dq) osq = w5 at *
              go_wp2_with fail
              go_ret2
              rw [HR.out, HN.out]
              exact ⟨rfl, below_next HB4.out HB5.out⟩
          · have hend := diff_end (x := x) (y := y) (i := j) (by omega) (by omega) (by omega)
            rw [HS.out] at hend
            have HN : Hid (D = (j : Int)) := Lib.hid (by
              split at hend
              · exact absurd hend HDN.out
              · exact hend)
            have j1 : ¬ (j : Int) < (x.length : Int) := by omega
            clear hend
            go_upto_region 10 with fail
            refine wp_region_quiet_below (by kernel_rfl) (by kernel_rfl) ?_
            repeat (go_big_quiet_step (fail))
            refine wpQuiet_nil ?_
            rintro _ ⟨⟨dq, osq⟩, rfl⟩
            have bq := below_regrown wr dq osq
            have HB5 := Lib.hid (below_then HBr.out (Nat.le_refl _) bq)
            clear bq HBr
            generalize Go.Sort.grow (redrawn wr dq) osq = w5 at *
            go_wp2_with fail
            go_ret2
            rw [HR.out, HN.out]
            exact ⟨rfl, below_next HB4.out HB5.out⟩
    · have hR : differR T xs us = (0, e2) := by
        rcases differR_of (bothR_2 hd hm h2) with ⟨_, h⟩ | ⟨h, _⟩
        · exact h
        · exact absurd h h2
      have HR := Lib.hid hR
      have hb : (e2 != 0) = true := by simpa using h2
      clear hd hm hR h2
      generalize differR T xs us = R at *
      go_enter Tryz.func62, Tryz.ntmps62
      go_upto_region 1 with fail
      generalize w.alloc (.cells t.cells 26) = w1 at *
      obtain ⟨x0, x1, x2, x3, x4, x5, x6, x7, x8, x9, x10, x11⟩ := HT.out.1.tab
      go_upto_region 4 with (go_at_call 26; refine H1.out.mono ?_; rintro e w2 ⟨u2, rfl, ho2, b2⟩; obtain ⟨A2, c2, rfl, _⟩ := id (Ints.of_own ho2); have HU2 := Lib.hid (Ints.of_own ho2); clear ho2)
      clear x0 x1 x2 x3 x4 x5 x6 x7 x8 x9 x10 x11
      obtain ⟨x0, x1, x2, x3, x4, x5, x6, x7, x8, x9, x10, x11⟩ := (HT.out.later b2).1.tab
      go_wp2_with (go_at_call 26; refine (H2.out _ b2).mono ?_; rintro e w3 ⟨u3, rfl, ho3, b3⟩; obtain ⟨A3, c3, rfl, _⟩ := id (Ints.of_own ho3); have HU3 := Lib.hid (Ints.of_own ho3); have HX3 := Lib.hid (HU2.out.later b3); have b23 := below_next b2 b3; clear ho3)
      go_ret2
      rw [HR.out]
      exact ⟨rfl, below_next HB0.out b23⟩
  · have hR : differR T xs us = (0, e1) := by
      rcases differR_of (bothR_1 (b := us) hd h1) with ⟨_, h⟩ | ⟨h, _⟩
      · exact h
      · exact absurd h h1
    have HR := Lib.hid hR
    have hb : (e1 != 0) = true := by simpa using h1
    clear hd hm hR h1
    generalize differR T xs us = R at *
    go_enter Tryz.func62, Tryz.ntmps62
    go_upto_region 1 with fail
    generalize w.alloc (.cells t.cells 26) = w1 at *
    obtain ⟨x0, x1, x2, x3, x4, x5, x6, x7, x8, x9, x10, x11⟩ := HT.out.1.tab
    go_wp2_with (go_at_call 26; refine H1.out.mono ?_; rintro e w2 ⟨u2, rfl, ho2, b2⟩; obtain ⟨A2, c2, rfl, _⟩ := id (Ints.of_own ho2); have HU2 := Lib.hid (Ints.of_own ho2); clear ho2)
    go_ret2
    rw [HR.out]
    exact ⟨rfl, below_next HB0.out b2⟩

set_option maxRecDepth 100000 in
set_option maxHeartbeats 1000000 in
theorem refConf_any (t : Tv) (T : Tab) (v : Value) (xs : List Int) (u : Value) (us : List Int) (w : World) (ht : TabR w w.heap.size t T) (hv : Ints w w.heap.size .i64 v xs) (hu : Ints w w.heap.size .i64 u us) :
    Calls Tryz.prog 30 #[t.val, v, u] w fun e w' => e = .returned (.tuple #[.bool (sameR T xs us).1, .int .i64 (sameR T xs us).2]) ∧ Below w.heap.size w w' := by
  obtain ⟨A, c, rfl, _⟩ := id hv
  obtain ⟨A', c', rfl, _⟩ := id hu
  have HB0 : Hid (Below w.heap.size w (w.alloc (.cells t.cells 26))) := Lib.hid ((Below.refl _ _).alloc (Nat.le_refl _) _)
  have HT : Hid (Tbl (w.alloc (.cells t.cells 26)) w.heap.size t T) := Lib.hid ⟨Blk.new _ _ _, ht.later HB0.out⟩
  have HV := Lib.hid (hv.later HB0.out)
  have HU := Lib.hid (hu.later HB0.out)
  clear ht hv hu
  have H1 := Lib.hid (refDiffer_any t T _ xs _ us _ HT.out.2 HV.out HU.out)
  have hs := sameR_differ T xs us
  obtain ⟨D, er, hd⟩ : ∃ D er, differR T xs us = (D, er) := ⟨_, _, rfl⟩
  rw [hd] at H1 hs
  have HR := Lib.hid hs
  clear hs hd
  generalize sameR T xs us = R at *
  by_cases h0 : er = 0
  · have hb : (er == 0) = true := beq_iff_eq.2 h0
    clear h0
    go_enter Tryz.func30, Tryz.ntmps30
    go_upto_region 1 with fail
    generalize w.alloc (.cells t.cells 26) = w1 at *
    obtain ⟨x0, x1, x2, x3, x4, x5, x6, x7, x8, x9, x10, x11⟩ := HT.out.1.tab
    go_wp2_with (go_at_call 62; refine H1.out.mono ?_; rintro e w2 ⟨rfl, b2⟩)
    go_ret2
    rw [HR.out]
    exact ⟨by simp [hb], below_next HB0.out b2⟩
  · have hb : (er == 0) = false := by simpa using h0
    clear h0
    go_enter Tryz.func30, Tryz.ntmps30
    go_upto_region 1 with fail
    generalize w.alloc (.cells t.cells 26) = w1 at *
    obtain ⟨x0, x1, x2, x3, x4, x5, x6, x7, x8, x9, x10, x11⟩ := HT.out.1.tab
    go_wp2_with (go_at_call 62; refine H1.out.mono ?_; rintro e w2 ⟨rfl, b2⟩)
    go_ret2
    rw [HR.out]
    exact ⟨by simp [hb], below_next HB0.out b2⟩
end Go.Proofs.YtecpbicfiaifdaaGreatDoor
/-
  The search of the reference for the class, in plain Lean.
-/
namespace Go.Proofs.YtecpbicfiaifdaaGreatDoor
open Go.RowKit ND

/-- The first place from m on that holds s. -/
def KFst (ss : List (List Int)) (s : List Int) (m : Nat) (q0 : Nat) : Prop := m ≤ q0 ∧ ss[q0]? = some s ∧ ∀ (q : Nat) (x : List Int), m ≤ q → q < q0 → ss[q]? = some x → x ≠ s
theorem KFst.start {ss : List (List Int)} {s : List Int} {k : Nat} (h : ss[k]? = some s) : KFst ss s k k := ⟨Nat.le_refl _, h, fun q x h1 h2 => by omega⟩
theorem KFst.hit {ss : List (List Int)} {s : List Int} {m : Nat} (h : ss[m]? = some s) : KFst ss s m m := KFst.start h
theorem KFst.go {ss : List (List Int)} {s x : List Int} {m q0 : Nat} (h : KFst ss s (m + 1) q0) (hx : ss[m]? = some x) (hne : x ≠ s) : KFst ss s m q0 := by
  obtain ⟨h1, h2, h3⟩ := h
  refine ⟨by omega, h2, fun q y hq hq2 hy => ?_⟩
  rcases Nat.eq_or_lt_of_le hq with rfl | hq
  · rw [hx] at hy; cases hy; exact hne
  · exact h3 q y hq hq2 hy
theorem KFst.done {ss : List (List Int)} {s : List Int} {q0 : Nat} (h : KFst ss s 0 q0) : classOfI ss s = (q0 : Int) := by
  unfold classOfI
  rw [firstI_at h.2.1 fun j x hj hx => h.2.2 j x (Nat.zero_le _) hj hx]
/-- Whether two sequences without errors are confusable. -/
theorem sameR_ok {T : Tab} {a b s u : List Int} (h1 : skelR T a = (s, 0)) (h2 : skelR T b = (u, 0)) : sameR T a b = (decide (s = u), 0) := by
  unfold sameR bothE; rw [h1, h2]; simp
end Go.Proofs.YtecpbicfiaifdaaGreatDoor
/-
  The walk through the reference's Classes.
-/
namespace Go.Proofs.YtecpbicfiaifdaaGreatDoor
open Go.RowKit ND

set_option maxRecDepth 100000 in
set_option maxHeartbeats 8000000 in
theorem refClasses_any (t : Tv) (T : Tab) (v : Value) (yss : List (List Int)) (w : World) (ht : TabR w w.heap.size t T) (hv : Lists w w.heap.size v yss) :
    Calls Tryz.prog 66 #[t.val, v] w (RetTwo w (classesR T yss).1 (classesR T yss).2) := by
  obtain ⟨A, c, rfl, _⟩ := id hv
  have HB0 : Hid (Below w.heap.size w (w.alloc (.cells t.cells 26))) := Lib.hid ((Below.refl _ _).alloc (Nat.le_refl _) _)
  have HT : Hid (Tbl (w.alloc (.cells t.cells 26)) w.heap.size t T) := Lib.hid ⟨Blk.new _ _ _, ht.later HB0.out⟩
  have HV := Lib.hid (hv.later HB0.out)
  clear ht hv
  by_cases hbig : 256 < yss.length
  · have HR := Lib.hid (classesR_full (T := T) hbig)
    have g1 : (256 : Int) < (yss.length : Int) := by omega
    clear hbig
    generalize classesR T yss = R at *
    go_enter Tryz.func66, Tryz.ntmps66
    go_wp2_with fail
    go_ret2
    rw [HR.out]
    exact ⟨_, rfl, World.ownsRow_nil _ _ _ _, HB0.out⟩
  · have g1 : ¬ (256 : Int) < (yss.length : Int) := by omega
    have HRE := Lib.hid (fun e (h : firstE T yss = e) h2 => classesR_err (by omega) h h2)
    have HRO := Lib.hid (fun (h : firstE T yss = 0) => classesR_ok (T := T) (by omega) h)
    have hl6 : yss.length ≤ 256 := by omega
    clear hbig
    generalize classesR T yss = R at *
    go_enter Tryz.func66, Tryz.ntmps66
    go_upto_region 1 with fail
    generalize w.alloc (.cells t.cells 26) = w1 at *
    obtain ⟨tb, htb⟩ : ∃ tb, w.heap.size = tb := ⟨_, rfl⟩
    rw [htb] at HT
    simp only [htb]
    obtain ⟨i0, hi, hz0, hz1, hz2⟩ := info_parts Tryz.infoInt'
    go_wp2_with fail
    go_loopw [20, 6] (fun si t6 wr => ∃ (k : Nat) (ck : List Int) (A9 : Option Addr) (c9 : Nat), k ≤ yss.length ∧ si = .int .i64 k ∧ t6 = .slice A9 ck.length c9 ∧ Hid (ck = (classesL T yss).take k) ∧ Hid (firstE T (yss.drop k) = firstE T yss) ∧ Hid (∀ (q : Nat) (l : List Int), q < k → yss[q]? = some l → (skelR T l).2 = 0) ∧ Hid (wr.ownsRow w1.heap.size 3 1 (.slice A9 ck.length c9) ck.length (ck.map (Value.int .i64))) ∧ Hid (Below w1.heap.size w1 wr)) (fun si _ _ => yss.length - (intOf si).toNat)
    case atStart => exact ⟨0, [], none, 0, by omega, rfl, rfl, Lib.hid rfl, Lib.hid rfl, Lib.hid (fun q l h => by omega), Lib.hid (World.ownsRow_nil _ _ _ _), Lib.hid (Below.refl _ _)⟩
    case round =>
      obtain ⟨k, ck, A9, c9, hk, rfl, rfl, HCK, HE, HZ, HOr, HBr⟩ := hrel
      have HTr := Lib.hid (HT.out.later HBr.out)
      by_cases hlt : k < yss.length
      · obtain ⟨l, hl⟩ : ∃ l, yss[k]? = some l := ⟨_, List.getElem?_eq_getElem hlt⟩
        obtain ⟨aw, A5, c5, rfl, haw, hcw, hiw⟩ : ∃ aw A5 c5, A = some aw ∧ aw.block < w1.heap.size ∧ w1.cell? (aw.add k) = some (.slice A5 l.length c5) ∧ Ints w1 w1.heap.size .i64 (.slice A5 l.length c5) l := by
          obtain ⟨Aq, cq, ad, A', c', hve, e, hb, hce, hii⟩ := HV.out.at_ hl
          cases hve
          exact ⟨ad, A', c', e, hb, hce, hii⟩
        have HLE : Hid (∀ (j : Nat) (b : List Int), yss[j]? = some b → ∃ A6 c6, w1.cell? (aw.add j) = some (.slice A6 b.length c6) ∧ Ints w1 w1.heap.size .i64 (.slice A6 b.length c6) b) := Lib.hid (fun j b hj => by
          obtain ⟨Aq, cq, ad, A', c', hve, e, hb, hce, hii⟩ := HV.out.at_ hj
          cases hve
          cases e
          exact ⟨A', c', hce, hii⟩)
        have e1 := (HBr.out.cell (p := aw.add k) (by rw [block_of_add]; exact haw)).trans hcw
        have HIL := Lib.hid hiw
        have H1 := Lib.hid (refOf_any t T (.slice A5 l.length c5) l wr HTr.out.2 (HIL.out.later HBr.out))
        have HL := Lib.hid hl
        have k0 : (0 : Int) ≤ (k : Int) := by omega
        have k1 : (k : Int) < (yss.length : Int) := by omega
        clear hcw hiw hl
        obtain ⟨s, er, hs⟩ : ∃ s er, skelR T l = (s, er) := ⟨_, _, rfl⟩
        rw [hs] at H1
        by_cases h0 : er = 0
        · subst h0
          have HE2 := Lib.hid (firstE_go HL.out HE.out hs)
          have HSS := Lib.hid (skels_snoc HL.out hs)
          have HCS := Lib.hid (classes_snoc HL.out hs)
          have HSK := Lib.hid hs
          have HZ2 : Hid (∀ (q : Nat) (b : List Int), q < k + 1 → yss[q]? = some b → (skelR T b).2 = 0) := Lib.hid (fun q b hq hb => by
            rcases Nat.lt_or_ge q k with h | h
            · exact HZ.out q b h hb
            · obtain rfl : q = k := by omega
              rw [HL.out] at hb; cases hb; rw [HSK.out])
          clear hs
          have n2 : ck.length = k := by rw [HCK.out, List.length_take, classesL_length]; omega
          have HN2 := Lib.hid n2
          clear n2
          obtain ⟨x0, x1, x2, x3, x4, x5, x6, x7, x8, x9, x10, x11⟩ := HTr.out.1.tab
          go_upto_region 10 with (go_at_call 26; refine H1.out.mono ?_; rintro e w5 ⟨u5, rfl, ho5, b5⟩; obtain ⟨As, cs, rfl, _⟩ := id (Ints.of_own ho5); have HO5 := Lib.hid (own_later HOr.out b5); have HB5 := Lib.hid (below_then HBr.out (Nat.le_refl _) b5); clear ho5 b5)
          clear x0 x1 x2 x3 x4 x5 x6 x7 x8 x9 x10 x11 H1 e1 HOr HBr HTr
          have HKS := Lib.hid (KFst.start HSS.out)
          go_wp2_with fail
          go_loopw [11, 12] (fun tk tj wr => ∃ (m q0 : Nat) (z : Int), m ≤ k ∧ q0 ≤ k ∧ tk = .int .i64 q0 ∧ tj = .int .i64 z ∧ z = (m : Int) - 1 ∧ Hid (KFst (skels T yss) s m q0) ∧ Hid (wr.ownsRow w1.heap.size 3 1 (.slice A9 ck.length c9) ck.length (ck.map (Value.int .i64))) ∧ Hid (Below w1.heap.size w1 wr)) (fun _ tj _ => (intOf tj + 1).toNat)
          case atStart => exact ⟨k, k, (k : Int) - 1, Nat.le_refl _, Nat.le_refl _, rfl, by go_num, rfl, HKS, HO5, HB5⟩
          case round =>
            clear HKS HO5 HB5
            obtain ⟨m, q0, z, hm, hq0, rfl, rfl, hz, HKS, HOr, HBr⟩ := hrel
            cases m with
            | zero =>
              obtain rfl : z = -1 := by omega
              clear hz
              have hcl := KFst.done HKS.out
              have HNX : Hid ((classesL T yss).take (k + 1) = ck ++ [(q0 : Int)]) := Lib.hid (by rw [take_snoc21 HCS.out, HCK.out, hcl])
              clear hcl
              go_wp2_with (at_builtin; refine wpList_append_ints (by rfl) (.tmp 53) (.tmp 55) rfl Tryz.underlying22 hi hz0 hz1 hz2 (wr.heap.size + 1) w1.heap.size (.slice A9 ck.length c9) ck (.slice (some ⟨wr.heap.size, 0, none⟩) 1 1) [(q0 : Int)] rfl (HOr.out.alloc _) rfl (by have h := Ints.of_own (own_new wr 3 [(q0 : Int)] (by simp)); simpa using h) (by have := HN2.out; simp; omega) (by have := HBr.out.size; simp; omega) ?_; intro v6 w6 ho6 hg6 _; obtain ⟨A6, c6, rfl, _⟩ := id (Ints.of_own ho6); have HO6 := Lib.hid ho6; have HB6 := Lib.hid ((HBr.out.alloc HBr.out.size (.cells #[.int .i64 (q0 : Int)] 3)).grown hg6 (by have := HBr.out.size; simp; omega) (fun q hq => (HOr.out.lt q hq).1)); clear ho6 hg6)
              go_roundw
              case rel => exact ⟨k + 1, ck ++ [(q0 : Int)], A6, c6, by omega, by go_num, by simp, Lib.hid HNX.out.symm, HE2, HZ2, HO6, HB6⟩
              case measure => simp [intOf]; omega
            | succ m =>
              obtain rfl : z = (m : Int) := by omega
              clear hz
              obtain ⟨b, hb⟩ : ∃ b, yss[m]? = some b := ⟨_, List.getElem?_eq_getElem (by omega)⟩
              obtain ⟨A6, c6, hcb, hib⟩ := HLE.out m b hb
              have hz0' := HZ.out m b (by omega) hb
              obtain ⟨u, er, hu⟩ : ∃ u er, skelR T b = (u, er) := ⟨_, _, rfl⟩
              rw [hu] at hz0'
              simp only at hz0'
              subst hz0'
              have hsm := skels_snoc hb hu
              have hsr := sameR_ok hu HSK.out
              obtain ⟨q, hq⟩ : ∃ q, decide (u = s) = q := ⟨_, rfl⟩
              rw [hq] at hsr
              have HTr := Lib.hid (HT.out.later HBr.out)
              have HSx : Hid (∀ V, Below wr.heap.size wr V → Calls Tryz.prog 30 #[.agg #[t.c0, t.c1, t.c2, t.c3, t.c4, t.c5, t.c6, t.c7, t.c8, t.c9, t.c10, t.c11], .slice A6 b.length c6, .slice A5 l.length c5] V fun e V' => e = .returned (.tuple #[.bool q, .int .i64 0]) ∧ Below V.heap.size V V') := Lib.hid fun V hV => by
                have hbv := below_then HBr.out (Nat.le_refl _) hV
                have h := refConf_any t T (.slice A6 b.length c6) b (.slice A5 l.length c5) l V (HTr.out.later hV).2 (hib.later hbv) (HIL.out.later hbv)
                rw [hsr] at h; exact h
              have eb := cell_regrown ((HBr.out.cell (p := aw.add m) (by rw [block_of_add]; exact haw)).trans hcb)
              have HSM := Lib.hid hsm
              have m0 : (0 : Int) ≤ (m : Int) := by omega
              have m1 : (m : Int) < (yss.length : Int) := by omega
              clear hb hcb hib hsm hsr hu
              obtain ⟨x0, x1, x2, x3, x4, x5, x6, x7, x8, x9, x10, x11⟩ := HTr.out.1.tabG
              go_upto_region 14 with fail
              refine wp_region_quiet_below (by kernel_rfl) (by kernel_rfl) ?_
              repeat (go_big_quiet_step (first | (go_at_call 30; with_reducible exact quiet_t HSx.out)))
              refine wpQuiet_nil ?_
              rintro _ ⟨⟨dq, osq⟩, rfl⟩
              have bq := below_regrown wr dq osq
              have HB6 := Lib.hid (below_then HBr.out (Nat.le_refl _) bq)
              have HO6 := Lib.hid (own_later HOr.out bq)
              clear bq eb HBr HOr x0 x1 x2 x3 x4 x5 x6 x7 x8 x9 x10 x11 HSx HTr
              generalize Go.Sort.grow (redrawn wr dq) osq = w6 at *
              cases q with
              | true =>
                have he : u = s := of_decide_eq_true hq
                have HK2 : Hid (KFst (skels T yss) s m m) := Lib.hid (KFst.hit (he ▸ HSM.out))
                clear hq he
                go_wp2_with fail
                go_roundw
                case rel => exact ⟨m, m, (m : Int) - 1, by omega, by omega, rfl, by go_num, rfl, HK2, HO6, HB6⟩
                case measure => first | (simp [intOf]; done) | (simp [intOf]; omega)
              | false =>
                have HK2 : Hid (KFst (skels T yss) s m q0) := Lib.hid (KFst.go HKS.out HSM.out (of_decide_eq_false hq))
                clear hq
                go_wp2_with fail
                go_roundw
                case rel => exact ⟨m, q0, (m : Int) - 1, by omega, by omega, rfl, by go_num, rfl, HK2, HO6, HB6⟩
                case measure => first | (simp [intOf]; done) | (simp [intOf]; omega)
        · have HR := Lib.hid (HRE.out er (firstE_hit HL.out HE.out hs h0) h0)
          have hb : (er != 0) = true := by simpa using h0
          clear hs h0
          obtain ⟨x0, x1, x2, x3, x4, x5, x6, x7, x8, x9, x10, x11⟩ := HTr.out.1.tab
          go_wp2_with (go_at_call 26; refine H1.out.mono ?_; rintro e w5 ⟨u5, rfl, ho5, b5⟩; obtain ⟨As, cs, rfl, _⟩ := id (Ints.of_own ho5); have HB5 := Lib.hid (below_then HBr.out (Nat.le_refl _) b5); clear ho5 b5)
          go_ret2
          rw [HR.out]
          exact ⟨_, rfl, World.ownsRow_nil _ _ _ _, below_next HB0.out HB5.out⟩
      · have HR := Lib.hid (HRO.out (firstE_end (by omega) HE.out))
        have hck : ck = classesL T yss := by have h := HCK.out; rwa [List.take_of_length_le (by rw [classesL_length]; omega)] at h
        subst hck
        go_wp2_with fail
        go_ret2
        rw [HR.out]
        exact ⟨_, rfl, row_le HOr.out HB0.out.size, below_next HB0.out HBr.out⟩
end Go.Proofs.YtecpbicfiaifdaaGreatDoor
