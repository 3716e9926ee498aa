/-
  Merged texts: lemmas and walks that the last text of this claim leans on.
-/
import Derived.Test.YtecpbicfiaifdaaGreatDoorMgB735
import Derived.Test.YtecpbicfiaifdaaGreatDoorMgB722
import Derived.Test.YtecpbicfiaifdaaGreatDoorMgB728
import Derived.Test.YtecpbicfiaifdaaGreatDoorMgB730
/-
  The walk through the reference's Map of layer 20.
-/
namespace Go.Proofs.YtecpbicfiaifdaaGreatDoor
open Go.RowKit ND

set_option maxRecDepth 100000 in
set_option maxHeartbeats 4000000 in
theorem refSkm_any (t : Tv) (T : Tab) (v : Value) (xs : List Int) (w : World) (ht : TabR w w.heap.size t T) (hv : Ints w w.heap.size .i64 v xs) :
    Calls Tryz.prog 59 #[t.val, v] w (RetTwo w (skmR T (accE T xs) xs).1 (skmR T (accE T xs) xs).2) := by
  obtain ⟨A, c, rfl, _⟩ := id hv
  have HB0 : Hid (Below w.heap.size w (w.alloc (.cells t.cells 26))) := Lib.hid ((Below.refl _ _).alloc (Nat.le_refl _) _)
  have HT : Hid (Tbl (w.alloc (.cells t.cells 26)) w.heap.size t T) := Lib.hid ⟨Blk.new _ _ _, ht.later HB0.out⟩
  have HV := Lib.hid (hv.later HB0.out)
  clear ht hv
  have HO := Lib.hid (refAccept_any t T _ xs _ HT.out.2 HV.out)
  by_cases h0 : accE T xs = 0
  · obtain ⟨hck, hlen, _⟩ := accE_zero h0
    have hsh := shape_of hck
    have hsz := sized_of hck
    have HI : Hid (∀ (b : Nat) (W : World) (x : Int), Tbl W b t T → Calls Tryz.prog 19 #[.agg #[t.c0, t.c1, t.c2, t.c3, t.c4, t.c5, t.c6, t.c7, t.c8, t.c9, t.c10, t.c11], .int .i64 x] W (fun e W' => e = .returned (.bool (T.ignB x)) ∧ Below W.heap.size W W')) := Lib.hid fun b W x h => refIgnorable_any t T x W h.2
    have HP : Hid (∀ (b : Nat) (W : World) (x : Int), Tbl W b t T → Calls Tryz.prog 20 #[.agg #[t.c0, t.c1, t.c2, t.c3, t.c4, t.c5, t.c6, t.c7, t.c8, t.c9, t.c10, t.c11], .int .i64 x] W (RetInts W (findL T.prototypes x))) := Lib.hid fun b W x h => refPrototype_any t T x W h.2
    have HML := Lib.hid (fun x => proto_flen hck x)
    have HEF : Hid (4096 < (skelM T xs).length → skmR T (accE T xs) xs = ([], 7)) := Lib.hid (by rw [h0]; exact fun h => skmR_full h)
    have HEO : Hid ((skelM T xs).length ≤ 4096 → skmR T (accE T xs) xs = (skelM T xs, 0)) := Lib.hid (by rw [h0]; exact fun h => skmR_ok h)
    rw [h0] at HO
    generalize skmR T (accE T xs) xs = R at *
    clear h0 hck hsh hsz
    go_enter Tryz.func59, Tryz.ntmps59
    go_upto_region 1 with fail
    generalize w.alloc (.cells t.cells 26) = w1 at *
    obtain ⟨x0, x1, x2, x3, x4, x5, x6, x7, x8, x9, x10, x11⟩ := HT.out.1.tab
    go_upto_region 2 with (go_at_call 81; refine HO.out.mono ?_; rintro e w2 ⟨rfl, b2⟩)
    clear x0 x1 x2 x3 x4 x5 x6 x7 x8 x9 x10 x11
    obtain ⟨tb, htb⟩ : ∃ tb, w.heap.size = tb := ⟨_, rfl⟩
    have HT2 : Hid (Tbl w2 tb t T) := Lib.hid (htb ▸ HT.out.later b2)
    have HV2 := Lib.hid (HV.out.later b2)
    have HB2 := Lib.hid (below_next HB0.out b2)
    simp only [htb]
    clear HT HV HB0 HO b2
    obtain ⟨i0, hi, hz0, hz1, hz2⟩ := info_parts Tryz.infoInt'
    go_wp2_with fail
    go_loopw [19, 7] (fun si so wr => ∃ (k : Nat) (acc : List Int) (A9 : Option Addr) (c9 : Nat), k ≤ xs.length ∧ si = .int .i64 k ∧ so = .slice A9 acc.length c9 ∧ acc.length ≤ 18 * k ∧ Hid (acc = skelM T (xs.take k)) ∧ Hid (wr.ownsRow w2.heap.size 3 1 (.slice A9 acc.length c9) acc.length (acc.map (Value.int .i64))) ∧ Hid (Below w2.heap.size w2 wr)) (fun i _ _ => xs.length - (intOf i).toNat)
    case atStart => exact ⟨0, [], none, 0, by omega, rfl, rfl, by simp, Lib.hid rfl, Lib.hid (World.ownsRow_nil _ _ _ _), Lib.hid (Below.refl _ _)⟩
    case round =>
      obtain ⟨k, acc, A9, c9, hk, rfl, rfl, hal, HS, HOr, HBr⟩ := hrel
      by_cases hlt : k < xs.length
      · obtain ⟨x, hxk, _⟩ := get_of hlt
        obtain ⟨_, _, hve, _, _, _, hcell⟩ := HV2.out
        cases hve
        obtain ⟨ad, rfl, ha, hce⟩ := hcell k x hxk
        have e1 := (HBr.out.cell (p := ad.add k) (by rw [block_of_add]; exact ha)).trans hce
        have HX := Lib.hid hxk
        have k0 : (0 : Int) ≤ (k : Int) := by omega
        have k1 : (k : Int) < (xs.length : Int) := by omega
        have HTr := Lib.hid (HT2.out.later HBr.out)
        have HOS := Lib.hid (skelM_step (T := T) HX.out)
        have HIx := Lib.hid (fun W (h : Below wr.heap.size wr W) => HI.out tb W x (HTr.out.later h))
        have HPx := Lib.hid (fun W (h : Below wr.heap.size wr W) => HP.out tb W x (HTr.out.later h))
        have hml := HML.out x
        clear hcell hxk ha hce
        obtain ⟨ig, hig⟩ : ∃ ig, T.ignB x = ig := ⟨_, rfl⟩
        simp only [hig] at HIx
        cases ig with
        | true =>
          have HN : Hid (acc = skelM T (xs.take (k + 1))) := Lib.hid (by rw [HOS.out, proto_ign hig, List.append_nil]; exact HS.out)
          clear hig
          generalize findL T.prototypes x = ml at *
          obtain ⟨x0, x1, x2, x3, x4, x5, x6, x7, x8, x9, x10, x11⟩ := HTr.out.1.tab
          go_wp2_with (first | (go_at_call 20; refine (HPx.out _ (Below.refl _ _)).mono ?_; rintro e w5 ⟨u7, rfl, hi7, b5⟩; obtain ⟨A7, c7, rfl, _⟩ := id hi7; have HI5 := Lib.hid hi7; have HO5 := Lib.hid (own_later HOr.out b5); have HB5 := Lib.hid (below_then HBr.out (Nat.le_refl _) b5); have HT5 := Lib.hid (HTr.out.later b5); clear hi7 x0 x1 x2 x3 x4 x5 x6 x7 x8 x9 x10 x11; obtain ⟨x0, x1, x2, x3, x4, x5, x6, x7, x8, x9, x10, x11⟩ := HT5.out.1.tab) | (go_at_call 19; refine (HIx.out _ b5).mono ?_; rintro e w7 ⟨rfl, b7⟩; have HI7 := Lib.hid (HI5.out.later b7); have HO7 := Lib.hid (own_later HO5.out b7); have HB7 := Lib.hid (below_then HB5.out (Nat.le_refl _) b7); clear b7))
          go_roundw
          case rel => exact ⟨k + 1, acc, A9, c9, by omega, by go_num, rfl, by omega, HN, HO7, HB7⟩
          case measure => simp [intOf]; omega
        | false =>
          by_cases hp : findL T.prototypes x = []
          · have HN : Hid (acc ++ [x] = skelM T (xs.take (k + 1))) := Lib.hid (by rw [HOS.out, proto_none hig hp, ← HS.out])
            rw [hp] at HPx
            clear hig hp hml
            obtain ⟨x0, x1, x2, x3, x4, x5, x6, x7, x8, x9, x10, x11⟩ := HTr.out.1.tab
            go_wp2_with (first
              | (go_at_call 20; refine (HPx.out _ (Below.refl _ _)).mono ?_; rintro e w5 ⟨u7, rfl, hi7, b5⟩; obtain ⟨A7, c7, rfl, _⟩ := id hi7; have HI5 := Lib.hid hi7; have HO5 := Lib.hid (own_later HOr.out b5); have HB5 := Lib.hid (below_then HBr.out (Nat.le_refl _) b5); have HT5 := Lib.hid (HTr.out.later b5); clear hi7 x0 x1 x2 x3 x4 x5 x6 x7 x8 x9 x10 x11; obtain ⟨x0, x1, x2, x3, x4, x5, x6, x7, x8, x9, x10, x11⟩ := HT5.out.1.tab)
              | (go_at_call 19; refine (HIx.out _ b5).mono ?_; rintro e w7 ⟨rfl, b7⟩; have HI7 := Lib.hid (HI5.out.later b7); have HO7 := Lib.hid (own_later HO5.out b7); have HB7 := Lib.hid (below_then HB5.out (Nat.le_refl _) b7); clear b7)
              | (at_builtin; refine wpList_append_ints (by rfl) (.tmp 26) (.tmp 28) rfl Tryz.underlying22 hi hz0 hz1 hz2 (w7.heap.size + 1) w2.heap.size (.slice A9 acc.length c9) acc (.slice (some ⟨w7.heap.size, 0, none⟩) 1 1) [x] rfl (HO7.out.alloc _) rfl (by have h := Ints.of_own (own_new w7 3 [x] (by simp)); simpa using h) (by simp; omega) (by have := HB7.out.size; simp; omega) ?_; intro v6 w6 ho6 hg6 _; obtain ⟨A6, c6, rfl, _⟩ := id (Ints.of_own ho6); have HO6 := Lib.hid ho6; have HB6 := Lib.hid ((HB7.out.alloc HB7.out.size (.cells #[.int .i64 x] 3)).grown hg6 (by have := HB7.out.size; simp; omega) (fun q hq => (HO7.out.lt q hq).1)); clear ho6 hg6))
            go_roundw
            case rel => exact ⟨k + 1, acc ++ [x], A6, c6, by omega, by go_num, by simp, by simp; omega, HN, HO6, HB6⟩
            case measure => simp [intOf]; omega
          · have HN : Hid (acc ++ findL T.prototypes x = skelM T (xs.take (k + 1))) := Lib.hid (by rw [HOS.out, proto_some hig hp, ← HS.out])
            have gp : (0 : Int) < ((findL T.prototypes x).length : Int) := by have := List.length_pos_iff.2 hp; omega
            clear hig hp
            generalize findL T.prototypes x = ml at *
            obtain ⟨x0, x1, x2, x3, x4, x5, x6, x7, x8, x9, x10, x11⟩ := HTr.out.1.tab
            go_wp2_with (first
              | (go_at_call 20; refine (HPx.out _ (Below.refl _ _)).mono ?_; rintro e w5 ⟨u7, rfl, hi7, b5⟩; obtain ⟨A7, c7, rfl, _⟩ := id hi7; have HI5 := Lib.hid hi7; have HO5 := Lib.hid (own_later HOr.out b5); have HB5 := Lib.hid (below_then HBr.out (Nat.le_refl _) b5); have HT5 := Lib.hid (HTr.out.later b5); clear hi7 x0 x1 x2 x3 x4 x5 x6 x7 x8 x9 x10 x11; obtain ⟨x0, x1, x2, x3, x4, x5, x6, x7, x8, x9, x10, x11⟩ := HT5.out.1.tab)
              | (go_at_call 19; refine (HIx.out _ b5).mono ?_; rintro e w7 ⟨rfl, b7⟩; have HI7 := Lib.hid (HI5.out.later b7); have HO7 := Lib.hid (own_later HO5.out b7); have HB7 := Lib.hid (below_then HB5.out (Nat.le_refl _) b7); clear b7)
              | (at_builtin; refine wpList_append_ints (by rfl) (.tmp 38) (.tmp 39) rfl Tryz.underlying22 hi hz0 hz1 hz2 w7.heap.size w2.heap.size (.slice A9 acc.length c9) acc (.slice A7 ml.length c7) ml rfl HO7.out rfl HI7.out (by omega) HB7.out.size ?_; intro v6 w6 ho6 hg6 _; obtain ⟨A6, c6, rfl, _⟩ := id (Ints.of_own ho6); have HO6 := Lib.hid ho6; have HB6 := Lib.hid (HB7.out.grown hg6 HB7.out.size (fun q hq => (HO7.out.lt q hq).1)); clear ho6 hg6))
            go_roundw
            case rel => exact ⟨k + 1, acc ++ ml, A6, c6, by omega, by go_num, by simp, by simp; omega, HN, HO6, HB6⟩
            case measure => simp [intOf]; omega
      · have HA : Hid (acc = skelM T xs) := Lib.hid (by have := HS.out; rwa [List.take_of_length_le (by omega)] at this)
        by_cases hfl : 4096 < acc.length
        · have HR := Lib.hid (HEF.out (by rw [← HA.out]; exact hfl))
          have g : (4096 : Int) < (acc.length : Int) := by omega
          clear hfl
          go_wp2_with fail
          go_ret2
          rw [HR.out]
          exact ⟨_, rfl, World.ownsRow_nil _ _ _ _, below_next HB2.out HBr.out⟩
        · have HR := Lib.hid (HEO.out (by rw [← HA.out]; omega))
          rw [← HA.out] at HR
          have g : ¬ (4096 : Int) < (acc.length : Int) := by omega
          clear hfl
          go_wp2_with fail
          go_ret2
          rw [HR.out]
          exact ⟨_, rfl, row_le HOr.out HB2.out.size, below_next HB2.out HBr.out⟩
  · have HE := Lib.hid (skmR_err (T := T) (l := xs) h0)
    have hb : (accE T xs != 0) = true := by simpa using h0
    clear h0
    go_enter Tryz.func59, Tryz.ntmps59
    go_upto_region 1 with fail
    generalize w.alloc (.cells t.cells 26) = w1 at *
    obtain ⟨x0, x1, x2, x3, x4, x5, x6, x7, x8, x9, x10, x11⟩ := HT.out.1.tab
    go_wp2_with (go_at_call 81; refine HO.out.mono ?_; rintro e w2 ⟨rfl, b2⟩)
    go_ret2
    rw [HE.out]
    exact ⟨_, rfl, World.ownsRow_nil _ _ _ _, below_next HB0.out b2⟩
end Go.Proofs.YtecpbicfiaifdaaGreatDoor
/-
  The walk through the reference's Of.
-/
namespace Go.Proofs.YtecpbicfiaifdaaGreatDoor
open Go.RowKit ND

set_option maxRecDepth 100000 in
set_option maxHeartbeats 2000000 in
theorem refOf_any (t : Tv) (T : Tab) (v : Value) (xs : List Int) (w : World) (ht : TabR w w.heap.size t T) (hv : Ints w w.heap.size .i64 v xs) :
    Calls Tryz.prog 26 #[t.val, v] w (RetTwo w (skelR T xs).1 (skelR T xs).2) := by
  obtain ⟨A, c, rfl, _⟩ := id hv
  have HB0 : Hid (Below w.heap.size w (w.alloc (.cells t.cells 26))) := Lib.hid ((Below.refl _ _).alloc (Nat.le_refl _) _)
  have HT : Hid (Tbl (w.alloc (.cells t.cells 26)) w.heap.size t T) := Lib.hid ⟨Blk.new _ _ _, ht.later HB0.out⟩
  have HV := Lib.hid (hv.later HB0.out)
  clear ht hv
  have H1 := Lib.hid (refNfd_any t T _ xs _ HT.out.2 HV.out)
  obtain ⟨dl, e1, hd⟩ : ∃ dl e1, nfdR T (accE T xs) xs = (dl, e1) := ⟨_, _, rfl⟩
  rw [hd] at H1
  have H2 := Lib.hid (fun W v (h : Below (w.alloc (.cells t.cells 26)).heap.size (w.alloc (.cells t.cells 26)) W) hi => refSkm_any t T v dl W (HT.out.later h).2 hi)
  obtain ⟨ml, e2, hm⟩ : ∃ ml e2, skmR T (accE T dl) dl = (ml, e2) := ⟨_, _, rfl⟩
  rw [hm] at H2
  have H3 := Lib.hid (fun W v (h : Below (w.alloc (.cells t.cells 26)).heap.size (w.alloc (.cells t.cells 26)) W) hi => refNfd_any t T v ml W (HT.out.later h).2 hi)
  obtain ⟨rl, e3, hr⟩ : ∃ rl e3, nfdR T (accE T ml) ml = (rl, e3) := ⟨_, _, rfl⟩
  rw [hr] at H3
  by_cases h1 : e1 = 0
  · subst h1
    by_cases h2 : e2 = 0
    · subst h2
      have HR := Lib.hid ((skelR_e3 hd hm).trans hr)
      clear hd hm hr
      generalize skelR T xs = R at *
      go_enter Tryz.func26, Tryz.ntmps26
      go_upto_region 1 with fail
      generalize w.alloc (.cells t.cells 26) = w1 at *
      obtain ⟨x0, x1, x2, x3, x4, x5, x6, x7, x8, x9, x10, x11⟩ := HT.out.1.tab
      go_upto_region 2 with (go_at_call 14; refine H1.out.mono ?_; rintro e w2 ⟨u2, rfl, ho2, b2⟩; obtain ⟨A2, c2, rfl, _⟩ := id (Ints.of_own ho2); have HU2 := Lib.hid (Ints.of_own ho2); clear ho2)
      clear x0 x1 x2 x3 x4 x5 x6 x7 x8 x9 x10 x11
      obtain ⟨x0, x1, x2, x3, x4, x5, x6, x7, x8, x9, x10, x11⟩ := (HT.out.later b2).1.tab
      go_upto_region 5 with (go_at_call 59; refine (H2.out _ _ b2 HU2.out).mono ?_; rintro e w3 ⟨u3, rfl, ho3, b3⟩; obtain ⟨A3, c3, rfl, _⟩ := id (Ints.of_own ho3); have HU3 := Lib.hid (Ints.of_own ho3); have b23 := below_next b2 b3; clear ho3)
      clear x0 x1 x2 x3 x4 x5 x6 x7 x8 x9 x10 x11
      obtain ⟨x0, x1, x2, x3, x4, x5, x6, x7, x8, x9, x10, x11⟩ := (HT.out.later b23).1.tab
      go_wp2_with (go_at_call 14; refine (H3.out _ _ b23 HU3.out).mono ?_; rintro e w4 ⟨u4, rfl, ho4, b4⟩; obtain ⟨A4, c4, rfl, _⟩ := id (Ints.of_own ho4))
      go_ret2
      rw [HR.out]
      exact ⟨_, rfl, row_le ho4 (by have := HB0.out.size; have := b23.size; omega), below_next (below_next HB0.out b23) b4⟩
    · have HR := Lib.hid (skelR_e2 hd hm h2)
      have hb : (e2 != 0) = true := by simpa using h2
      clear hd hm hr h2
      generalize skelR T xs = R at *
      go_enter Tryz.func26, Tryz.ntmps26
      go_upto_region 1 with fail
      generalize w.alloc (.cells t.cells 26) = w1 at *
      obtain ⟨x0, x1, x2, x3, x4, x5, x6, x7, x8, x9, x10, x11⟩ := HT.out.1.tab
      go_upto_region 2 with (go_at_call 14; refine H1.out.mono ?_; rintro e w2 ⟨u2, rfl, ho2, b2⟩; obtain ⟨A2, c2, rfl, _⟩ := id (Ints.of_own ho2); have HU2 := Lib.hid (Ints.of_own ho2); clear ho2)
      clear x0 x1 x2 x3 x4 x5 x6 x7 x8 x9 x10 x11
      obtain ⟨x0, x1, x2, x3, x4, x5, x6, x7, x8, x9, x10, x11⟩ := (HT.out.later b2).1.tab
      go_wp2_with (go_at_call 59; refine (H2.out _ _ b2 HU2.out).mono ?_; rintro e w3 ⟨u3, rfl, ho3, b3⟩; obtain ⟨A3, c3, rfl, _⟩ := id (Ints.of_own ho3); have HU3 := Lib.hid (Ints.of_own ho3); have b23 := below_next b2 b3; clear ho3)
      go_ret2
      rw [HR.out]
      exact ⟨_, rfl, World.ownsRow_nil _ _ _ _, below_next HB0.out b23⟩
  · have HR := Lib.hid (skelR_e1 hd h1)
    have hb : (e1 != 0) = true := by simpa using h1
    clear hd hm hr h1
    generalize skelR T xs = R at *
    go_enter Tryz.func26, Tryz.ntmps26
    go_upto_region 1 with fail
    generalize w.alloc (.cells t.cells 26) = w1 at *
    obtain ⟨x0, x1, x2, x3, x4, x5, x6, x7, x8, x9, x10, x11⟩ := HT.out.1.tab
    go_wp2_with (go_at_call 14; refine H1.out.mono ?_; rintro e w2 ⟨u2, rfl, ho2, b2⟩; obtain ⟨A2, c2, rfl, _⟩ := id (Ints.of_own ho2); have HU2 := Lib.hid (Ints.of_own ho2); clear ho2)
    go_ret2
    rw [HR.out]
    exact ⟨_, rfl, World.ownsRow_nil _ _ _ _, below_next HB0.out b2⟩
end Go.Proofs.YtecpbicfiaifdaaGreatDoor
/-
  The walks through the reference's Differ and Confusable.
-/
namespace Go.Proofs.YtecpbicfiaifdaaGreatDoor
open Go.RowKit ND

theorem sameR_differ (T : Tab) (a b : List Int) : sameR T a b = ((differR T a b).2 == 0 && ((differR T a b).1 == -1), (differR T a b).2) := by
  unfold sameR differR
  by_cases h : bothE T a b = 0
  · rw [if_neg (by omega), h]
    have h3 := differL_neg (skelR T a).1 (skelR T b).1
    by_cases he : (skelR T a).1 = (skelR T b).1
    · rw [h3.2 he, decide_eq_true he]; rfl
    · have : (differL (skelR T a).1 (skelR T b).1 == -1) = false := beq_eq_false_iff_ne.2 fun e => he (h3.1 e)
      rw [decide_eq_false he, this]
  · rw [if_pos h]
    have : (bothE T a b == 0) = false := by simpa using h
    rw [this]; rfl
set_option maxRecDepth 100000 in
set_option maxHeartbeats 4000000 in
theorem refDiffer_any (t : Tv) (T : Tab) (v : Value) (xs : List Int) (u : Value) (us : List Int) (w : World) (ht : TabR w w.heap.size t T) (hv : Ints w w.heap.size .i64 v xs) (hu : Ints w w.heap.size .i64 u us) :
    Calls Tryz.prog 62 #[t.val, v, u] w fun e w' => e = .returned (.tuple #[.int .i64 (differR T xs us).1, .int .i64 (differR T xs us).2]) ∧ Below w.heap.size w w' := by
  obtain ⟨A, c, rfl, _⟩ := id hv
  obtain ⟨A', c', rfl, _⟩ := id hu
  have HB0 : Hid (Below w.heap.size w (w.alloc (.cells t.cells 26))) := Lib.hid ((Below.refl _ _).alloc (Nat.le_refl _) _)
  have HT : Hid (Tbl (w.alloc (.cells t.cells 26)) w.heap.size t T) := Lib.hid ⟨Blk.new _ _ _, ht.later HB0.out⟩
  have HV := Lib.hid (hv.later HB0.out)
  have HU := Lib.hid (hu.later HB0.out)
  clear ht hv hu
  have H1 := Lib.hid (refOf_any t T _ xs _ HT.out.2 HV.out)
  obtain ⟨x, e1, hd⟩ : ∃ x e1, skelR T xs = (x, e1) := ⟨_, _, rfl⟩
  rw [hd] at H1
  have H2 := Lib.hid (fun W (h : Below (w.alloc (.cells t.cells 26)).heap.size (w.alloc (.cells t.cells 26)) W) => refOf_any t T _ us W (HT.out.later h).2 (HU.out.later h))
  obtain ⟨y, e2, hm⟩ : ∃ y e2, skelR T us = (y, e2) := ⟨_, _, rfl⟩
  rw [hm] at H2
  by_cases h1 : e1 = 0
  · subst h1
    by_cases h2 : e2 = 0
    · subst h2
      have hR : differR T xs us = (diffGo 0 x y, 0) := by
        rcases differR_of (bothR_3 hd hm) with ⟨h, _⟩ | ⟨_, h⟩
        · exact absurd rfl h
        · exact h
      have HR := Lib.hid hR
      obtain ⟨D, hD⟩ : ∃ D, diffGo 0 x y = D := ⟨_, rfl⟩
      have hneg := diffGo_neg x y 0
      rw [hD] at HR hneg
      have HD : Hid (diffGo 0 (x.drop 0) (y.drop 0) = D) := Lib.hid hD
      clear hd hm hR hD
      generalize differR T xs us = R at *
      obtain ⟨q, hq⟩ : ∃ q, decide (x = y) = q := ⟨_, rfl⟩
      have HSM := Lib.hid (fun v u w hv hu => refSame_any v u x y w hv hu)
      rw [hq] at HSM
      cases q with
      | true =>
        have hDD : D = -1 := hneg.2 (of_decide_eq_true hq)
        subst hDD
        clear hneg hq
        go_enter Tryz.func62, Tryz.ntmps62
        go_upto_region 1 with fail
        generalize w.alloc (.cells t.cells 26) = w1 at *
        obtain ⟨x0, x1, x2, x3, x4, x5, x6, x7, x8, x9, x10, x11⟩ := HT.out.1.tab
        go_upto_region 4 with (go_at_call 26; refine H1.out.mono ?_; rintro e w2 ⟨u2, rfl, ho2, b2⟩; obtain ⟨A2, c2, rfl, _⟩ := id (Ints.of_own ho2); have HU2 := Lib.hid (Ints.of_own ho2); clear ho2)
        clear x0 x1 x2 x3 x4 x5 x6 x7 x8 x9 x10 x11
        obtain ⟨x0, x1, x2, x3, x4, x5, x6, x7, x8, x9, x10, x11⟩ := (HT.out.later b2).1.tab
        go_upto_region 7 with (go_at_call 26; refine (H2.out _ b2).mono ?_; rintro e w3 ⟨u3, rfl, ho3, b3⟩; obtain ⟨A3, c3, rfl, _⟩ := id (Ints.of_own ho3); have HU3 := Lib.hid (Ints.of_own ho3); have HX3 := Lib.hid (HU2.out.later b3); have b23 := below_next b2 b3; clear ho3)
        clear x0 x1 x2 x3 x4 x5 x6 x7 x8 x9 x10 x11
        go_wp2_with (go_at_call 54; refine (HSM.out _ _ _ HX3.out HU3.out).mono ?_; rintro e w4 ⟨rfl, b4⟩)
        go_ret2
        rw [HR.out]
        exact ⟨rfl, below_next (below_next HB0.out b23) b4⟩
      | false =>
        have HDN := Lib.hid (show D ≠ -1 from fun h => of_decide_eq_false hq (hneg.1 h))
        clear hneg hq
        go_enter Tryz.func62, Tryz.ntmps62
        go_upto_region 1 with fail
        generalize w.alloc (.cells t.cells 26) = w1 at *
        obtain ⟨x0, x1, x2, x3, x4, x5, x6, x7, x8, x9, x10, x11⟩ := HT.out.1.tab
        go_upto_region 4 with (go_at_call 26; refine H1.out.mono ?_; rintro e w2 ⟨u2, rfl, ho2, b2⟩; obtain ⟨A2, c2, rfl, _⟩ := id (Ints.of_own ho2); have HU2 := Lib.hid (Ints.of_own ho2); clear ho2)
        clear x0 x1 x2 x3 x4 x5 x6 x7 x8 x9 x10 x11
        obtain ⟨x0, x1, x2, x3, x4, x5, x6, x7, x8, x9, x10, x11⟩ := (HT.out.later b2).1.tab
        go_upto_region 7 with (go_at_call 26; refine (H2.out _ b2).mono ?_; rintro e w3 ⟨u3, rfl, ho3, b3⟩; obtain ⟨A3, c3, rfl, _⟩ := id (Ints.of_own ho3); have HU3 := Lib.hid (Ints.of_own ho3); have HX3 := Lib.hid (HU2.out.later b3); have b23 := below_next b2 b3; clear ho3)
        clear x0 x1 x2 x3 x4 x5 x6 x7 x8 x9 x10 x11
        go_upto_region 9 with (go_at_call 54; refine (HSM.out _ _ _ HX3.out HU3.out).mono ?_; rintro e w4 ⟨rfl, b4⟩)
        have HX4 := Lib.hid (HX3.out.later b4)
        have HY4 := Lib.hid (HU3.out.later b4)
        have HB4 := Lib.hid (below_next (below_next HB0.out b23) b4)
        have l1 : x.length ≤ 9223372036854775807 := by
          obtain ⟨_, _, e, h1, h2, _⟩ := HX4.out
          unfold maxLen at h2; cases e; omega
        clear b23 b4 b2 b3 HX3 HU3 HU2 HSM HB0 HT HV HU H1 H2
        go_wp2_with fail
        go_loopw [11] (fun si wr => ∃ (j : Nat), j ≤ x.length ∧ j ≤ y.length ∧ si = .int .i64 j ∧ Hid (diffGo j (x.drop j) (y.drop j) = D) ∧ Hid (Below w4.heap.size w4 wr)) (fun si _ => x.length - (intOf si).toNat)
        case atStart => exact ⟨0, by omega, by omega, rfl, HD, Lib.hid (Below.refl _ _)⟩
        case round =>
          clear HD
          obtain ⟨j, hj, hj2, rfl, HS, HBr⟩ := hrel
          by_cases hx : j < x.length
          · by_cases hy : j < y.length
            · obtain ⟨xj, hxj⟩ : ∃ z, x[j]? = some z := ⟨_, List.getElem?_eq_getElem hx⟩
              obtain ⟨yj, hyj⟩ : ∃ z, y[j]? = some z := ⟨_, List.getElem?_eq_getElem hy⟩
              obtain ⟨_, _, hve, _, _, _, hcx⟩ := HX4.out
              cases hve
              obtain ⟨_, _, hvf, _, _, _, hcy⟩ := HY4.out
              cases hvf
              obtain ⟨ax, rfl, hax, hdx⟩ := hcx j xj hxj
              obtain ⟨ay, rfl, hay, hdy⟩ := hcy j yj hyj
              have ex := cell_regrown ((HBr.out.cell (p := ax.add j) (by rw [block_of_add]; exact hax)).trans hdx)
              have ey := cell_regrown ((HBr.out.cell (p := ay.add j) (by rw [block_of_add]; exact hay)).trans hdy)
              have j0 : (0 : Int) ≤ (j : Int) := by omega
              have j1 : (j : Int) < (x.length : Int) := by omega
              have j2 : (j : Int) < (y.length : Int) := by omega
              have hon := diff_on hxj hyj
              rw [HS.out] at hon
              have HON := Lib.hid hon
              clear hcx hcy hxj hyj hdx hdy hax hay hon
              go_upto_region 10 with fail
              refine wp_region_quiet_below (by kernel_rfl) (by kernel_rfl) ?_
              repeat (go_big_quiet_step (fail))
              refine wpQuiet_nil ?_
              rintro _ ⟨⟨dq, osq⟩, rfl⟩
              have bq := below_regrown wr dq osq
              have HB5 := Lib.hid (below_then HBr.out (Nat.le_refl _) bq)
              clear bq ex ey HBr
              generalize Go.Sort.grow (redrawn wr dq) osq = w5 at *
              by_cases hxy : xj = yj
              · have hz : (xj == yj) = true := beq_iff_eq.2 hxy
                have HN : Hid (diffGo (j + 1) (x.drop (j + 1)) (y.drop (j + 1)) = D) := Lib.hid (by have h := HON.out; rw [if_pos hxy] at h; exact h.symm)
                clear hxy
                go_wp2_with fail
                go_roundw
                case rel => exact ⟨j + 1, by omega, by omega, by go_num, HN, HB5⟩
                case measure => simp [intOf]; omega
              · have hz : (xj == yj) = false := by simpa using hxy
                have HN : Hid (D = (j : Int)) := Lib.hid (by have h := HON.out; rw [if_neg hxy] at h; exact h)
                clear hxy
                go_wp2_with fail
                go_ret2
                rw [HR.out, HN.out]
                exact ⟨rfl, below_next HB4.out HB5.out⟩
            · have hend := diff_end (x := x) (y := y) (i := j) (by omega) (by omega) (by omega)
              rw [HS.out] at hend
              have HN : Hid (D = (j : Int)) := Lib.hid (by
                split at hend
                · exact absurd hend HDN.out
                · exact hend)
              have j1 : (j : Int) < (x.length : Int) := by omega
              have j2 : ¬ (j : Int) < (y.length : Int) := by omega
              clear hend
              go_upto_region 10 with fail
              refine wp_region_quiet_below (by kernel_rfl) (by kernel_rfl) ?_
              repeat (go_big_quiet_step (fail))
              refine wpQuiet_nil ?_
              rintro _ ⟨⟨dq, osq⟩, rfl⟩
              have bq := below_regrown wr dq osq
              have HB5 := Lib.hid (below_then HBr.out (Nat.le_refl _) bq)
              clear bq HBr
              generalize Go.Sort.grow (redrawn wr dq) osq = w5 at *
              go_wp2_with fail
              go_ret2
              rw [HR.out, HN.out]
              exact ⟨rfl, below_next HB4.out HB5.out⟩
          · have hend := diff_end (x := x) (y := y) (i := j) (by omega) (by omega) (by omega)
            rw [HS.out] at hend
            have HN : Hid (D = (j : Int)) := Lib.hid (by
              split at hend
              · exact absurd hend HDN.out
              · exact hend)
            have j1 : ¬ (j : Int) < (x.length : Int) := by omega
            clear hend
            go_upto_region 10 with fail
            refine wp_region_quiet_below (by kernel_rfl) (by kernel_rfl) ?_
            repeat (go_big_quiet_step (fail))
            refine wpQuiet_nil ?_
            rintro _ ⟨⟨dq, osq⟩, rfl⟩
            have bq := below_regrown wr dq osq
            have HB5 := Lib.hid (below_then HBr.out (Nat.le_refl _) bq)
            clear bq HBr
            generalize Go.Sort.grow (redrawn wr dq) osq = w5 at *
            go_wp2_with fail
            go_ret2
            rw [HR.out, HN.out]
            exact ⟨rfl, below_next HB4.out HB5.out⟩
    · have hR : differR T xs us = (0, e2) := by
        rcases differR_of (bothR_2 hd hm h2) with ⟨_, h⟩ | ⟨h, _⟩
        · exact h
        · exact absurd h h2
      have HR := Lib.hid hR
      have hb : (e2 != 0) = true := by simpa using h2
      clear hd hm hR h2
      generalize differR T xs us = R at *
      go_enter Tryz.func62, Tryz.ntmps62
      go_upto_region 1 with fail
      generalize w.alloc (.cells t.cells 26) = w1 at *
      obtain ⟨x0, x1, x2, x3, x4, x5, x6, x7, x8, x9, x10, x11⟩ := HT.out.1.tab
      go_upto_region 4 with (go_at_call 26; refine H1.out.mono ?_; rintro e w2 ⟨u2, rfl, ho2, b2⟩; obtain ⟨A2, c2, rfl, _⟩ := id (Ints.of_own ho2); have HU2 := Lib.hid (Ints.of_own ho2); clear ho2)
      clear x0 x1 x2 x3 x4 x5 x6 x7 x8 x9 x10 x11
      obtain ⟨x0, x1, x2, x3, x4, x5, x6, x7, x8, x9, x10, x11⟩ := (HT.out.later b2).1.tab
      go_wp2_with (go_at_call 26; refine (H2.out _ b2).mono ?_; rintro e w3 ⟨u3, rfl, ho3, b3⟩; obtain ⟨A3, c3, rfl, _⟩ := id (Ints.of_own ho3); have HU3 := Lib.hid (Ints.of_own ho3); have HX3 := Lib.hid (HU2.out.later b3); have b23 := below_next b2 b3; clear ho3)
      go_ret2
      rw [HR.out]
      exact ⟨rfl, below_next HB0.out b23⟩
  · have hR : differR T xs us = (0, e1) := by
      rcases differR_of (bothR_1 (b := us) hd h1) with ⟨_, h⟩ | ⟨h, _⟩
      · exact h
      · exact absurd h h1
    have HR := Lib.hid hR
    have hb : (e1 != 0) = true := by simpa using h1
    clear hd hm hR h1
    generalize differR T xs us = R at *
    go_enter Tryz.func62, Tryz.ntmps62
    go_upto_region 1 with fail
    generalize w.alloc (.cells t.cells 26) = w1 at *
    obtain ⟨x0, x1, x2, x3, x4, x5, x6, x7, x8, x9, x10, x11⟩ := HT.out.1.tab
    go_wp2_with (go_at_call 26; refine H1.out.mono ?_; rintro e w2 ⟨u2, rfl, ho2, b2⟩; obtain ⟨A2, c2, rfl, _⟩ := id (Ints.of_own ho2); have HU2 := Lib.hid (Ints.of_own ho2); clear ho2)
    go_ret2
    rw [HR.out]
    exact ⟨rfl, below_next HB0.out b2⟩

set_option maxRecDepth 100000 in
set_option maxHeartbeats 1000000 in
theorem refConf_any (t : Tv) (T : Tab) (v : Value) (xs : List Int) (u : Value) (us : List Int) (w : World) (ht : TabR w w.heap.size t T) (hv : Ints w w.heap.size .i64 v xs) (hu : Ints w w.heap.size .i64 u us) :
    Calls Tryz.prog 30 #[t.val, v, u] w fun e w' => e = .returned (.tuple #[.bool (sameR T xs us).1, .int .i64 (sameR T xs us).2]) ∧ Below w.heap.size w w' := by
  obtain ⟨A, c, rfl, _⟩ := id hv
  obtain ⟨A', c', rfl, _⟩ := id hu
  have HB0 : Hid (Below w.heap.size w (w.alloc (.cells t.cells 26))) := Lib.hid ((Below.refl _ _).alloc (Nat.le_refl _) _)
  have HT : Hid (Tbl (w.alloc (.cells t.cells 26)) w.heap.size t T) := Lib.hid ⟨Blk.new _ _ _, ht.later HB0.out⟩
  have HV := Lib.hid (hv.later HB0.out)
  have HU := Lib.hid (hu.later HB0.out)
  clear ht hv hu
  have H1 := Lib.hid (refDiffer_any t T _ xs _ us _ HT.out.2 HV.out HU.out)
  have hs := sameR_differ T xs us
  obtain ⟨D, er, hd⟩ : ∃ D er, differR T xs us = (D, er) := ⟨_, _, rfl⟩
  rw [hd] at H1 hs
  have HR := Lib.hid hs
  clear hs hd
  generalize sameR T xs us = R at *
  by_cases h0 : er = 0
  · have hb : (er == 0) = true := beq_iff_eq.2 h0
    clear h0
    go_enter Tryz.func30, Tryz.ntmps30
    go_upto_region 1 with fail
    generalize w.alloc (.cells t.cells 26) = w1 at *
    obtain ⟨x0, x1, x2, x3, x4, x5, x6, x7, x8, x9, x10, x11⟩ := HT.out.1.tab
    go_wp2_with (go_at_call 62; refine H1.out.mono ?_; rintro e w2 ⟨rfl, b2⟩)
    go_ret2
    rw [HR.out]
    exact ⟨by simp [hb], below_next HB0.out b2⟩
  · have hb : (er == 0) = false := by simpa using h0
    clear h0
    go_enter Tryz.func30, Tryz.ntmps30
    go_upto_region 1 with fail
    generalize w.alloc (.cells t.cells 26) = w1 at *
    obtain ⟨x0, x1, x2, x3, x4, x5, x6, x7, x8, x9, x10, x11⟩ := HT.out.1.tab
    go_wp2_with (go_at_call 62; refine H1.out.mono ?_; rintro e w2 ⟨rfl, b2⟩)
    go_ret2
    rw [HR.out]
    exact ⟨by simp [hb], below_next HB0.out b2⟩
end Go.Proofs.YtecpbicfiaifdaaGreatDoor
/-
  The classes of short sequences, in plain Lean.
-/
namespace Go.Proofs.YtecpbicfiaifdaaGreatDoor
open Go.RowKit ND

/-- What the classes of short sequences are. -/
structure ClsOk (T : Tab) (yss : List (List Int)) (cl : List Int) : Prop where
  len : cl.length = yss.length
  cls : ∀ i : Nat, i < yss.length → ∃ n : Nat, cl[i]? = some (n : Int) ∧ n ≤ i ∧ cl[n]? = some (n : Int)
  same : ∀ (i k : Nat) (a b : List Int), yss[i]? = some a → yss[k]? = some b → ∃ x y : Int, ∃ q : Bool, cl[i]? = some x ∧ cl[k]? = some y ∧ sameR T a b = (q, 0) ∧ (x == y) = q
theorem classes_short {T : Tab} (h : T.check = 0) {yss : List (List Int)} (hl : yss.length ≤ 6) (hy : ∀ ys ∈ yss, ys.length ≤ 3 ∧ ys.all scalarB = true) : classesR T yss = (classesL T yss, 0) ∧ ClsOk T yss (classesL T yss) := by
  have hs : ∀ ys ∈ yss, skelR T ys = (skelL T ys, 0) := fun ys hm => skelR_short h (hy ys hm).2 (by have := (hy ys hm).1; omega)
  have e0 : firstE T yss = 0 := firstE_zero.2 fun l hm => by rw [hs l hm]
  refine ⟨classesR_ok (by omega) e0, classesL_length T yss, fun i hi => ?_, fun i k a b ha hb => ?_⟩
  · obtain ⟨l, hl2⟩ : ∃ l, yss[i]? = some l := ⟨_, List.getElem?_eq_getElem hi⟩
    obtain ⟨h1, h2, _⟩ := firstI_spec (skels_at (T := T) hl2)
    refine ⟨firstI (skelR T l).1 0 (skels T yss), classesL_at hl2, h1, ?_⟩
    obtain ⟨l3, hl3⟩ : ∃ l3, yss[firstI (skelR T l).1 0 (skels T yss)]? = some l3 := ⟨_, List.getElem?_eq_getElem (by omega)⟩
    have h3 := skels_at (T := T) hl3
    rw [h2] at h3
    have h4 := classesL_at (T := T) hl3
    rw [← Option.some.inj h3] at h4
    rw [h4]; rfl
  · refine ⟨_, _, decide ((skelR T a).1 = (skelR T b).1), classesL_at ha, classesL_at hb, ?_, ?_⟩
    · have h1 := hs a (List.mem_of_getElem? ha)
      have h2 := hs b (List.mem_of_getElem? hb)
      unfold sameR bothE
      rw [h1, h2]; simp
    · have h3 := classOfI_eq (skels_at (T := T) ha) (skels_at (T := T) hb)
      by_cases he : (skelR T a).1 = (skelR T b).1
      · rw [decide_eq_true he, beq_iff_eq]; exact h3.2 he
      · rw [decide_eq_false he, beq_eq_false_iff_ne]; exact fun e => he (h3.1 e)
end Go.Proofs.YtecpbicfiaifdaaGreatDoor
/-
  The first twins of short sequences, in plain Lean.
-/
namespace Go.Proofs.YtecpbicfiaifdaaGreatDoor
open Go.RowKit ND

/-- What Twins finds in short sequences, and whether two are confusable. -/
structure TwnOk (T : Tab) (yss ss : List (List Int)) (R : Int × Int × Bool) : Prop where
  at_ : ∀ (i : Nat) (l : List Int), yss[i]? = some l → ∃ s, ss[i]? = some s
  same : ∀ (i k : Nat) (a b s u : List Int), yss[i]? = some a → yss[k]? = some b → ss[i]? = some s → ss[k]? = some u → sameR T a b = (decide (s = u), 0)
  hit : ∀ (a b : Nat) (s : List Int), ss[a]? = some s → ss[b]? = some s → a < b → (∀ (q r : Nat) (x y : List Int), q < r → r < b → ss[q]? = some x → ss[r]? = some y → x ≠ y) → (∀ (q : Nat) (x : List Int), q < a → ss[q]? = some x → x ≠ s) → R = ((a : Int), (b : Int), true)
  none_ : (∀ (q r : Nat) (x y : List Int), q < r → r < yss.length → ss[q]? = some x → ss[r]? = some y → x ≠ y) → R = (0, 0, false)
theorem twins_short {T : Tab} (h : T.check = 0) {yss : List (List Int)} (hl : yss.length ≤ 6) (hy : ∀ ys ∈ yss, ys.length ≤ 3 ∧ ys.all scalarB = true) : TwnOk T yss (skels T yss) (twinsR T yss) := by
  have hs : ∀ ys ∈ yss, skelR T ys = (skelL T ys, 0) := fun ys hm => skelR_short h (hy ys hm).2 (by have := (hy ys hm).1; omega)
  have hc : twinsR T yss = twinsGo 0 (classesL T yss) := by unfold twinsR; rw [(classes_short h hl hy).1]
  have cat : ∀ (k : Nat) (s : List Int), (skels T yss)[k]? = some s → (classesL T yss)[k]? = some (classOfI (skels T yss) s) := fun k s hk => by
    obtain ⟨l, hl⟩ : ∃ l, yss[k]? = some l := ⟨_, List.getElem?_eq_getElem (by have := (List.getElem?_eq_some_iff.1 hk).1; rw [skels_length] at this; exact this)⟩
    have h1 := skels_at (T := T) hl
    rw [hk] at h1
    rw [Option.some.inj h1]
    exact classesL_at hl
  have cself : ∀ (k : Nat) (s : List Int), (skels T yss)[k]? = some s → (∀ (q : Nat) (x : List Int), q < k → (skels T yss)[q]? = some x → x ≠ s) → classOfI (skels T yss) s = (k : Int) := fun k s hk hn => by
    unfold classOfI
    rw [firstI_at hk hn]
  refine ⟨fun i l hi => ⟨_, skels_at hi⟩, fun i k a b s u ha hb hsa hsb => ?_, fun a b s hsa hsb hab h1 h2 => ?_, fun h1 => ?_⟩
  · have e1 := hs a (List.mem_of_getElem? ha)
    have e2 := hs b (List.mem_of_getElem? hb)
    have f1 := skels_at (T := T) ha
    have f2 := skels_at (T := T) hb
    rw [hsa, e1] at f1
    rw [hsb, e2] at f2
    rw [Option.some.inj f1, Option.some.inj f2]
    unfold sameR bothE
    rw [e1, e2]; simp
  · rw [hc]
    have hb := cat b s hsb
    rw [cself a s hsa h2] at hb
    have := twins_hit (cl := classesL T yss) b 0 hb (Nat.zero_le _) (by omega) fun k x _ hk hx => ?_
    · simpa using this
    · obtain ⟨y, hyk⟩ : ∃ y, (skels T yss)[k]? = some y := ⟨_, List.getElem?_eq_getElem (by have := (List.getElem?_eq_some_iff.1 hsb).1; omega)⟩
      have hck := cat k y hyk
      rw [cself k y hyk fun q z hq hz => h1 q k z y hq hk hz hyk, hx] at hck
      have := Option.some.inj hck
      omega
  · rw [hc]
    have := twins_none (cl := classesL T yss) _ 0 rfl fun k x _ hx => ?_
    · simpa using this
    · have hk : k < yss.length := by have := (List.getElem?_eq_some_iff.1 hx).1; rw [classesL_length] at this; exact this
      obtain ⟨y, hyk⟩ : ∃ y, (skels T yss)[k]? = some y := ⟨_, List.getElem?_eq_getElem (by rw [skels_length]; exact hk)⟩
      have hck := cat k y hyk
      rw [cself k y hyk fun q z hq hz => h1 q k z y hq hk hz hyk, hx] at hck
      have := Option.some.inj hck
      omega
end Go.Proofs.YtecpbicfiaifdaaGreatDoor
