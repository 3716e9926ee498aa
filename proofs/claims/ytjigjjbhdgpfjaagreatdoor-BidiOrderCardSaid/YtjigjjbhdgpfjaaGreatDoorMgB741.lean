/-
  Merged texts: lemmas and walks that the last text of this claim leans on.
-/
import Derived.Test.YtjigjjbhdgpfjaaGreatDoorMgB740
import Derived.Test.YtjigjjbhdgpfjaaGreatDoorMgB724
import Derived.Test.YtjigjjbhdgpfjaaGreatDoorMgB732
import Derived.Test.YtjigjjbhdgpfjaaGreatDoorMgB721
import Derived.Test.YtjigjjbhdgpfjaaGreatDoorMgB75
import Derived.Test.YtjigjjbhdgpfjaaGreatDoorMgB710
import Derived.Test.YtjigjjbhdgpfjaaGreatDoorMgB735
/-
  The walk through Domain of package bidi.
-/
namespace Go.Proofs.YtjigjjbhdgpfjaaGreatDoor
open Go.RowKit ND

set_option maxRecDepth 100000 in
set_option maxHeartbeats 4000000 in
theorem domain_any (t : Tv) (T : Tab) (v : Value) (ls : List (List Int)) (w : World) (ht : TabR w w.heap.size t T) (hg : Glob w) (hv : Lists w w.heap.size v ls) :
    Calls Tryz.prog 17 #[t.val, v] w fun e w' => e = .returned (.tuple #[.int .i64 (domR T ls).1, .int .i64 (domR T ls).2]) ∧ Below w.heap.size w w' := by
  obtain ⟨A, c, rfl, _⟩ := id hv
  have HB0 : Hid (Below w.heap.size w (w.alloc (.cells t.cells 26))) := Lib.hid ((Below.refl _ _).alloc (Nat.le_refl _) _)
  have HT : Hid (Tbl (w.alloc (.cells t.cells 26)) w.heap.size t T) := Lib.hid ⟨Blk.new _ _ _, ht.later HB0.out⟩
  have HV := Lib.hid (hv.later HB0.out)
  have HG := Lib.hid (hg.later HB0.out)
  clear ht hv hg
  go_enter Tryz.func17, Tryz.ntmps17
  go_upto_region 1 with fail
  generalize w.alloc (.cells t.cells 26) = w1 at *
  obtain ⟨tb, htb⟩ : ∃ tb, w.heap.size = tb := ⟨_, rfl⟩
  rw [htb] at HT
  simp only [htb]
  have hml : ls.length ≤ 9223372036854775807 := by obtain ⟨_, _, _, h1, h2, _⟩ := HV.out; unfold maxLen at h2; omega
  have HFA : Hid (∀ r, firstA T 0 ls = some r → domR T ls = r) := Lib.hid fun r h => domR_some h
  have HFN : Hid (firstA T 0 ls = none → domR T ls = if ls.any (fun l => anyB T l [1, 2, 3]) = true then rulesGo T 0 ls else (0, 0)) := Lib.hid domR_none
  go_wp2_with fail
  go_loopw [15, 6] (fun si s6 wr => ∃ (k : Nat) (b : Bool), k ≤ ls.length ∧ si = .int .i64 k ∧ s6 = .bool b ∧ Hid (b = (ls.take k).any (fun l => anyB T l [1, 2, 3]) ∧ firstA T k (ls.drop k) = firstA T 0 ls) ∧ Hid (Below w1.heap.size w1 wr)) (fun si _ _ => ls.length - (intOf si).toNat)
  case atStart => exact ⟨0, false, by omega, rfl, rfl, Lib.hid ⟨rfl, rfl⟩, Lib.hid (Below.refl _ _)⟩
  case round =>
    obtain ⟨k, b, hk, rfl, rfl, HS, HBr⟩ := hrel
    by_cases hlt : k < ls.length
    · obtain ⟨x, hxk⟩ : ∃ x, ls[k]? = some x := ⟨_, List.getElem?_eq_getElem hlt⟩
      obtain ⟨A0, cc0, ad, A', c', hve, rfl, ha, hce, hil⟩ := HV.out.at_ hxk
      cases hve
      have e1 := (HBr.out.cell (p := ad.add k) (by rw [block_of_add]; exact ha)).trans hce
      have HIL := Lib.hid (hil.below HBr.out |>.more HBr.out.size)
      have k0 : (0 : Int) ≤ (k : Int) := by omega
      have k1 : (k : Int) < (ls.length : Int) := by omega
      have HTr := Lib.hid (HT.out.later HBr.out)
      have HGr := Lib.hid (HG.out.later HBr.out)
      have HO := Lib.hid (order_any t T _ x _ HTr.out.2 HGr.out HIL.out)
      have HST := Lib.hid (firstA_step (T := T) hxk)
      have HTK := Lib.hid (take_any (p := fun l => anyB T l [1, 2, 3]) hxk)
      have HRT := Lib.hid (fun W (h : Below wr.heap.size wr W) => rtl_any t T _ x W (HTr.out.later h).2 (HGr.out.later h) (HIL.out.later h))
      clear hxk ha hce hil
      by_cases h0 : accE T x = 0
      · have HRB : Hid (rtlR T x = anyB T x [1, 2, 3]) := Lib.hid (by unfold rtlR; rw [h0]; rfl)
        have HN1 : Hid (firstA T (k + 1) (ls.drop (k + 1)) = firstA T 0 ls) := Lib.hid (by rw [← HS.out.2, HST.out, if_neg (by omega)])
        rw [h0] at HO
        rw [HRB.out] at HRT
        clear h0
        generalize ordL T x = ol at *
        cases b with
        | true =>
          have HN : Hid (true = (ls.take (k + 1)).any (fun l => anyB T l [1, 2, 3])) := Lib.hid (by rw [HTK.out, ← HS.out.1]; rfl)
          obtain ⟨x0, x1, x2, x3, x4, x5, x6, x7, x8, x9, x10, x11⟩ := HTr.out.1.tab
          go_wp2_with (go_at_call 34; refine HO.out.mono ?_; rintro e w3 ⟨u2, rfl, ho2, b3⟩; obtain ⟨A2, c2, rfl, _⟩ := id (Ints.of_own ho2); clear ho2)
          go_roundw
          case rel => exact ⟨k + 1, true, by omega, by go_num, rfl, Lib.hid ⟨HN.out, HN1.out⟩, Lib.hid (below_then HBr.out (Nat.le_refl _) b3)⟩
          case measure => simp [intOf]; omega
        | false =>
          have HN : Hid (anyB T x [1, 2, 3] = (ls.take (k + 1)).any (fun l => anyB T l [1, 2, 3])) := Lib.hid (by rw [HTK.out, ← HS.out.1]; rfl)
          clear HRB HTK HST
          generalize anyB T x [1, 2, 3] = bx at *
          obtain ⟨x0, x1, x2, x3, x4, x5, x6, x7, x8, x9, x10, x11⟩ := HTr.out.1.tab
          go_upto_region 8 with (go_at_call 34; refine HO.out.mono ?_; rintro e w3 ⟨u2, rfl, ho2, b3⟩; obtain ⟨A2, c2, rfl, _⟩ := id (Ints.of_own ho2); clear ho2)
          clear x0 x1 x2 x3 x4 x5 x6 x7 x8 x9 x10 x11
          obtain ⟨x0, x1, x2, x3, x4, x5, x6, x7, x8, x9, x10, x11⟩ := (HTr.out.later b3).1.tab
          go_wp2_with (go_at_call 40; refine (HRT.out _ b3).mono ?_; rintro e w4 ⟨rfl, b4⟩)
          go_roundw
          case rel => exact ⟨k + 1, bx, by omega, by go_num, rfl, Lib.hid ⟨HN.out, HN1.out⟩, Lib.hid (below_then HBr.out (Nat.le_refl _) (below_next b3 b4))⟩
          case measure => simp [intOf]; omega
      · have HE : Hid (domR T ls = ((k : Int), accE T x)) := Lib.hid (HFA.out _ (by rw [← HS.out.2, HST.out, if_pos h0]))
        have hb : (accE T x != 0) = true := by simpa using h0
        clear h0 HST HTK HRT
        generalize ordL T x = ol at *
        generalize accE T x = er at *
        obtain ⟨x0, x1, x2, x3, x4, x5, x6, x7, x8, x9, x10, x11⟩ := HTr.out.1.tab
        go_wp2_with (go_at_call 34; refine HO.out.mono ?_; rintro e w3 ⟨u2, rfl, ho2, b3⟩; obtain ⟨A2, c2, rfl, _⟩ := id (Ints.of_own ho2); clear ho2)
        go_ret2
        rw [HE.out]
        exact ⟨rfl, below_w HB0.out (below_then HBr.out (Nat.le_refl _) b3)⟩
    · have HN : Hid (firstA T 0 ls = none) := Lib.hid (by rw [← HS.out.2, List.drop_of_length_le (by omega)]; rfl)
      have HRE := Lib.hid (HFN.out HN.out)
      have HAC := Lib.hid (firstA_none.1 HN.out)
      have HB : Hid (b = ls.any (fun l => anyB T l [1, 2, 3])) := Lib.hid (by have := HS.out.1; rwa [List.take_of_length_le (by omega)] at this)
      have HRB : Hid (domR T ls = if b = true then rulesGo T 0 ls else (0, 0)) := Lib.hid (by rw [HRE.out, ← HB.out])
      have hq : ¬ (k : Int) < (ls.length : Int) := by omega
      have HBr0 := Lib.hid HBr.out.size
      have HT2 := Lib.hid (HT.out.later HBr.out)
      have HV2 := Lib.hid (HV.out.later HBr.out)
      have HB2 := Lib.hid (below_next HB0.out HBr.out)
      clear HS HN HRE HB HFA HFN HT HV HG HB0 HBr hlt hk
      generalize wr = w9 at *
      go_wp2_with fail
      go_loopw [39] (fun si wr => ∃ (k : Nat), k ≤ ls.length ∧ si = .int .i64 k ∧ Hid (b = true → rulesGo T k (ls.drop k) = rulesGo T 0 ls) ∧ Hid (Below w9.heap.size w9 wr)) (fun si _ => ls.length - (intOf si).toNat)
      case atStart => exact ⟨0, by omega, rfl, Lib.hid fun _ => rfl, Lib.hid (Below.refl _ _)⟩
      case round =>
        obtain ⟨k, hk, rfl, HS, HBr⟩ := hrel
        by_cases hlt : k < ls.length
        · obtain ⟨x, hxk⟩ : ∃ x, ls[k]? = some x := ⟨_, List.getElem?_eq_getElem hlt⟩
          have HX0 := Lib.hid (HAC.out x (List.mem_of_getElem? hxk))
          obtain ⟨A0, cc0, ad, A', c', hve, rfl, ha, hce, hil⟩ := HV2.out.at_ hxk
          cases hve
          have e1 := (HBr.out.cell (p := ad.add k) (by rw [block_of_add]; exact ha)).trans hce
          have HIL := Lib.hid (hil.below HBr.out |>.more HBr.out.size)
          have k0 : (0 : Int) ≤ (k : Int) := by omega
          have k1 : (k : Int) < (ls.length : Int) := by omega
          have HTr := Lib.hid (HT2.out.later HBr.out)
          have HRU := Lib.hid (rule_any t T _ x _ HTr.out.2 (accE_zero HX0.out).1 HIL.out)
          have HST := Lib.hid (rulesGo_step (T := T) hxk)
          clear hxk ha hce hil
          cases b with
          | false =>
            go_wp2_with fail
            go_roundw
            case rel => exact ⟨k + 1, by omega, by go_num, Lib.hid (fun h => by cases h), HBr⟩
            case measure => simp [intOf]; omega
          | true =>
            by_cases hr : ruleL T x = 0
            · have HN : Hid (rulesGo T (k + 1) (ls.drop (k + 1)) = rulesGo T 0 ls) := Lib.hid (by rw [← HS.out rfl, HST.out, if_neg (by omega)])
              rw [hr] at HRU
              clear hr HST
              obtain ⟨x0, x1, x2, x3, x4, x5, x6, x7, x8, x9, x10, x11⟩ := HTr.out.1.tab
              go_wp2_with (go_at_call 42; refine HRU.out.mono ?_; rintro e w3 ⟨rfl, b3⟩)
              go_roundw
              case rel => exact ⟨k + 1, by omega, by go_num, Lib.hid (fun _ => HN.out), Lib.hid (below_then HBr.out (Nat.le_refl _) b3)⟩
              case measure => simp [intOf]; omega
            · have HE : Hid (domR T ls = ((k : Int), 19)) := Lib.hid ((HRB.out.trans (if_pos rfl)).trans (by rw [← HS.out rfl, HST.out, if_pos hr]))
              have hb : (ruleL T x != 0) = true := by simpa using hr
              clear hr HST
              generalize ruleL T x = rl at *
              obtain ⟨x0, x1, x2, x3, x4, x5, x6, x7, x8, x9, x10, x11⟩ := HTr.out.1.tab
              go_wp2_with (go_at_call 42; refine HRU.out.mono ?_; rintro e w3 ⟨rfl, b3⟩)
              go_ret2
              rw [HE.out]
              exact ⟨rfl, below_w HB2.out (below_then HBr.out (Nat.le_refl _) b3)⟩
        · have HE : Hid (domR T ls = (0, 0)) := Lib.hid (by
            rw [HRB.out]
            split
            · rename_i hb
              rw [← HS.out hb, List.drop_of_length_le (by omega)]; rfl
            · rfl)
          go_wp2_with fail
          go_ret2
          rw [HE.out]
          exact ⟨rfl, below_w HB2.out HBr.out⟩
end Go.Proofs.YtjigjjbhdgpfjaaGreatDoor
/-
  The walks through any and last of the reference.
-/
namespace Go.Proofs.YtjigjjbhdgpfjaaGreatDoor
open Go.RowKit ND

theorem any_step {T : Tab} {xs ks : List Int} {k : Nat} {x : Int} (h : xs[k]? = some x) : anyB T (xs.drop k) ks = (ks.any (fun q => T.bidiOf x == q) || anyB T (xs.drop (k + 1)) ks) := by
  obtain ⟨h1, e⟩ := List.getElem?_eq_some_iff.1 h
  rw [List.drop_eq_getElem_cons h1, e]; rfl
theorem in_step {c : Int} {ks : List Int} {j : Nat} {q : Int} (h : ks[j]? = some q) : (ks.drop j).any (fun q => c == q) = ((c == q) || (ks.drop (j + 1)).any (fun q => c == q)) := by
  obtain ⟨h1, e⟩ := List.getElem?_eq_some_iff.1 h
  rw [List.drop_eq_getElem_cons h1, e]; rfl
set_option maxRecDepth 100000 in
set_option maxHeartbeats 2000000 in
theorem refAny_any (t : Tv) (T : Tab) (v : Value) (xs : List Int) (u : Value) (ks : List Int) (w : World) (ht : TabR w w.heap.size t T) (hck : T.check = 0) (hv : Ints w w.heap.size .i64 v xs) (hu : Ints w w.heap.size .i64 u ks) :
    Calls Tryz.prog 44 #[t.val, v, u] w fun e w' => e = .returned (.bool (anyB T xs ks)) ∧ Below w.heap.size w w' := by
  obtain ⟨A, c, rfl, _⟩ := id hv
  obtain ⟨D, d, rfl, _⟩ := id hu
  have HB0 : Hid (Below w.heap.size w (w.alloc (.cells t.cells 26))) := Lib.hid ((Below.refl _ _).alloc (Nat.le_refl _) _)
  have HT : Hid (Tbl (w.alloc (.cells t.cells 26)) w.heap.size t T) := Lib.hid ⟨Blk.new _ _ _, ht.later HB0.out⟩
  have HV := Lib.hid (hv.later HB0.out)
  have HU := Lib.hid (hu.later HB0.out)
  clear ht hv hu
  have hsh := shape_of hck
  have HC : Hid (∀ (b : Nat) (W : World) (x : Int), Tbl W b t T → Calls Tryz.prog 46 #[.agg #[t.c0, t.c1, t.c2, t.c3, t.c4, t.c5, t.c6, t.c7, t.c8, t.c9, t.c10, t.c11], .int .i64 x] W fun e W' => e = .returned (.int .i64 (T.bidiOf x)) ∧ Below W.heap.size W W') := Lib.hid fun b W x h => refBidi_any t T x W h.2 hsh.c3
  have hml : xs.length ≤ 9223372036854775807 := by obtain ⟨_, _, _, h1, h2, _⟩ := HV.out; unfold maxLen at h2; omega
  have hmk : ks.length ≤ 9223372036854775807 := by obtain ⟨_, _, _, h1, h2, _⟩ := HU.out; unfold maxLen at h2; omega
  clear hck hsh
  go_enter Tryz.func44, Tryz.ntmps44
  go_upto_region 1 with fail
  generalize w.alloc (.cells t.cells 26) = w1 at *
  obtain ⟨tb, htb⟩ : ∃ tb, w.heap.size = tb := ⟨_, rfl⟩
  rw [htb] at HT
  simp only [htb]
  go_wp2_with fail
  go_loopw [13] (fun si wr => ∃ (k : Nat), k ≤ xs.length ∧ si = .int .i64 k ∧ Hid (anyB T (xs.drop k) ks = anyB T xs ks) ∧ Hid (Below w1.heap.size w1 wr)) (fun si _ => xs.length - (intOf si).toNat)
  case atStart => exact ⟨0, by omega, rfl, Lib.hid rfl, Lib.hid (Below.refl _ _)⟩
  case round =>
    obtain ⟨k, hk, rfl, HS, HBr⟩ := hrel
    by_cases hltk : k < xs.length
    · obtain ⟨x, hxk, _⟩ := get_of hltk
      obtain ⟨_, _, hve, _, _, _, hcell⟩ := HV.out
      cases hve
      obtain ⟨ad, rfl, ha, hce⟩ := hcell k x hxk
      have e1 := (HBr.out.cell (p := ad.add k) (by rw [block_of_add]; exact ha)).trans hce
      have q0k : (0 : Int) ≤ (k : Int) := by omega
      have q1k : (k : Int) < (xs.length : Int) := by omega
      clear hcell ha hce
      have HST := Lib.hid (any_step (T := T) (ks := ks) hxk)
      clear hxk
      have HB1 := Lib.hid HBr.out
      clear HBr
      go_wp2_with fail
      clear e1
      go_loopw [19] (fun sj wr => ∃ (j : Nat), j ≤ ks.length ∧ sj = .int .i64 j ∧ Hid ((ks.drop j).any (fun q => T.bidiOf x == q) = ks.any (fun q => T.bidiOf x == q)) ∧ Hid (Below w1.heap.size w1 wr)) (fun sj _ => ks.length - (intOf sj).toNat)
      case atStart => exact ⟨0, by omega, rfl, Lib.hid rfl, HB1⟩
      case round =>
        obtain ⟨j, hj, rfl, HSJ, HBq⟩ := hrel
        by_cases hltj : j < ks.length
        · obtain ⟨y, hyk, _⟩ := get_of hltj
          obtain ⟨_, _, hve, _, _, _, hcell⟩ := HU.out
          cases hve
          obtain ⟨ae, rfl, ha, hce⟩ := hcell j y hyk
          have e2 := (HBq.out.cell (p := ae.add j) (by rw [block_of_add]; exact ha)).trans hce
          have q0j : (0 : Int) ≤ (j : Int) := by omega
          have q1j : (j : Int) < (ks.length : Int) := by omega
          clear hcell ha hce
          have HSK := Lib.hid (in_step (c := T.bidiOf x) hyk)
          clear hyk
          have HTr := Lib.hid (HT.out.later HBq.out)
          have HCx := Lib.hid (HC.out tb wr x HTr.out)
          by_cases hq : T.bidiOf x = y
          · have HE : Hid (anyB T xs ks = true) := Lib.hid (by rw [← HS.out, HST.out, ← HSJ.out, HSK.out, hq]; simp)
            have g : (T.bidiOf x == y) = true := by rw [hq]; simp
            clear hq HSK HSJ HST HS
            generalize T.bidiOf x = kx at *
            obtain ⟨x0, x1, x2, x3, x4, x5, x6, x7, x8, x9, x10, x11⟩ := HTr.out.1.tab
            go_wp2_with (go_at_call 46; refine HCx.out.mono ?_; rintro e w5 ⟨rfl, b5⟩)
            go_ret
            rw [HE.out]
            exact ⟨rfl, below_w HB0.out (below_then HBq.out (Nat.le_refl _) b5)⟩
          · have g : (T.bidiOf x == y) = false := by simpa using hq
            have HN : Hid ((ks.drop (j + 1)).any (fun q => T.bidiOf x == q) = ks.any (fun q => T.bidiOf x == q)) := Lib.hid (by rw [← HSJ.out, HSK.out, g]; rfl)
            clear hq HSK HSJ
            obtain ⟨x0, x1, x2, x3, x4, x5, x6, x7, x8, x9, x10, x11⟩ := HTr.out.1.tab
            go_wp2_with (go_at_call 46; refine HCx.out.mono ?_; rintro e w5 ⟨rfl, b5⟩)
            go_roundw
            case rel => exact ⟨j + 1, by omega, by go_num, HN, Lib.hid (below_then HBq.out (Nat.le_refl _) b5)⟩
            case measure => simp [intOf]; omega
        · have HN : Hid (anyB T (xs.drop (k + 1)) ks = anyB T xs ks) := Lib.hid (by
            rw [← HS.out, HST.out, ← HSJ.out, List.drop_of_length_le (by omega : ks.length ≤ j)]; rfl)
          have q1j : ¬ (j : Int) < (ks.length : Int) := by omega
          go_wp2_with fail
          go_roundw
          case rel => exact ⟨k + 1, by omega, by go_num, HN, HBq⟩
          case measure => simp [intOf]; omega
    · have HE : Hid (anyB T xs ks = false) := Lib.hid (by rw [← HS.out, List.drop_of_length_le (by omega)]; rfl)
      go_wp2_with fail
      go_ret
      rw [HE.out]
      exact ⟨rfl, below_w HB0.out HBr.out⟩
set_option maxRecDepth 100000 in
set_option maxHeartbeats 2000000 in
theorem refLast_any (t : Tv) (T : Tab) (v : Value) (xs : List Int) (w : World) (ht : TabR w w.heap.size t T) (hck : T.check = 0) (hv : Ints w w.heap.size .i64 v xs) :
    Calls Tryz.prog 45 #[t.val, v] w fun e w' => e = .returned (.int .i64 (lastB T xs)) ∧ Below w.heap.size w w' := by
  obtain ⟨A, c, rfl, _⟩ := id hv
  have HB0 : Hid (Below w.heap.size w (w.alloc (.cells t.cells 26))) := Lib.hid ((Below.refl _ _).alloc (Nat.le_refl _) _)
  have HT : Hid (Tbl (w.alloc (.cells t.cells 26)) w.heap.size t T) := Lib.hid ⟨Blk.new _ _ _, ht.later HB0.out⟩
  have HV := Lib.hid (hv.later HB0.out)
  clear ht hv
  have hsh := shape_of hck
  have HC : Hid (∀ (b : Nat) (W : World) (x : Int), Tbl W b t T → Calls Tryz.prog 46 #[.agg #[t.c0, t.c1, t.c2, t.c3, t.c4, t.c5, t.c6, t.c7, t.c8, t.c9, t.c10, t.c11], .int .i64 x] W fun e W' => e = .returned (.int .i64 (T.bidiOf x)) ∧ Below W.heap.size W W') := Lib.hid fun b W x h => refBidi_any t T x W h.2 hsh.c3
  have hml : xs.length ≤ 9223372036854775807 := by obtain ⟨_, _, _, h1, h2, _⟩ := HV.out; unfold maxLen at h2; omega
  clear hck hsh
  go_enter Tryz.func45, Tryz.ntmps45
  go_upto_region 1 with fail
  generalize w.alloc (.cells t.cells 26) = w1 at *
  obtain ⟨tb, htb⟩ : ∃ tb, w.heap.size = tb := ⟨_, rfl⟩
  rw [htb] at HT
  simp only [htb]
  go_wp2_with fail
  go_loopw [11, 5] (fun si s5 wr => ∃ (k : Nat) (z : Int), k ≤ xs.length ∧ si = .int .i64 k ∧ s5 = .int .i64 z ∧ Hid (z = lastB T (xs.take k)) ∧ Hid (Below w1.heap.size w1 wr)) (fun si _ _ => xs.length - (intOf si).toNat)
  case atStart => exact ⟨0, -1, by omega, rfl, rfl, Lib.hid rfl, Lib.hid (Below.refl _ _)⟩
  case round =>
    obtain ⟨k, z, hk, rfl, rfl, HS, HBr⟩ := hrel
    by_cases hltk : k < xs.length
    · obtain ⟨x, hxk, _⟩ := get_of hltk
      obtain ⟨_, _, hve, _, _, _, hcell⟩ := HV.out
      cases hve
      obtain ⟨ad, rfl, ha, hce⟩ := hcell k x hxk
      have e1 := (HBr.out.cell (p := ad.add k) (by rw [block_of_add]; exact ha)).trans hce
      have q0k : (0 : Int) ≤ (k : Int) := by omega
      have q1k : (k : Int) < (xs.length : Int) := by omega
      clear hcell ha hce
      have HST : Hid (lastB T (xs.take (k + 1)) = if T.bidiOf x = 10 then z else T.bidiOf x) := Lib.hid (by
        rw [HS.out]
        obtain ⟨h1, e⟩ := List.getElem?_eq_some_iff.1 hxk
        rw [List.take_succ_eq_append_getElem h1, last_snoc, e])
      clear hxk
      have HTr := Lib.hid (HT.out.later HBr.out)
      have HCx := Lib.hid (HC.out tb wr x HTr.out)
      by_cases hm : T.bidiOf x = 10
      · have HN : Hid (z = lastB T (xs.take (k + 1))) := Lib.hid (by rw [HST.out, if_pos hm])
        rw [hm] at HCx
        clear hm HST
        obtain ⟨x0, x1, x2, x3, x4, x5, x6, x7, x8, x9, x10, x11⟩ := HTr.out.1.tab
        go_wp2_with (go_at_call 46; refine HCx.out.mono ?_; rintro e w5 ⟨rfl, b5⟩)
        go_roundw
        case rel => exact ⟨k + 1, z, by omega, by go_num, rfl, HN, Lib.hid (below_then HBr.out (Nat.le_refl _) b5)⟩
        case measure => simp [intOf]; omega
      · have HN : Hid (T.bidiOf x = lastB T (xs.take (k + 1))) := Lib.hid (by rw [HST.out, if_neg hm])
        have g : (T.bidiOf x != 10) = true := by simpa using hm
        clear hm HST
        generalize T.bidiOf x = kx at *
        obtain ⟨x0, x1, x2, x3, x4, x5, x6, x7, x8, x9, x10, x11⟩ := HTr.out.1.tab
        go_wp2_with (go_at_call 46; refine HCx.out.mono ?_; rintro e w5 ⟨rfl, b5⟩)
        go_roundw
        case rel => exact ⟨k + 1, kx, by omega, by go_num, rfl, HN, Lib.hid (below_then HBr.out (Nat.le_refl _) b5)⟩
        case measure => simp [intOf]; omega
    · go_wp2_with fail
      go_ret
      exact ⟨ret_int (by rw [HS.out, List.take_of_length_le (by omega)]), below_w HB0.out HBr.out⟩
end Go.Proofs.YtjigjjbhdgpfjaaGreatDoor
