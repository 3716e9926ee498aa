/-
  Merged texts: lemmas and walks that the last text of this claim leans on.
-/
import Derived.Test.YtjigjjbhdgpfjaaGreatDoorMgB742
import Derived.Test.YtjigjjbhdgpfjaaGreatDoorMgB740
import Derived.Test.YtjigjjbhdgpfjaaGreatDoorMgB724
import Derived.Test.YtjigjjbhdgpfjaaGreatDoorMgB741
import Derived.Test.YtjigjjbhdgpfjaaGreatDoorMgB723
/-
  The walk through Domain of the reference.
-/
namespace Go.Proofs.YtjigjjbhdgpfjaaGreatDoor
open Go.RowKit ND

theorem ruleL_nonneg (T : Tab) (xs : List Int) : 0 ≤ ruleL T xs := by
  cases xs with
  | nil => exact Int.le_refl _
  | cons x r =>
    unfold ruleL
    simp only
    split
    · split
      · omega
      · split
        · omega
        · split <;> omega
    · split
      · split
        · omega
        · split <;> omega
      · omega
set_option maxRecDepth 100000 in
set_option maxHeartbeats 4000000 in
theorem refDomain_any (t : Tv) (T : Tab) (v : Value) (ls : List (List Int)) (w : World) (ht : TabR w w.heap.size t T) (hv : Lists w w.heap.size v ls) :
    Calls Tryz.prog 41 #[t.val, v] w fun e w' => e = .returned (.tuple #[.int .i64 (domR T ls).1, .int .i64 (domR T ls).2]) ∧ Below w.heap.size w w' := by
  obtain ⟨A, c, rfl, _⟩ := id hv
  have HB0 : Hid (Below w.heap.size w (w.alloc (.cells t.cells 26))) := Lib.hid ((Below.refl _ _).alloc (Nat.le_refl _) _)
  have HT : Hid (Tbl (w.alloc (.cells t.cells 26)) w.heap.size t T) := Lib.hid ⟨Blk.new _ _ _, ht.later HB0.out⟩
  have HV := Lib.hid (hv.later HB0.out)
  clear ht hv
  go_enter Tryz.func41, Tryz.ntmps41
  go_upto_region 1 with fail
  generalize w.alloc (.cells t.cells 26) = w1 at *
  obtain ⟨tb, htb⟩ : ∃ tb, w.heap.size = tb := ⟨_, rfl⟩
  rw [htb] at HT
  simp only [htb]
  have hml : ls.length ≤ 9223372036854775807 := by obtain ⟨_, _, _, h1, h2, _⟩ := HV.out; unfold maxLen at h2; omega
  have HFA : Hid (∀ r, firstA T 0 ls = some r → domR T ls = r) := Lib.hid fun r h => domR_some h
  have HFN : Hid (firstA T 0 ls = none → domR T ls = if ls.any (fun l => anyB T l [1, 2, 3]) = true then rulesGo T 0 ls else (0, 0)) := Lib.hid domR_none
  go_wp2_with fail
  go_loopw [16, 6] (fun si s6 wr => ∃ (k : Nat) (b : Bool), k ≤ ls.length ∧ si = .int .i64 k ∧ s6 = .bool b ∧ Hid (b = (ls.take k).any (fun l => anyB T l [1, 2, 3]) ∧ firstA T k (ls.drop k) = firstA T 0 ls) ∧ Hid (Below w1.heap.size w1 wr)) (fun si _ _ => ls.length - (intOf si).toNat)
  case atStart => exact ⟨0, false, by omega, rfl, rfl, Lib.hid ⟨rfl, rfl⟩, Lib.hid (Below.refl _ _)⟩
  case round =>
    obtain ⟨k, b, hk, rfl, rfl, HS, HBr⟩ := hrel
    by_cases hlt : k < ls.length
    · obtain ⟨x, hxk⟩ : ∃ x, ls[k]? = some x := ⟨_, List.getElem?_eq_getElem hlt⟩
      obtain ⟨A0, cc0, ad, A', c', hve, rfl, ha, hce, hil⟩ := HV.out.at_ hxk
      cases hve
      have e1 := (HBr.out.cell (p := ad.add k) (by rw [block_of_add]; exact ha)).trans hce
      have HIL := Lib.hid (hil.below HBr.out |>.more HBr.out.size)
      have k0 : (0 : Int) ≤ (k : Int) := by omega
      have k1 : (k : Int) < (ls.length : Int) := by omega
      have HTr := Lib.hid (HT.out.later HBr.out)
      have HO := Lib.hid (refAccept_any t T _ x _ HTr.out.2 HIL.out)
      have HST := Lib.hid (firstA_step (T := T) hxk)
      have HTK := Lib.hid (take_any (p := fun l => anyB T l [1, 2, 3]) hxk)
      have HRT := Lib.hid (fun W (h : Below wr.heap.size wr W) => refRtl_any t T _ x W (HTr.out.later h).2 (HIL.out.later h))
      clear hxk ha hce hil
      by_cases h0 : accE T x = 0
      · have HRB : Hid (rtlR T x = anyB T x [1, 2, 3]) := Lib.hid (by unfold rtlR; rw [h0]; rfl)
        have HN1 : Hid (firstA T (k + 1) (ls.drop (k + 1)) = firstA T 0 ls) := Lib.hid (by rw [← HS.out.2, HST.out, if_neg (by omega)])
        rw [h0] at HO
        rw [HRB.out] at HRT
        clear h0
        cases b with
        | true =>
          have HN : Hid (true = (ls.take (k + 1)).any (fun l => anyB T l [1, 2, 3])) := Lib.hid (by rw [HTK.out, ← HS.out.1]; rfl)
          obtain ⟨x0, x1, x2, x3, x4, x5, x6, x7, x8, x9, x10, x11⟩ := HTr.out.1.tab
          go_wp2_with (go_at_call 43; refine HO.out.mono ?_; rintro e w3 ⟨rfl, b3⟩)
          go_roundw
          case rel => exact ⟨k + 1, true, by omega, by go_num, rfl, Lib.hid ⟨HN.out, HN1.out⟩, Lib.hid (below_then HBr.out (Nat.le_refl _) b3)⟩
          case measure => simp [intOf]; omega
        | false =>
          have HN : Hid (anyB T x [1, 2, 3] = (ls.take (k + 1)).any (fun l => anyB T l [1, 2, 3])) := Lib.hid (by rw [HTK.out, ← HS.out.1]; rfl)
          clear HRB HTK HST
          generalize anyB T x [1, 2, 3] = bx at *
          obtain ⟨x0, x1, x2, x3, x4, x5, x6, x7, x8, x9, x10, x11⟩ := HTr.out.1.tab
          go_upto_region 8 with (go_at_call 43; refine HO.out.mono ?_; rintro e w3 ⟨rfl, b3⟩)
          clear x0 x1 x2 x3 x4 x5 x6 x7 x8 x9 x10 x11
          obtain ⟨x0, x1, x2, x3, x4, x5, x6, x7, x8, x9, x10, x11⟩ := (HTr.out.later b3).1.tab
          go_wp2_with (go_at_call 18; refine (HRT.out _ b3).mono ?_; rintro e w4 ⟨rfl, b4⟩)
          go_roundw
          case rel => exact ⟨k + 1, bx, by omega, by go_num, rfl, Lib.hid ⟨HN.out, HN1.out⟩, Lib.hid (below_then HBr.out (Nat.le_refl _) (below_next b3 b4))⟩
          case measure => simp [intOf]; omega
      · have HE : Hid (domR T ls = ((k : Int), accE T x)) := Lib.hid (HFA.out _ (by rw [← HS.out.2, HST.out, if_pos h0]))
        have hb : (accE T x != 0) = true := by simpa using h0
        clear h0 HST HTK HRT
        generalize accE T x = er at *
        obtain ⟨x0, x1, x2, x3, x4, x5, x6, x7, x8, x9, x10, x11⟩ := HTr.out.1.tab
        go_wp2_with (go_at_call 43; refine HO.out.mono ?_; rintro e w3 ⟨rfl, b3⟩)
        go_ret2
        rw [HE.out]
        exact ⟨rfl, below_w HB0.out (below_then HBr.out (Nat.le_refl _) b3)⟩
    · have HN : Hid (firstA T 0 ls = none) := Lib.hid (by rw [← HS.out.2, List.drop_of_length_le (by omega)]; rfl)
      have HRE := Lib.hid (HFN.out HN.out)
      have HAC := Lib.hid (firstA_none.1 HN.out)
      have HB : Hid (b = ls.any (fun l => anyB T l [1, 2, 3])) := Lib.hid (by have := HS.out.1; rwa [List.take_of_length_le (by omega)] at this)
      have HRB : Hid (domR T ls = if b = true then rulesGo T 0 ls else (0, 0)) := Lib.hid (by rw [HRE.out, ← HB.out])
      have hq : ¬ (k : Int) < (ls.length : Int) := by omega
      have HBr0 := Lib.hid HBr.out.size
      have HT2 := Lib.hid (HT.out.later HBr.out)
      have HV2 := Lib.hid (HV.out.later HBr.out)
      have HB2 := Lib.hid (below_next HB0.out HBr.out)
      clear HS HN HRE HB HFA HFN HT HV HB0 HBr hlt hk
      generalize wr = w9 at *
      go_wp2_with fail
      go_loopw [37] (fun si wr => ∃ (k : Nat), k ≤ ls.length ∧ si = .int .i64 k ∧ Hid (b = true → rulesGo T k (ls.drop k) = rulesGo T 0 ls) ∧ Hid (Below w9.heap.size w9 wr)) (fun si _ => ls.length - (intOf si).toNat)
      case atStart => exact ⟨0, by omega, rfl, Lib.hid fun _ => rfl, Lib.hid (Below.refl _ _)⟩
      case round =>
        obtain ⟨k, hk, rfl, HS, HBr⟩ := hrel
        by_cases hlt : k < ls.length
        · obtain ⟨x, hxk⟩ : ∃ x, ls[k]? = some x := ⟨_, List.getElem?_eq_getElem hlt⟩
          have HX0 := Lib.hid (HAC.out x (List.mem_of_getElem? hxk))
          obtain ⟨A0, cc0, ad, A', c', hve, rfl, ha, hce, hil⟩ := HV2.out.at_ hxk
          cases hve
          have e1 := (HBr.out.cell (p := ad.add k) (by rw [block_of_add]; exact ha)).trans hce
          have HIL := Lib.hid (hil.below HBr.out |>.more HBr.out.size)
          have k0 : (0 : Int) ≤ (k : Int) := by omega
          have k1 : (k : Int) < (ls.length : Int) := by omega
          have HTr := Lib.hid (HT2.out.later HBr.out)
          have HRU := Lib.hid (refRule_any t T _ x _ HTr.out.2 HIL.out)
          rw [show ruleR T x = (ruleL T x, 0) by unfold ruleR; rw [if_pos HX0.out]] at HRU
          have HST := Lib.hid (rulesGo_step (T := T) hxk)
          have hr0 := ruleL_nonneg T x
          clear hxk ha hce hil
          obtain ⟨x0, x1, x2, x3, x4, x5, x6, x7, x8, x9, x10, x11⟩ := HTr.out.1.tab
          cases b with
          | false =>
            generalize ruleL T x = rl at *
            go_wp2_with (go_at_call 19; refine HRU.out.mono ?_; rintro e w3 ⟨rfl, b3⟩)
            go_roundw
            case rel => exact ⟨k + 1, by omega, by go_num, Lib.hid (fun h => by cases h), Lib.hid (below_then HBr.out (Nat.le_refl _) b3)⟩
            case measure => simp [intOf]; omega
          | true =>
            by_cases hr : ruleL T x = 0
            · have HN : Hid (rulesGo T (k + 1) (ls.drop (k + 1)) = rulesGo T 0 ls) := Lib.hid (by rw [← HS.out rfl, HST.out, if_neg (by omega)])
              rw [hr] at HRU
              clear hr HST hr0
              go_wp2_with (go_at_call 19; refine HRU.out.mono ?_; rintro e w3 ⟨rfl, b3⟩)
              go_roundw
              case rel => exact ⟨k + 1, by omega, by go_num, Lib.hid (fun _ => HN.out), Lib.hid (below_then HBr.out (Nat.le_refl _) b3)⟩
              case measure => simp [intOf]; omega
            · have HE : Hid (domR T ls = ((k : Int), 19)) := Lib.hid ((HRB.out.trans (if_pos rfl)).trans (by rw [← HS.out rfl, HST.out, if_pos hr]))
              have hb : 0 < ruleL T x := by omega
              clear hr HST hr0
              generalize ruleL T x = rl at *
              go_wp2_with (go_at_call 19; refine HRU.out.mono ?_; rintro e w3 ⟨rfl, b3⟩)
              go_ret2
              rw [HE.out]
              exact ⟨rfl, below_w HB2.out (below_then HBr.out (Nat.le_refl _) b3)⟩
        · have HE : Hid (domR T ls = (0, 0)) := Lib.hid (by
            rw [HRB.out]
            split
            · rename_i hb
              rw [← HS.out hb, List.drop_of_length_le (by omega)]; rfl
            · rfl)
          go_wp2_with fail
          go_ret2
          rw [HE.out]
          exact ⟨rfl, below_w HB2.out HBr.out⟩
end Go.Proofs.YtjigjjbhdgpfjaaGreatDoor
/-
  The walk through agrees of the laws of layer 16: for whatever tables, label and domain.
-/
namespace Go.Proofs.YtjigjjbhdgpfjaaGreatDoor
open Go.RowKit ND

/-- What holds ahead of region 5. -/
structure ag16Ctx (w0 : World) (b : Nat) (t : Tv) (T : Tab) (va : Value) (xs : List Int) (r1 : Int) (r2 : Int) (d1 : Int) (d2 : Int) : Prop where
  tb : Tbl w0 b t T
  g : Glob w0
  v : Ints w0 w0.heap.size .i64 va xs
def ag16Specs (t : Tv) (T : Tab) (va : Value) (xs : List Int) (r1 : Int) (r2 : Int) (d1 : Int) (d2 : Int) : List SpecK := [.val t.val, .val va, .val (.bool (rtlR T xs)), .val t.val, .val va, .val (.bool (rtlR T xs)), .val (.bool true), .val (.bool true), .val (.int .i64 r1), .val (.int .i64 r1), .val (.bool true), .val (.bool true), .val (.bool true), .val (.int .i64 r2), .val (.int .i64 r2), .val (.bool true), .val (.bool true), .val (.bool true), .val (.int .i64 d1), .val (.int .i64 d1), .val (.bool true), .val (.bool true), .val (.bool true), .val (.int .i64 d2), .val (.int .i64 d2), .val (.bool true), .val (.bool true), .val (.bool true)]
def ag16Fixed (b : Nat) (va : Value) (r1 : Int) (r2 : Int) (d1 : Int) (d2 : Int) : List (Tmp × Value) := [(1, va), (3, .pointer (some ⟨b, 0, none⟩)), (7, .int .i64 r1), (8, .int .i64 r2), (9, .int .i64 r1), (10, .int .i64 r2), (11, .int .i64 d1), (12, .int .i64 d2), (13, .int .i64 d1), (14, .int .i64 d2)]
def ag16Ob (w0 : World) (b : Nat) (t : Tv) (T : Tab) (va : Value) (xs : List Int) (r1 : Int) (r2 : Int) (d1 : Int) (d2 : Int) (Q : Exit → Act → World → Prop) (k : Nat) : Prop := ObR 24 Tryz.prog (opsAt Tryz.f15 5) 66 [] (ag16Fixed b va r1 r2 d1 d2) w0 (ag16Specs t T va xs r1 r2 d1 d2) [] Q k
section
variable {w0 : World} {b : Nat} {t : Tv} {T : Tab} {va : Value} {xs : List Int} {r1 : Int} {r2 : Int} {d1 : Int} {d2 : Int} {Q : Exit → Act → World → Prop}
theorem ag16_ob0 (H : ag16Ctx w0 b t T va xs r1 r2 d1 d2) : ag16Ob w0 b t T va xs r1 r2 d1 d2 Q 0 := by
  intro o ho a w hb hf hd K hK
  rw [if_pos (wanted_none _ (get_op (·.guard) ho (by kernel_rfl)))]
  exact ob_value (load_tab (H.tb.later hb) (get_op (·.op) ho (by kernel_rfl)) (eval_tmp (hf.2.2 (3, _) (by simp [ag16Fixed])))) (hK _ _ (rk_of rfl rfl) (.inl (Below.refl _ _)))
theorem ag16_ob1 : ag16Ob w0 b t T va xs r1 r2 d1 d2 Q 1 := by
  intro o ho a w hb hf hd K hK
  rw [if_pos (wanted_none _ (get_op (·.guard) ho (by kernel_rfl)))]
  exact ob_move (get_op (·.op) ho (by kernel_rfl)) (eval_tmp (hf.2.2 (1, _) (by simp [ag16Fixed]))) (hK _ _ (rk_of rfl rfl) (.inl (Below.refl _ _)))
theorem ag16_ob2 (H : ag16Ctx w0 b t T va xs r1 r2 d1 d2) : ag16Ob w0 b t T va xs r1 r2 d1 d2 Q 2 := by
  intro o ho a w hb hf hd K hK
  rw [if_pos (wanted_none _ (get_op (·.guard) ho (by kernel_rfl)))]
  obtain ⟨v0, h0, e0⟩ := dep_k (F := 24) ho hd 0 39 (.val t.val) (by kernel_rfl) (by kernel_rfl) rfl (by kernel_rfl)
  obtain rfl : _ = v0 := Eq.symm e0
  obtain ⟨v1, h1, e1⟩ := dep_k (F := 24) ho hd 1 40 (.val va) (by kernel_rfl) (by kernel_rfl) rfl (by kernel_rfl)
  obtain rfl : _ = v1 := Eq.symm e1
  refine ob_enter (enter2 (tys := #[26, 22]) (x := .tmp 39) (y := .tmp 40) (get_op (·.op) ho (by kernel_rfl)) (eval_tmp h0) (eval_tmp h1) (fun args w => enters_of Tryz.func40 (by kernel_rfl) rfl args w)) (rtl_any t T _ xs w (H.tb.later hb).2 (H.g.later hb) (H.v.later hb)) fun e w' ⟨he, h1⟩ => ⟨_, he, ?_⟩
  exact hK _ _ (rk_of rfl rfl) (.inl h1)
theorem ag16_ob3 (H : ag16Ctx w0 b t T va xs r1 r2 d1 d2) : ag16Ob w0 b t T va xs r1 r2 d1 d2 Q 3 := by
  intro o ho a w hb hf hd K hK
  rw [if_pos (wanted_none _ (get_op (·.guard) ho (by kernel_rfl)))]
  exact ob_value (load_tab (H.tb.later hb) (get_op (·.op) ho (by kernel_rfl)) (eval_tmp (hf.2.2 (3, _) (by simp [ag16Fixed])))) (hK _ _ (rk_of rfl rfl) (.inl (Below.refl _ _)))
theorem ag16_ob4 : ag16Ob w0 b t T va xs r1 r2 d1 d2 Q 4 := by
  intro o ho a w hb hf hd K hK
  rw [if_pos (wanted_none _ (get_op (·.guard) ho (by kernel_rfl)))]
  exact ob_move (get_op (·.op) ho (by kernel_rfl)) (eval_tmp (hf.2.2 (1, _) (by simp [ag16Fixed]))) (hK _ _ (rk_of rfl rfl) (.inl (Below.refl _ _)))
theorem ag16_ob5 (H : ag16Ctx w0 b t T va xs r1 r2 d1 d2) : ag16Ob w0 b t T va xs r1 r2 d1 d2 Q 5 := by
  intro o ho a w hb hf hd K hK
  rw [if_pos (wanted_none _ (get_op (·.guard) ho (by kernel_rfl)))]
  obtain ⟨v3, h3, e3⟩ := dep_k (F := 24) ho hd 3 42 (.val t.val) (by kernel_rfl) (by kernel_rfl) rfl (by kernel_rfl)
  obtain rfl : _ = v3 := Eq.symm e3
  obtain ⟨v4, h4, e4⟩ := dep_k (F := 24) ho hd 4 43 (.val va) (by kernel_rfl) (by kernel_rfl) rfl (by kernel_rfl)
  obtain rfl : _ = v4 := Eq.symm e4
  refine ob_enter (enter2 (tys := #[26, 22]) (x := .tmp 42) (y := .tmp 43) (get_op (·.op) ho (by kernel_rfl)) (eval_tmp h3) (eval_tmp h4) (fun args w => enters_of Tryz.func18 (by kernel_rfl) rfl args w)) (refRtl_any t T _ xs w (H.tb.later hb).2 (H.v.later hb)) fun e w' ⟨he, h1⟩ => ⟨_, he, ?_⟩
  exact hK _ _ (rk_of rfl rfl) (.inl h1)
theorem ag16_ob6 : ag16Ob w0 b t T va xs r1 r2 d1 d2 Q 6 := by
  intro o ho a w hb hf hd K hK
  rw [if_pos (wanted_none _ (get_op (·.guard) ho (by kernel_rfl)))]
  obtain ⟨v2, h2, e2⟩ := dep_k (F := 24) ho hd 2 41 (.val (.bool (rtlR T xs))) (by kernel_rfl) (by kernel_rfl) rfl (by kernel_rfl)
  obtain rfl : _ = v2 := Eq.symm e2
  obtain ⟨v5, h5, e5⟩ := dep_k (F := 24) ho hd 5 44 (.val (.bool (rtlR T xs))) (by kernel_rfl) (by kernel_rfl) rfl (by kernel_rfl)
  obtain rfl : _ = v5 := Eq.symm e5
  have hr : (execOp a.eval o).run Tryz.prog w = .ok (.value (.bool true)) w := by
    have hop : o.op = .binOp .eql 4 (.tmp 41) (.tmp 44) 4 := get_op (·.op) ho (by kernel_rfl)
    unfold execOp
    rw [hop]
    go_simp
  exact ob_run5 hr (hK _ _ (rk_of rfl rfl) (.inl (Below.refl _ _)))
theorem ag16_ob7 : ag16Ob w0 b t T va xs r1 r2 d1 d2 Q 7 := by
  intro o ho a w hb hf hd K hK
  rw [if_pos (wanted_none _ (get_op (·.guard) ho (by kernel_rfl)))]
  obtain ⟨v6, h6, e6⟩ := dep_k (F := 24) ho hd 6 45 (.val (.bool true)) (by kernel_rfl) (by kernel_rfl) rfl (by kernel_rfl)
  obtain rfl : _ = v6 := Eq.symm e6
  exact ob_move (get_op (·.op) ho (by kernel_rfl)) (eval_tmp h6) (hK _ _ (rk_of rfl rfl) (.inl (Below.refl _ _)))
theorem ag16_ob8 : ag16Ob w0 b t T va xs r1 r2 d1 d2 Q 8 := by
  intro o ho a w hb hf hd K hK
  obtain ⟨v7, h7, e7⟩ := dep_k (F := 24) ho hd 7 46 (.val (.bool true)) (by kernel_rfl) (by kernel_rfl) rfl (by kernel_rfl)
  obtain rfl : _ = v7 := Eq.symm e7
  rw [if_pos (wanted_at (g := 7) (b := true) ho (by kernel_rfl) (by kernel_rfl) h7 rfl)]
  exact ob_move (get_op (·.op) ho (by kernel_rfl)) (eval_tmp (hf.2.2 (7, _) (by simp [ag16Fixed]))) (hK _ _ (rk_of rfl rfl) (.inl (Below.refl _ _)))
theorem ag16_ob9 : ag16Ob w0 b t T va xs r1 r2 d1 d2 Q 9 := by
  intro o ho a w hb hf hd K hK
  obtain ⟨v7, h7, e7⟩ := dep_k (F := 24) ho hd 7 46 (.val (.bool true)) (by kernel_rfl) (by kernel_rfl) rfl (by kernel_rfl)
  obtain rfl : _ = v7 := Eq.symm e7
  rw [if_pos (wanted_at (g := 7) (b := true) ho (by kernel_rfl) (by kernel_rfl) h7 rfl)]
  exact ob_move (get_op (·.op) ho (by kernel_rfl)) (eval_tmp (hf.2.2 (9, _) (by simp [ag16Fixed]))) (hK _ _ (rk_of rfl rfl) (.inl (Below.refl _ _)))
theorem ag16_ob10 : ag16Ob w0 b t T va xs r1 r2 d1 d2 Q 10 := by
  intro o ho a w hb hf hd K hK
  obtain ⟨v7, h7, e7⟩ := dep_k (F := 24) ho hd 7 46 (.val (.bool true)) (by kernel_rfl) (by kernel_rfl) rfl (by kernel_rfl)
  obtain rfl : _ = v7 := Eq.symm e7
  rw [if_pos (wanted_at (g := 7) (b := true) ho (by kernel_rfl) (by kernel_rfl) h7 rfl)]
  obtain ⟨v8, h8, e8⟩ := dep_k (F := 24) ho hd 8 47 (.val (.int .i64 r1)) (by kernel_rfl) (by kernel_rfl) rfl (by kernel_rfl)
  obtain rfl : _ = v8 := Eq.symm e8
  obtain ⟨v9, h9, e9⟩ := dep_k (F := 24) ho hd 9 48 (.val (.int .i64 r1)) (by kernel_rfl) (by kernel_rfl) rfl (by kernel_rfl)
  obtain rfl : _ = v9 := Eq.symm e9
  have hr : (execOp a.eval o).run Tryz.prog w = .ok (.value (.bool true)) w := by
    have hop : o.op = .binOp .eql 3 (.tmp 47) (.tmp 48) 3 := get_op (·.op) ho (by kernel_rfl)
    unfold execOp
    rw [hop]
    go_simp
  exact ob_run5 hr (hK _ _ (rk_of rfl rfl) (.inl (Below.refl _ _)))
theorem ag16_ob11 : ag16Ob w0 b t T va xs r1 r2 d1 d2 Q 11 := by
  intro o ho a w hb hf hd K hK
  rw [if_pos (wanted_none _ (get_op (·.guard) ho (by kernel_rfl)))]
  obtain ⟨v7, h7, e7⟩ := dep_k (F := 24) ho hd 7 46 (.val (.bool true)) (by kernel_rfl) (by kernel_rfl) rfl (by kernel_rfl)
  obtain rfl : _ = v7 := Eq.symm e7
  obtain ⟨v10, h10, e10⟩ := dep_k (F := 24) ho hd 10 49 (.val (.bool true)) (by kernel_rfl) (by kernel_rfl) rfl (by kernel_rfl)
  obtain rfl : _ = v10 := Eq.symm e10
  exact ob_pick (c := .tmp 46) (x := .tmp 49) (y := .const (.bool false)) (b := true) (get_op (·.op) ho (by kernel_rfl)) (eval_tmp h7) (eval_tmp h10) (hK _ _ (rk_of rfl rfl) (.inl (Below.refl _ _)))
theorem ag16_ob12 : ag16Ob w0 b t T va xs r1 r2 d1 d2 Q 12 := by
  intro o ho a w hb hf hd K hK
  rw [if_pos (wanted_none _ (get_op (·.guard) ho (by kernel_rfl)))]
  obtain ⟨v11, h11, e11⟩ := dep_k (F := 24) ho hd 11 50 (.val (.bool true)) (by kernel_rfl) (by kernel_rfl) rfl (by kernel_rfl)
  obtain rfl : _ = v11 := Eq.symm e11
  exact ob_move (get_op (·.op) ho (by kernel_rfl)) (eval_tmp h11) (hK _ _ (rk_of rfl rfl) (.inl (Below.refl _ _)))
theorem ag16_ob13 : ag16Ob w0 b t T va xs r1 r2 d1 d2 Q 13 := by
  intro o ho a w hb hf hd K hK
  obtain ⟨v12, h12, e12⟩ := dep_k (F := 24) ho hd 12 51 (.val (.bool true)) (by kernel_rfl) (by kernel_rfl) rfl (by kernel_rfl)
  obtain rfl : _ = v12 := Eq.symm e12
  rw [if_pos (wanted_at (g := 12) (b := true) ho (by kernel_rfl) (by kernel_rfl) h12 rfl)]
  exact ob_move (get_op (·.op) ho (by kernel_rfl)) (eval_tmp (hf.2.2 (8, _) (by simp [ag16Fixed]))) (hK _ _ (rk_of rfl rfl) (.inl (Below.refl _ _)))
theorem ag16_ob14 : ag16Ob w0 b t T va xs r1 r2 d1 d2 Q 14 := by
  intro o ho a w hb hf hd K hK
  obtain ⟨v12, h12, e12⟩ := dep_k (F := 24) ho hd 12 51 (.val (.bool true)) (by kernel_rfl) (by kernel_rfl) rfl (by kernel_rfl)
  obtain rfl : _ = v12 := Eq.symm e12
  rw [if_pos (wanted_at (g := 12) (b := true) ho (by kernel_rfl) (by kernel_rfl) h12 rfl)]
  exact ob_move (get_op (·.op) ho (by kernel_rfl)) (eval_tmp (hf.2.2 (10, _) (by simp [ag16Fixed]))) (hK _ _ (rk_of rfl rfl) (.inl (Below.refl _ _)))
theorem ag16_ob15 : ag16Ob w0 b t T va xs r1 r2 d1 d2 Q 15 := by
  intro o ho a w hb hf hd K hK
  obtain ⟨v12, h12, e12⟩ := dep_k (F := 24) ho hd 12 51 (.val (.bool true)) (by kernel_rfl) (by kernel_rfl) rfl (by kernel_rfl)
  obtain rfl : _ = v12 := Eq.symm e12
  rw [if_pos (wanted_at (g := 12) (b := true) ho (by kernel_rfl) (by kernel_rfl) h12 rfl)]
  obtain ⟨v13, h13, e13⟩ := dep_k (F := 24) ho hd 13 52 (.val (.int .i64 r2)) (by kernel_rfl) (by kernel_rfl) rfl (by kernel_rfl)
  obtain rfl : _ = v13 := Eq.symm e13
  obtain ⟨v14, h14, e14⟩ := dep_k (F := 24) ho hd 14 53 (.val (.int .i64 r2)) (by kernel_rfl) (by kernel_rfl) rfl (by kernel_rfl)
  obtain rfl : _ = v14 := Eq.symm e14
  have hr : (execOp a.eval o).run Tryz.prog w = .ok (.value (.bool true)) w := by
    have hop : o.op = .binOp .eql 29 (.tmp 52) (.tmp 53) 29 := get_op (·.op) ho (by kernel_rfl)
    unfold execOp
    rw [hop]
    go_simp
  exact ob_run5 hr (hK _ _ (rk_of rfl rfl) (.inl (Below.refl _ _)))
theorem ag16_ob16 : ag16Ob w0 b t T va xs r1 r2 d1 d2 Q 16 := by
  intro o ho a w hb hf hd K hK
  rw [if_pos (wanted_none _ (get_op (·.guard) ho (by kernel_rfl)))]
  obtain ⟨v12, h12, e12⟩ := dep_k (F := 24) ho hd 12 51 (.val (.bool true)) (by kernel_rfl) (by kernel_rfl) rfl (by kernel_rfl)
  obtain rfl : _ = v12 := Eq.symm e12
  obtain ⟨v15, h15, e15⟩ := dep_k (F := 24) ho hd 15 54 (.val (.bool true)) (by kernel_rfl) (by kernel_rfl) rfl (by kernel_rfl)
  obtain rfl : _ = v15 := Eq.symm e15
  exact ob_pick (c := .tmp 51) (x := .tmp 54) (y := .const (.bool false)) (b := true) (get_op (·.op) ho (by kernel_rfl)) (eval_tmp h12) (eval_tmp h15) (hK _ _ (rk_of rfl rfl) (.inl (Below.refl _ _)))
theorem ag16_ob17 : ag16Ob w0 b t T va xs r1 r2 d1 d2 Q 17 := by
  intro o ho a w hb hf hd K hK
  rw [if_pos (wanted_none _ (get_op (·.guard) ho (by kernel_rfl)))]
  obtain ⟨v16, h16, e16⟩ := dep_k (F := 24) ho hd 16 55 (.val (.bool true)) (by kernel_rfl) (by kernel_rfl) rfl (by kernel_rfl)
  obtain rfl : _ = v16 := Eq.symm e16
  exact ob_move (get_op (·.op) ho (by kernel_rfl)) (eval_tmp h16) (hK _ _ (rk_of rfl rfl) (.inl (Below.refl _ _)))
theorem ag16_ob18 : ag16Ob w0 b t T va xs r1 r2 d1 d2 Q 18 := by
  intro o ho a w hb hf hd K hK
  obtain ⟨v17, h17, e17⟩ := dep_k (F := 24) ho hd 17 56 (.val (.bool true)) (by kernel_rfl) (by kernel_rfl) rfl (by kernel_rfl)
  obtain rfl : _ = v17 := Eq.symm e17
  rw [if_pos (wanted_at (g := 17) (b := true) ho (by kernel_rfl) (by kernel_rfl) h17 rfl)]
  exact ob_move (get_op (·.op) ho (by kernel_rfl)) (eval_tmp (hf.2.2 (11, _) (by simp [ag16Fixed]))) (hK _ _ (rk_of rfl rfl) (.inl (Below.refl _ _)))
theorem ag16_ob19 : ag16Ob w0 b t T va xs r1 r2 d1 d2 Q 19 := by
  intro o ho a w hb hf hd K hK
  obtain ⟨v17, h17, e17⟩ := dep_k (F := 24) ho hd 17 56 (.val (.bool true)) (by kernel_rfl) (by kernel_rfl) rfl (by kernel_rfl)
  obtain rfl : _ = v17 := Eq.symm e17
  rw [if_pos (wanted_at (g := 17) (b := true) ho (by kernel_rfl) (by kernel_rfl) h17 rfl)]
  exact ob_move (get_op (·.op) ho (by kernel_rfl)) (eval_tmp (hf.2.2 (13, _) (by simp [ag16Fixed]))) (hK _ _ (rk_of rfl rfl) (.inl (Below.refl _ _)))
theorem ag16_ob20 : ag16Ob w0 b t T va xs r1 r2 d1 d2 Q 20 := by
  intro o ho a w hb hf hd K hK
  obtain ⟨v17, h17, e17⟩ := dep_k (F := 24) ho hd 17 56 (.val (.bool true)) (by kernel_rfl) (by kernel_rfl) rfl (by kernel_rfl)
  obtain rfl : _ = v17 := Eq.symm e17
  rw [if_pos (wanted_at (g := 17) (b := true) ho (by kernel_rfl) (by kernel_rfl) h17 rfl)]
  obtain ⟨v18, h18, e18⟩ := dep_k (F := 24) ho hd 18 57 (.val (.int .i64 d1)) (by kernel_rfl) (by kernel_rfl) rfl (by kernel_rfl)
  obtain rfl : _ = v18 := Eq.symm e18
  obtain ⟨v19, h19, e19⟩ := dep_k (F := 24) ho hd 19 58 (.val (.int .i64 d1)) (by kernel_rfl) (by kernel_rfl) rfl (by kernel_rfl)
  obtain rfl : _ = v19 := Eq.symm e19
  have hr : (execOp a.eval o).run Tryz.prog w = .ok (.value (.bool true)) w := by
    have hop : o.op = .binOp .eql 3 (.tmp 57) (.tmp 58) 3 := get_op (·.op) ho (by kernel_rfl)
    unfold execOp
    rw [hop]
    go_simp
  exact ob_run5 hr (hK _ _ (rk_of rfl rfl) (.inl (Below.refl _ _)))
theorem ag16_ob21 : ag16Ob w0 b t T va xs r1 r2 d1 d2 Q 21 := by
  intro o ho a w hb hf hd K hK
  rw [if_pos (wanted_none _ (get_op (·.guard) ho (by kernel_rfl)))]
  obtain ⟨v17, h17, e17⟩ := dep_k (F := 24) ho hd 17 56 (.val (.bool true)) (by kernel_rfl) (by kernel_rfl) rfl (by kernel_rfl)
  obtain rfl : _ = v17 := Eq.symm e17
  obtain ⟨v20, h20, e20⟩ := dep_k (F := 24) ho hd 20 59 (.val (.bool true)) (by kernel_rfl) (by kernel_rfl) rfl (by kernel_rfl)
  obtain rfl : _ = v20 := Eq.symm e20
  exact ob_pick (c := .tmp 56) (x := .tmp 59) (y := .const (.bool false)) (b := true) (get_op (·.op) ho (by kernel_rfl)) (eval_tmp h17) (eval_tmp h20) (hK _ _ (rk_of rfl rfl) (.inl (Below.refl _ _)))
theorem ag16_ob22 : ag16Ob w0 b t T va xs r1 r2 d1 d2 Q 22 := by
  intro o ho a w hb hf hd K hK
  rw [if_pos (wanted_none _ (get_op (·.guard) ho (by kernel_rfl)))]
  obtain ⟨v21, h21, e21⟩ := dep_k (F := 24) ho hd 21 60 (.val (.bool true)) (by kernel_rfl) (by kernel_rfl) rfl (by kernel_rfl)
  obtain rfl : _ = v21 := Eq.symm e21
  exact ob_move (get_op (·.op) ho (by kernel_rfl)) (eval_tmp h21) (hK _ _ (rk_of rfl rfl) (.inl (Below.refl _ _)))
theorem ag16_ob23 : ag16Ob w0 b t T va xs r1 r2 d1 d2 Q 23 := by
  intro o ho a w hb hf hd K hK
  obtain ⟨v22, h22, e22⟩ := dep_k (F := 24) ho hd 22 61 (.val (.bool true)) (by kernel_rfl) (by kernel_rfl) rfl (by kernel_rfl)
  obtain rfl : _ = v22 := Eq.symm e22
  rw [if_pos (wanted_at (g := 22) (b := true) ho (by kernel_rfl) (by kernel_rfl) h22 rfl)]
  exact ob_move (get_op (·.op) ho (by kernel_rfl)) (eval_tmp (hf.2.2 (12, _) (by simp [ag16Fixed]))) (hK _ _ (rk_of rfl rfl) (.inl (Below.refl _ _)))
theorem ag16_ob24 : ag16Ob w0 b t T va xs r1 r2 d1 d2 Q 24 := by
  intro o ho a w hb hf hd K hK
  obtain ⟨v22, h22, e22⟩ := dep_k (F := 24) ho hd 22 61 (.val (.bool true)) (by kernel_rfl) (by kernel_rfl) rfl (by kernel_rfl)
  obtain rfl : _ = v22 := Eq.symm e22
  rw [if_pos (wanted_at (g := 22) (b := true) ho (by kernel_rfl) (by kernel_rfl) h22 rfl)]
  exact ob_move (get_op (·.op) ho (by kernel_rfl)) (eval_tmp (hf.2.2 (14, _) (by simp [ag16Fixed]))) (hK _ _ (rk_of rfl rfl) (.inl (Below.refl _ _)))
theorem ag16_ob25 : ag16Ob w0 b t T va xs r1 r2 d1 d2 Q 25 := by
  intro o ho a w hb hf hd K hK
  obtain ⟨v22, h22, e22⟩ := dep_k (F := 24) ho hd 22 61 (.val (.bool true)) (by kernel_rfl) (by kernel_rfl) rfl (by kernel_rfl)
  obtain rfl : _ = v22 := Eq.symm e22
  rw [if_pos (wanted_at (g := 22) (b := true) ho (by kernel_rfl) (by kernel_rfl) h22 rfl)]
  obtain ⟨v23, h23, e23⟩ := dep_k (F := 24) ho hd 23 62 (.val (.int .i64 d2)) (by kernel_rfl) (by kernel_rfl) rfl (by kernel_rfl)
  obtain rfl : _ = v23 := Eq.symm e23
  obtain ⟨v24, h24, e24⟩ := dep_k (F := 24) ho hd 24 63 (.val (.int .i64 d2)) (by kernel_rfl) (by kernel_rfl) rfl (by kernel_rfl)
  obtain rfl : _ = v24 := Eq.symm e24
  have hr : (execOp a.eval o).run Tryz.prog w = .ok (.value (.bool true)) w := by
    have hop : o.op = .binOp .eql 29 (.tmp 62) (.tmp 63) 29 := get_op (·.op) ho (by kernel_rfl)
    unfold execOp
    rw [hop]
    go_simp
  exact ob_run5 hr (hK _ _ (rk_of rfl rfl) (.inl (Below.refl _ _)))
theorem ag16_ob26 : ag16Ob w0 b t T va xs r1 r2 d1 d2 Q 26 := by
  intro o ho a w hb hf hd K hK
  rw [if_pos (wanted_none _ (get_op (·.guard) ho (by kernel_rfl)))]
  obtain ⟨v22, h22, e22⟩ := dep_k (F := 24) ho hd 22 61 (.val (.bool true)) (by kernel_rfl) (by kernel_rfl) rfl (by kernel_rfl)
  obtain rfl : _ = v22 := Eq.symm e22
  obtain ⟨v25, h25, e25⟩ := dep_k (F := 24) ho hd 25 64 (.val (.bool true)) (by kernel_rfl) (by kernel_rfl) rfl (by kernel_rfl)
  obtain rfl : _ = v25 := Eq.symm e25
  exact ob_pick (c := .tmp 61) (x := .tmp 64) (y := .const (.bool false)) (b := true) (get_op (·.op) ho (by kernel_rfl)) (eval_tmp h22) (eval_tmp h25) (hK _ _ (rk_of rfl rfl) (.inl (Below.refl _ _)))
theorem ag16_ob27 : ag16Ob w0 b t T va xs r1 r2 d1 d2 Q 27 := by
  intro o ho a w hb hf hd K hK
  rw [if_pos (wanted_none _ (get_op (·.guard) ho (by kernel_rfl)))]
  obtain ⟨v26, h26, e26⟩ := dep_k (F := 24) ho hd 26 65 (.val (.bool true)) (by kernel_rfl) (by kernel_rfl) rfl (by kernel_rfl)
  obtain rfl : _ = v26 := Eq.symm e26
  exact ob_assign (get_op (·.op) ho (by kernel_rfl)) (eval_tmp h26) (hK _ _ (rk_of rfl rfl) (.inl (Below.refl _ _)))
theorem ag16_obs (H : ag16Ctx w0 b t T va xs r1 r2 d1 d2) (k : Nat) (hk : k < 28) : ag16Ob w0 b t T va xs r1 r2 d1 d2 Q k := by
  match k, hk with
  | 0, _ => exact ag16_ob0 H
  | 1, _ => exact ag16_ob1
  | 2, _ => exact ag16_ob2 H
  | 3, _ => exact ag16_ob3 H
  | 4, _ => exact ag16_ob4
  | 5, _ => exact ag16_ob5 H
  | 6, _ => exact ag16_ob6
  | 7, _ => exact ag16_ob7
  | 8, _ => exact ag16_ob8
  | 9, _ => exact ag16_ob9
  | 10, _ => exact ag16_ob10
  | 11, _ => exact ag16_ob11
  | 12, _ => exact ag16_ob12
  | 13, _ => exact ag16_ob13
  | 14, _ => exact ag16_ob14
  | 15, _ => exact ag16_ob15
  | 16, _ => exact ag16_ob16
  | 17, _ => exact ag16_ob17
  | 18, _ => exact ag16_ob18
  | 19, _ => exact ag16_ob19
  | 20, _ => exact ag16_ob20
  | 21, _ => exact ag16_ob21
  | 22, _ => exact ag16_ob22
  | 23, _ => exact ag16_ob23
  | 24, _ => exact ag16_ob24
  | 25, _ => exact ag16_ob25
  | 26, _ => exact ag16_ob26
  | 27, _ => exact ag16_ob27
  | m + 28, h => exact absurd h (by omega)
theorem ag16_region {a : Act} (H : ag16Ctx w0 b t T va xs r1 r2 d1 d2) (hf : FS 66 [] (ag16Fixed b va r1 r2 d1 d2) a)
    (hend : ∀ a w, Below w0.heap.size w0 w → FS 66 [] (ag16Fixed b va r1 r2 d1 d2) a → (∀ (i : Nat) (o : Oper) (d : Tmp), (opsAt Tryz.f15 5)[i]? = some o → (∀ j, killK (ag16Specs t T va xs r1 r2 d1 d2) [] i j = false) → o.dst = some d → ∃ v, a.tmps[d]? = some v ∧ RK w0.heap.size (ag16Specs t T va xs r1 r2 d1 d2) i v w) → Q .normal a w) : (Code.region 5 (opsAt Tryz.f15 5) true).wp Tryz.prog Q a w0 := by
  refine wp_region_k 24 (n := 66) (ds := []) (fixed := ag16Fixed b va r1 r2 d1 d2) (specs := ag16Specs t T va xs r1 r2 d1 d2) (apps := []) (by kernel_rfl) (by kernel_rfl) (by kernel_rfl) (by kernel_rfl) hf (fun i hi => ag16_obs H i ?_) hend
  have hn : (opsAt Tryz.f15 5).size = 28 := by kernel_rfl
  omega
end

set_option maxRecDepth 100000 in
set_option maxHeartbeats 2000000 in
theorem agrees16_any (t : Tv) (T : Tab) (v : Value) (xs : List Int) (u : Value) (us : List (List Int)) (w : World) (ht : TabR w w.heap.size t T) (hg : Glob w) (hv : Ints w w.heap.size .i64 v xs) (hu : Lists w w.heap.size u us) :
    Calls Tryz.prog 15 #[t.val, v, u] w fun e w' => e = .returned (.bool true) ∧ Below w.heap.size w w' := by
  obtain ⟨A, c, rfl, _⟩ := id hv
  obtain ⟨A', c', rfl, _⟩ := id hu
  have HB0 : Hid (Below w.heap.size w (w.alloc (.cells t.cells 26))) := Lib.hid ((Below.refl _ _).alloc (Nat.le_refl _) _)
  have HT : Hid (Tbl (w.alloc (.cells t.cells 26)) w.heap.size t T) := Lib.hid ⟨Blk.new _ _ _, ht.later HB0.out⟩
  have HV := Lib.hid (hv.later HB0.out)
  have HU := Lib.hid (hu.later HB0.out)
  have HG := Lib.hid (hg.later HB0.out)
  clear ht hv hu hg
  go_enter Tryz.func15, Tryz.ntmps15
  go_upto_region 1 with fail
  generalize w.alloc (.cells t.cells 26) = w1 at *
  obtain ⟨tb, htb⟩ : ∃ tb, w.heap.size = tb := ⟨_, rfl⟩
  rw [htb] at HT
  simp only [htb]
  have H1 := Lib.hid (fun W (h : Below w1.heap.size w1 W) => rule16_any t T _ xs W (HT.out.later h).2 (HG.out.later h) (HV.out.later h))
  have H2 := Lib.hid (fun W (h : Below w1.heap.size w1 W) => refRule_any t T _ xs W (HT.out.later h).2 (HV.out.later h))
  have H3 := Lib.hid (fun W (h : Below w1.heap.size w1 W) => domain_any t T _ us W (HT.out.later h).2 (HG.out.later h) (HU.out.later h))
  have H4 := Lib.hid (fun W (h : Below w1.heap.size w1 W) => refDomain_any t T _ us W (HT.out.later h).2 (HU.out.later h))
  obtain ⟨r1, r2, hr⟩ : ∃ r1 r2, ruleR T xs = (r1, r2) := ⟨_, _, rfl⟩
  obtain ⟨d1, d2, hx⟩ : ∃ d1 d2, domR T us = (d1, d2) := ⟨_, _, rfl⟩
  rw [hr] at H1 H2
  rw [hx] at H3 H4
  clear hr hx
  obtain ⟨x0, x1, x2, x3, x4, x5, x6, x7, x8, x9, x10, x11⟩ := HT.out.1.tab
  go_upto_region 2 with (go_at_call 39; refine (H1.out _ (Below.refl _ _)).mono ?_; rintro e w2 ⟨rfl, b2⟩; have B2 := Lib.hid b2; clear b2)
  clear x0 x1 x2 x3 x4 x5 x6 x7 x8 x9 x10 x11
  obtain ⟨x0, x1, x2, x3, x4, x5, x6, x7, x8, x9, x10, x11⟩ := (HT.out.later B2.out).1.tab
  go_upto_region 3 with (go_at_call 19; refine (H2.out _ B2.out).mono ?_; rintro e w3 ⟨rfl, b3⟩; have B3 := Lib.hid (below_next B2.out b3); clear b3)
  clear x0 x1 x2 x3 x4 x5 x6 x7 x8 x9 x10 x11
  obtain ⟨x0, x1, x2, x3, x4, x5, x6, x7, x8, x9, x10, x11⟩ := (HT.out.later B3.out).1.tab
  go_upto_region 4 with (go_at_call 17; refine (H3.out _ B3.out).mono ?_; rintro e w4 ⟨rfl, b4⟩; have B4 := Lib.hid (below_next B3.out b4); clear b4)
  clear x0 x1 x2 x3 x4 x5 x6 x7 x8 x9 x10 x11
  obtain ⟨x0, x1, x2, x3, x4, x5, x6, x7, x8, x9, x10, x11⟩ := (HT.out.later B4.out).1.tab
  go_upto_region 5 with (go_at_call 41; refine (H4.out _ B4.out).mono ?_; rintro e w5 ⟨rfl, b5⟩; have B5 := Lib.hid (below_next B4.out b5); clear b5)
  clear x0 x1 x2 x3 x4 x5 x6 x7 x8 x9 x10 x11
  refine wp_region_as (ops := (opsAt Tryz.f15 5)) (by kernel_rfl) ?_
  refine ag16_region (b := tb) (t := t) (T := T) (va := .slice A xs.length c) (xs := xs) (r1 := r1) (r2 := r2) (d1 := d1) (d2 := d2) ⟨HT.out.later B5.out, HG.out.later B5.out, HV.out.later B5.out⟩ ⟨rfl, rfl, by intro p hp; simp [ag16Fixed] at hp; rcases hp with rfl | rfl | rfl | rfl | rfl | rfl | rfl | rfl | rfl | rfl <;> rfl⟩ ?_
  intro a w9 hc hf hr
  obtain ⟨v9, hv9, e9⟩ := end_k hr 27 6 (.val (.bool true)) (by kernel_rfl) rfl (by kernel_rfl)
  obtain rfl : v9 = .bool true := e9
  rename_i K hK
  refine hK a w9 ?_
  go_wp2
  exact bodyPost_ret (v := .bool true) (by simp [results, Tryz.results15, hv9]) hf.2.1 ⟨rfl, below_next HB0.out (below_next B5.out hc)⟩
end Go.Proofs.YtjigjjbhdgpfjaaGreatDoor
/-
  Literals of one, two and three slices.
-/
namespace Go.Proofs.YtjigjjbhdgpfjaaGreatDoor
open Go.RowKit

theorem lists_one (w : World) (u : Value) (xs : List Int) (h1 : Ints w w.heap.size .i64 u xs) :
    Lists (w.alloc (.cells #[u] 22)) (w.alloc (.cells #[u] 22)).heap.size (.slice (some ⟨w.heap.size, 0, none⟩) 1 1) [xs] :=
  lists_lit w [u] [xs] rfl (by simp) fun i a ys h h' => by
    match i, h, h' with
    | 0, h, h' => simp at h h'; subst h h'; exact h1
    | i + 1, h, _ => simp at h
theorem lists_two (w : World) (u v : Value) (xs ys : List Int) (h1 : Ints w w.heap.size .i64 u xs) (h2 : Ints w w.heap.size .i64 v ys) :
    Lists (w.alloc (.cells #[u, v] 22)) (w.alloc (.cells #[u, v] 22)).heap.size (.slice (some ⟨w.heap.size, 0, none⟩) 2 2) [xs, ys] :=
  lists_lit w [u, v] [xs, ys] rfl (by simp) fun i a zs h h' => by
    match i, h, h' with
    | 0, h, h' => simp at h h'; subst h h'; exact h1
    | 1, h, h' => simp at h h'; subst h h'; exact h2
    | i + 2, h, _ => simp at h
theorem lists_three (w : World) (u v z : Value) (xs ys zs : List Int) (h1 : Ints w w.heap.size .i64 u xs) (h2 : Ints w w.heap.size .i64 v ys) (h3 : Ints w w.heap.size .i64 z zs) :
    Lists (w.alloc (.cells #[u, v, z] 22)) (w.alloc (.cells #[u, v, z] 22)).heap.size (.slice (some ⟨w.heap.size, 0, none⟩) 3 3) [xs, ys, zs] :=
  lists_lit w [u, v, z] [xs, ys, zs] rfl (by simp) fun i a qs h h' => by
    match i, h, h' with
    | 0, h, h' => simp at h h'; subst h h'; exact h1
    | 1, h, h' => simp at h h'; subst h h'; exact h2
    | 2, h, h' => simp at h h'; subst h h'; exact h3
    | i + 3, h, _ => simp at h
end Go.Proofs.YtjigjjbhdgpfjaaGreatDoor
