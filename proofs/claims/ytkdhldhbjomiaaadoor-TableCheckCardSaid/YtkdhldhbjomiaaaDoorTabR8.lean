/-
  The walk through table.unique: rule 8.
-/
import Derived.Test.YtkdhldhbjomiaaaDoorTabRefComp
import Derived.Test.YtkdhldhbjomiaaaDoorMap
namespace Go.Proofs.YtkdhldhbjomiaaaDoor
open Go.RowKit ND

/-- The sequences of the composable ones among the first j rows. -/
def pairsTo (T : Tab) (j : Nat) : List (List Int) := ((T.decomps.take j).filter (fun m => T.comp m.1)).map (·.2)
theorem pairsTo_sub (T : Tab) (j : Nat) : (pairsTo T j).Sublist T.pairs := ((List.take_sublist j _).filter _).map _
theorem pairsTo_all (T : Tab) : pairsTo T T.decomps.length = T.pairs := by unfold pairsTo Tab.pairs; rw [List.take_length]
theorem pairsTo_no {T : Tab} {j : Nat} {m : Mp} (hx : T.decomps[j]? = some m) (h : T.comp m.1 = false) : pairsTo T (j + 1) = pairsTo T j := by
  unfold pairsTo; rw [take_snoc' hx, List.filter_append, List.map_append]; simp [h]
theorem pairsTo_yes {T : Tab} {j : Nat} {m : Mp} (hx : T.decomps[j]? = some m) (h : T.comp m.1 = true) : pairsTo T (j + 1) = pairsTo T j ++ [m.2] := by
  unfold pairsTo; rw [take_snoc' hx, List.filter_append, List.map_append]; simp [h]
def twoL (q : Int × Int) : List Int := [q.1, q.2]
theorem comp_form {T : Tab} {c : Int} (h : T.comp c = true) : ∃ a b, findL T.decomps c = [a, b] := by
  unfold Tab.comp at h
  cases hl : T.decomps.length with
  | zero => rw [hl] at h; cases h
  | succ f =>
    rw [hl, Tab.compF] at h
    split at h
    · rename_i a b he; exact ⟨a, b, he⟩
    · cases h

set_option maxRecDepth 100000 in
set_option maxHeartbeats 4000000 in
theorem unique_any (t : Tv) (T : Tab) (hsh : Shape T) (hne : ∀ m ∈ T.decomps, m.2 ≠ [] ∧ m.2.length ≤ 1000) (hen : Ends T) (w : World) (ht : TabR w w.heap.size t T) :
    Calls Tryd.prog 39 #[t.val] w fun e w' => e = .returned (.bool T.rule8) ∧ Below w.heap.size w w' := by
  obtain ⟨tc, htc⟩ : ∃ tc, tc = t.cells := ⟨_, rfl⟩
  have hs := keysB_sort hsh.kd
  have HCO := Lib.hid (fun c to sv W (h : TabR W W.heap.size t T) h2 h3 => composable_any t T hsh hne T.decomps.length c to sv W h h2 h3 (hen c).1)
  have HT := Lib.hid (fun W (h : Below w.heap.size w W) => ht.later h)
  have hmp := ht.r9
  obtain ⟨A0, A1, A2, A3, A4, A5, A6, A7, A8, A9, A10, A11, k0, k1, k2, k3, k4, k5, k6, k7, k8, k9, k10, k11, rfl⟩ := ht.shape
  have HTC := Lib.hid htc
  obtain ⟨B, cq, hB, _, _, _, hcell2⟩ := hmp
  cases hB
  have HM := Lib.hid hcell2
  have HFK := Lib.hid (fun i m (h : T.decomps[i]? = some m) => (findL_at (fun k a hk ha => hs k i a m hk ha h) h rfl : findL T.decomps m.1 = m.2))
  have hlen := hsh.ld
  have hmm := @run_makeMap Tryd.prog
  obtain ⟨i0, hi, _, _, _⟩ := info_parts Tryd.infoInt'
  clear ht htc hne hcell2 hs hsh hen
  obtain ⟨R, hR⟩ : ∃ R, R = T.rule8 := ⟨_, rfl⟩
  rw [← hR]
  have HR : Hid (R = decide T.pairs.Nodup) := Lib.hid hR
  clear hR
  go_enter Tryd.func39, Tryd.ntmps39
  go_wp2_with fail
  clear hmm
  go_loopw [11] (fun i wr => ∃ (j : Nat) (qs : List (Int × Int)), j ≤ T.decomps.length ∧ i = .int .i64 j ∧ Hid (qs.map twoL = pairsTo T j ∧ qs.Nodup) ∧ Below w.heap.size w wr ∧ Hid (Blk wr w.heap.size 26 tc) ∧ Hid (OwnsP wr (w.heap.size + 1) qs)) (fun i _ => T.decomps.length - (intOf i).toNat)
  case atStart =>
    refine ⟨0, [], by omega, rfl, Lib.hid ⟨rfl, .nil⟩, ((Below.refl _ _).alloc (Nat.le_refl _) _).alloc (by simp) _, Lib.hid (by rw [HTC.out]; exact (Blk.new _ _ _).alloc _), Lib.hid ?_⟩
    have h := OwnsP.new (w.alloc (.cells tc 26))
    rw [show (w.alloc (.cells tc 26)).heap.size = w.heap.size + 1 by simp, HTC.out] at h
    exact h
  case round =>
    obtain ⟨j, qs, hj, rfl, HS, hbel, HB, HO⟩ := hrel
    by_cases hjl : j < T.decomps.length
    · obtain ⟨⟨cc, to⟩, hxj, _⟩ := get_el hjl
      obtain ⟨aj, sv, rfl, ha, d0, d1, hto⟩ := HM.out j _ hxj
      simp only at d0 d1 hto
      have hto' := (hto.below hbel).more hbel.size
      obtain ⟨A', c', rfl, he1, he2, _, hcl⟩ := id hto
      obtain ⟨e0, e1⟩ := map_cells hbel ha d0 d1
      have HX := Lib.hid hxj
      have hfk := HFK.out j _ hxj
      simp only at hfk
      have hbelw := hbel.alloc hbel.size (.cells #[.int .i64 cc, .slice A' to.length c'] 54)
      have HB' := Lib.hid (HB.out.alloc (.cells #[.int .i64 cc, .slice A' to.length c'] 54))
      obtain ⟨x0, x1, x2, x3, x4, x5, x6, x7, x8, x9, x10, x11⟩ := (show Blk _ _ _ #[_, _, _, _, _, _, _, _, _, _, _, _] from by have h := HB'.out; rw [HTC.out] at h; exact h).tab
      have HCA := Lib.hid (HCO.out cc to _ _ (HT.out _ hbelw) (hto'.later ((Below.refl _ _).alloc (Nat.le_refl _) (.cells #[.int .i64 cc, .slice A' to.length c'] 54))) hfk)
      have HCL := Lib.hid hcl
      have HFD := Lib.hid hfk
      have hOb := HO.out.lt
      clear d0 d1 hxj hto hto' hcl hfk HB
      have r0 : (0 : Int) ≤ (j : Int) := by omega
      have r1 : (j : Int) < (T.decomps.length : Int) := by omega
      cases hco : T.compF T.decomps.length cc
      · rw [hco] at HCA
        have HN : Hid (qs.map twoL = pairsTo T (j + 1) ∧ qs.Nodup) := Lib.hid ⟨by rw [pairsTo_no HX.out hco]; exact HS.out.1, HS.out.2⟩
        have HO' := Lib.hid (HO.out.later ((Below.refl _ _).alloc (Nat.le_refl _) (.cells #[.int .i64 cc, .slice A' to.length c'] 54)))
        clear hco
        go_wp2_with fail
        refine HCA.out.mono ?_
        rintro e w2 ⟨rfl, b2⟩
        have HB2 := Lib.hid (HB'.out.later b2)
        have HO2 := Lib.hid (HO'.out.later b2)
        clear x0 x1 x2 x3 x4 x5 x6 x7 x8 x9 x10 x11 e0 e1 HB'
        go_wp2_with fail
        go_roundw
        case rel => exact ⟨j + 1, qs, by omega, by go_num, HN, below_next hbelw b2, HB2, HO2⟩
        case measure => simp [intOf]; omega
      · rw [hco] at HCA
        have HO' := Lib.hid (HO.out.later ((Below.refl _ _).alloc (Nat.le_refl _) (.cells #[.int .i64 cc, .slice A' to.length c'] 54)))
        obtain ⟨a, b, hab⟩ := comp_form (T := T) (c := cc) hco
        rw [HFD.out] at hab
        obtain ⟨ad, hA', had, h0⟩ := HCL.out 0 a (by rw [hab]; rfl)
        subst hA'
        obtain ⟨_, hA', _, h1⟩ := HCL.out 1 b (by rw [hab]; rfl)
        cases hA'
        have hl2 : to.length = 2 := by rw [hab]; rfl
        have l0 : (0 : Int) < (to.length : Int) := by omega
        have l1 : (1 : Int) < (to.length : Int) := by omega
        have l0' : 0 < to.length := by omega
        have l1' : 1 < to.length := by omega
        have HAB := Lib.hid hab
        have HNX := Lib.hid (pairsTo_yes HX.out hco)
        have HD := Lib.hid (And.intro h0 (show w.cell? { block := ad.block, off := ad.off + 1, spot := none } = some (.int .i64 b) from h1))
        clear hco HCL h0 h1 hab hl2
        go_wp2_with fail
        refine HCA.out.mono ?_
        rintro e w2 ⟨rfl, b2⟩
        have hbel2 := below_next hbelw b2
        have HB2 := Lib.hid (HB'.out.later b2)
        have HO2 := Lib.hid (HO'.out.later b2)
        have m1 := ((Blk.new wr 54 #[.int .i64 cc, .slice (some ad) to.length c']).later b2).at_ (i := 1) (u := .slice (some ad) to.length c') rfl
        have a0 : w2.cell? ad = some (.int .i64 a) := (hbel2.cell (p := ad) had).trans HD.out.1
        have b0 := (hbel2.cell (p := { block := ad.block, off := ad.off + 1, spot := none }) had).trans HD.out.2
        clear x0 x1 x2 x3 x4 x5 x6 x7 x8 x9 x10 x11 e0 e1 HB'
        go_wp2_with fail
        have := World.new_ne w2 _ m1
        have := World.new_ne w2 _ a0
        have := World.new_ne w2 _ b0
        go_region_held3 (fun w' => w'.cell? ⟨wr.heap.size, 1, none⟩ = some (.slice (some ad) to.length c') ∧ w'.cell? ad = some (.int .i64 a) ∧ w'.cell? { block := ad.block, off := ad.off + 1, spot := none } = some (.int .i64 b)) (go_keep) (fail)
        clear m1 a0 b0
        have hO6 : OwnsP (w2.alloc (.cells #[.int .i64 a, .int .i64 b] 103)).drew (w.heap.size + 1) qs := HO2.out.later ((Below.refl w2.heap.size w2).alloc (Nat.le_refl _) (.cells #[.int .i64 a, .int .i64 b] 103)).drew
        have hB6 : Blk (w2.alloc (.cells #[.int .i64 a, .int .i64 b] 103)).drew w.heap.size 26 tc := HB2.out.alloc _
        have hbel6 : Below w.heap.size w (w2.alloc (.cells #[.int .i64 a, .int .i64 b] 103)).drew := (hbel2.alloc hbel2.size _).drew
        have hlk : (Instr.lookup 101 (.map (some (w.heap.size + 1))) (.agg #[.int .i64 a, .int .i64 b]) false).run Tryd.prog (w2.alloc (.cells #[.int .i64 a, .int .i64 b] 103)).drew = .ok (.bool (decide ((a, b) ∈ qs))) (w2.alloc (.cells #[.int .i64 a, .int .i64 b] 103)).drew :=
          hO6.lookup Tryd.underlying101 (fun _ => by kernel_rfl) Tryd.underlying103 Tryd.underlying3 hi (by kernel_rfl) (by kernel_rfl) (a, b)
        have HO6 := Lib.hid hO6
        have HB6 := Lib.hid hB6
        have HT2 : Hid (twoL (a, b) = to) := Lib.hid HAB.out.symm
        clear hO6 hB6
        by_cases hm : (a, b) ∈ qs
        · have HRF : Hid (R = false) := Lib.hid (by
            rw [HR.out, decide_eq_false_iff_not]
            intro hn
            have h1 := hn.sublist (pairsTo_sub T (j + 1))
            rw [HNX.out, ← HS.out.1, ← HT2.out, List.nodup_append] at h1
            exact h1.2.2 (twoL (a, b)) (List.mem_map_of_mem hm) (twoL (a, b)) (List.mem_singleton.2 rfl) rfl)
          rw [decide_eq_true hm] at hlk
          clear hm
          go_wp2_with fail
          go_ret
          rw [HRF.out]
          exact ⟨rfl, hbel6⟩
        · rw [decide_eq_false hm] at hlk
          obtain ⟨w7, hup, hO7, hg7⟩ := HO6.out.update Tryd.underlying101 Tryd.underlying103 Tryd.underlying3 hi (by kernel_rfl) (by kernel_rfl) (a, b) hm
          have hup' : (Instr.mapUpdate 101 (.map (some (w.heap.size + 1))) (.agg #[.int .i64 a, .int .i64 b]) (.bool true)).run Tryd.prog (w2.alloc (.cells #[.int .i64 a, .int .i64 b] 103)).drew = .ok () w7 := hup
          have HN : Hid ((qs ++ [(a, b)]).map twoL = pairsTo T (j + 1) ∧ (qs ++ [(a, b)]).Nodup) := Lib.hid ⟨by rw [HNX.out, List.map_append, HS.out.1, ← HT2.out]; rfl, by
            rw [List.nodup_append]
            exact ⟨HS.out.2, by simp, fun x hx y hy e => by rw [List.mem_singleton] at hy; subst hy; subst e; exact hm hx⟩⟩
          have HB7 := Lib.hid (HB6.out.grown hg7 (by intro e; injection e with e; omega))
          have hbel7 : Below w.heap.size w w7 := hbel6.grown hg7 hbel6.size (fun k hk => by cases hk; omega)
          have HO7 := Lib.hid hO7
          clear hm hup hg7 hO7
          go_wp2_with fail
          go_roundw
          case rel => exact ⟨j + 1, qs ++ [(a, b)], by omega, by go_num, HN, hbel7, HB7, HO7⟩
          case measure => simp [intOf]; omega
    · obtain rfl : j = T.decomps.length := by omega
      have HRT : Hid (R = true) := Lib.hid (by
        rw [HR.out, decide_eq_true_iff, ← pairsTo_all, ← HS.out.1]
        exact List.Pairwise.map _ (fun p q (h : p ≠ q) e => h (by obtain ⟨p1, p2⟩ := p; obtain ⟨q1, q2⟩ := q; unfold twoL at e; simp at e; rw [e.1, e.2])) HS.out.2)
      go_wp2_with fail
      go_ret
      rw [HRT.out]
      exact ⟨rfl, hbel⟩
end Go.Proofs.YtkdhldhbjomiaaaDoor
