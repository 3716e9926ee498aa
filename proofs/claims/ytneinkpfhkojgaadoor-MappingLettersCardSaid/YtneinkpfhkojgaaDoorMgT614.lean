/-
  Merged texts: lemmas and walks that the last text of this claim leans on.
-/
import Derived.Test.YtneinkpfhkojgaaDoorMgT68
import Derived.Test.YtneinkpfhkojgaaDoorMgT613
import Derived.Deep.AppendLies
/-
  The walk through the law MappingLetters.
-/
namespace Go.Proofs.YtneinkpfhkojgaaDoor
open Go.RowKit ND

section
variable {P : Program} {ops : Array Oper} {rest : List Oper} {o : Oper} {a : Act} {X : World} {Q : Exit → Act → World → Prop} {T e : TypeId} {i0 : TypeInfo}
/-- append(v, y) behind a row of the call's own: in the row's block, or in a new one. -/
theorem wpList_push1 (hgd : o.guard = none) (s x : Operand)
    (ho : o.op = .call { callee := .builtin .append, args := #[s, x], argTypes := #[T, T] }) (ht : P.underlying T = some (.slice e)) (hi : P.info? e = some i0) (hz : i0.zero = some (.int .i64 0)) (h1 : i0.size = 1) (h2 : i0.bytes = 8)
    (base : Nat) (v : Value) (acc : List Int) (k : Nat) (y : Int) (hs : a.eval s = v) (hx : a.eval x = .slice (some ⟨k, 0, none⟩) 1 1) (hown : X.ownsRow base e 1 v acc.length (acc.map (Value.int .i64))) (hk : Blk X k e #[.int .i64 y]) (hl : acc.length ≤ 100000) (hb : base ≤ X.heap.size)
    (h : ∀ g cap w', w'.ownsRow base e 1 (.slice (some ⟨g, 0, none⟩) (acc ++ [y]).length cap) (acc ++ [y]).length ((acc ++ [y]).map (Value.int .i64)) → X.grownBy w' v.ownBlock → (v.ownBlock = some g ∨ g = X.heap.size) → wpList P ops Q rest (a.put o.dst (.slice (some ⟨g, 0, none⟩) (acc.length + 1) cap)) w') : wpList P ops Q (o :: rest) a X :=
  wpList_step fun K hK => step_append_lies _ hgd s x T ho base e i0 (.int .i64 0) 1 8 ht hi hz h1 h2 rfl (by omega) v acc.length _ hs hown ⟨k, 0, none⟩ 1 1 [.int .i64 y] hx rfl (fun j u hj => by
      cases j with
      | zero => simp at hj; subst hj; exact hk.at_ (i := 0) rfl
      | succ j => simp at hj) (fun u hu => by simp at hu; subst hu; rfl) (by omega) (by unfold maxLen; omega) (by omega) hb X.heap.size rfl
    fun g cap w' p q r _ => hK _ _ (h g cap w' (by simpa using p) q r)
end

def letL (m : Int) : Int := 97 + m % 26
def inpL (m : Int) : Int := if 128 ≤ m then letL m - 32 else letL m
theorem emod_in (m : Int) : 0 ≤ m % 26 ∧ m % 26 < 26 := by
  exact ⟨Int.emod_nonneg _ (by omega), Int.emod_lt_of_pos _ (by omega)⟩
theorem stat_low (T : Tab) {c : Int} (h : 97 ≤ c ∧ c ≤ 122) : T.statusOf c = 1 := by
  unfold Tab.statusOf
  rw [propL_own (fun e => by rw [lenC_zero] at e; have := (scalarB_iff c).2 (by omega); rw [this] at e; cases e) (by rw [resB_iff]; omega)]
  unfold fixC; rw [if_pos h]
theorem stat_up (T : Tab) {c : Int} (h : 65 ≤ c ∧ c ≤ 90) : T.statusOf c = 3 := by
  unfold Tab.statusOf
  rw [propL_own (fun e => by rw [lenC_zero] at e; have := (scalarB_iff c).2 (by omega); rw [this] at e; cases e) (by rw [resB_iff]; omega)]
  unfold fixC; rw [if_neg (by omega), if_pos h]
theorem map_let (T : Tab) (m : Int) : mapOne T (inpL m) = [letL m] ∧ T.statusOf (inpL m) ≠ 0 ∧ scalarB (inpL m) = true := by
  obtain ⟨h1, h2⟩ := emod_in m
  unfold inpL
  by_cases h3 : 128 ≤ m
  · rw [if_pos h3]
    have hs := stat_up T (c := letL m - 32) (by unfold letL; omega)
    refine ⟨?_, by omega, (scalarB_iff _).2 (by unfold letL; omega)⟩
    unfold mapOne Tab.mapsOf
    rw [if_neg (by omega), if_pos hs, if_pos (by unfold letL; omega)]
    rw [show letL m - 32 + 32 = letL m by omega]
  · rw [if_neg h3]
    have hs := stat_low T (c := letL m) (by unfold letL; omega)
    refine ⟨?_, by omega, (scalarB_iff _).2 (by unfold letL; omega)⟩
    unfold mapOne; rw [if_pos (.inl hs)]
theorem map_lets {T : Tab} (hck : T.check = 0) {l : List Int} (hl : l.length ≤ 60) : mapR T (l.map inpL) = (l.map letL, 0, 0) := by
  have e1 : accE T (l.map inpL) = 0 := accE_ok hck (by simp; omega) (by
    rw [List.all_eq_true]
    intro x hx
    obtain ⟨m, hm, rfl⟩ := List.mem_map.1 hx
    exact (map_let T m).2.2)
  have e2 : mapOut T (l.map inpL) = l.map letL := by
    clear e1 hl
    induction l with
    | nil => rfl
    | cons m r ih =>
      have h1 := (map_let T m).1
      have h2 := ih
      unfold mapOut at h2 ⊢
      rw [List.map_cons, List.flatMap_cons, h1, h2]; rfl
  have e3 : badAt T 0 (l.map inpL) = none := (badAt_none _ _).2 fun c hc => by
    obtain ⟨m, hm, rfl⟩ := List.mem_map.1 hc
    exact (map_let T m).2.1
  rw [mapR_ok e1 e3 (by rw [e2]; simp; omega), e2]
theorem take_map {f : Int → Int} {l : List Int} {j : Nat} {m : Int} (h : l[j]? = some m) : (l.take (j + 1)).map f = (l.take j).map f ++ [f m] := by
  obtain ⟨a, e⟩ := List.getElem?_eq_some_iff.1 h
  rw [List.take_succ_eq_append_getElem a, List.map_append, e]; rfl

set_option maxRecDepth 100000 in
set_option maxHeartbeats 4000000 in
theorem MappingLetters_go (W : World) (hg : Glob W) (v : Value) (xs : List Int) (hv : Ints W W.heap.size .i64 v xs) (vm : Value) (ms : List Int) (hm : Ints W W.heap.size .u8 vm ms) (hmr : ∀ x ∈ ms, 0 ≤ x ∧ x ≤ 255) :
    Calls Tryd.prog 8 #[v, vm] W fun e W' => e = .returned (.bool true) ∧ Below W.heap.size W W' := by
  have HG := Lib.hid hg
  have HM := Lib.hid hm
  have HMR := Lib.hid hmr
  obtain ⟨Ax, cx, rfl, _⟩ := id hv
  obtain ⟨Am, cm, rfl, hmc1, hmc2, _⟩ := id hm
  have hml : ms.length ≤ 9223372036854775807 := by unfold maxLen at hmc2; omega
  have HT := Lib.hid (keepTables_any W _ xs hv)
  clear hv hg hm hmr hmc1 hmc2
  go_enter Tryd.func8, Tryd.ntmps8
  go_upto_region 2 with (go_at_call 14; refine HT.out.mono ?_; rintro e w1 ⟨t, T, rfl, ht1, hm1, hb1⟩; obtain ⟨A0, A1, A2, A3, A4, A5, A6, A7, A8, A9, A10, A11, k0, k1, k2, k3, k4, k5, k6, k7, k8, k9, k10, k11, rfl⟩ := ht1.shape; have HT1 := Lib.hid ht1; have HM1 := Lib.hid hm1; have HB1 := Lib.hid hb1; clear ht1 hm1 hb1)
  obtain ⟨t, ht, htb⟩ := Tbl.new HT1.out
  have HT2 := Lib.hid htb
  have HB2 := Lib.hid (HB1.out.alloc HB1.out.size (.cells #[.slice A0 T.category.length k0, .slice A1 T.cls.length k1, .slice A2 T.joining.length k2, .slice A3 T.bidi.length k3, .slice A4 T.script.length k4, .slice A5 T.status.length k5, .slice A6 T.ignorable.length k6, .slice A7 T.extensions.length k7, .slice A8 T.maps.length k8, .slice A9 T.decomps.length k9, .slice A10 T.excluded.length k10, .slice A11 T.prototypes.length k11] 26))
  clear htb HT1 HT
  generalize w1.alloc (.cells #[.slice A0 T.category.length k0, .slice A1 T.cls.length k1, .slice A2 T.joining.length k2, .slice A3 T.bidi.length k3, .slice A4 T.script.length k4, .slice A5 T.status.length k5, .slice A6 T.ignorable.length k6, .slice A7 T.extensions.length k7, .slice A8 T.maps.length k8, .slice A9 T.decomps.length k9, .slice A10 T.excluded.length k10, .slice A11 T.prototypes.length k11] 26) = w2 at *
  generalize w1.heap.size = tb at *
  clear ht
  have HCK := Lib.hid HM1.out.check
  have HG2 := Lib.hid (HG.out.later HB2.out)
  have HM2 := Lib.hid (HM.out.later HB2.out)
  clear HG HM HM1
  obtain ⟨i0, hi, hz0, hz1, hz2⟩ := info_parts Tryd.infoInt'
  go_wp2_with fail
  go_loopw [8, 6, 7] (fun s8 s6 s7 wr => ∃ (j : Nat) (ins ws : List Int) (A6 : Option Addr) (c6 : Nat) (A7 : Option Addr) (c7 : Nat), s8 = .int .i64 j ∧ s6 = .slice A6 ins.length c6 ∧ s7 = .slice A7 ws.length c7 ∧ j ≤ 60 ∧ j ≤ ms.length ∧ Hid (ins.length = j ∧ ws.length = j) ∧ Hid (ins = (ms.take j).map inpL ∧ ws = (ms.take j).map letL) ∧ Hid (wr.ownsRow w2.heap.size 3 1 (.slice A6 ins.length c6) ins.length (ins.map (Value.int .i64))) ∧ Hid (wr.ownsRow w2.heap.size 3 1 (.slice A7 ws.length c7) ws.length (ws.map (Value.int .i64))) ∧ Hid (∀ q, (Value.slice A6 ins.length c6).ownBlock = some q → (Value.slice A7 ws.length c7).ownBlock ≠ some q) ∧ Hid (Below w2.heap.size w2 wr)) (fun i _ _ _ => 61 - (intOf i).toNat)
  case atStart => exact ⟨0, [], [], none, 0, none, 0, rfl, rfl, rfl, by omega, by omega, Lib.hid ⟨rfl, rfl⟩, Lib.hid ⟨rfl, rfl⟩, Lib.hid (World.ownsRow_nil _ _ _ _), Lib.hid (World.ownsRow_nil _ _ _ _), Lib.hid (fun q h => by cases h), Lib.hid (Below.refl _ _)⟩
  case round =>
    obtain ⟨j, ins, ws, A6, c6, A7, c7, rfl, rfl, rfl, hj60, hjm, HL, HS, HO6, HO7, HD, HBr⟩ := hrel
    by_cases hlt : j < ms.length
    · by_cases h60 : j < 60
      · obtain ⟨m, hm, hmm⟩ := get_of hlt
        obtain ⟨_, _, hve, _, _, _, hcell⟩ := HM2.out
        cases hve
        obtain ⟨ad, rfl, ha, hce⟩ := hcell j m hm
        have HE1 : Hid (∀ V, Below w2.heap.size w2 V → V.cell? (ad.add j) = some (.int .u8 m)) := Lib.hid fun V hV => (hV.cell (p := ad.add j) (by rw [block_of_add]; exact ha)).trans hce
        have e1 := HE1.out wr HBr.out
        obtain ⟨m0, m1⟩ := HMR.out m hmm
        obtain ⟨r0, r1⟩ := emod_in m
        have q0 : (0 : Int) ≤ (j : Int) := by omega
        have q1 : (j : Int) < (ms.length : Int) := by omega
        have q2 : (j : Int) < 60 := by omega
        have HI1 := Lib.hid (take_map (f := inpL) hm)
        have HI2 := Lib.hid (take_map (f := letL) hm)
        clear hcell ha hce hm hmm
        go_upto_region 8 with (at_builtin; refine wpList_push1 rfl (.tmp 32) (.tmp 34) rfl Tryd.underlying22 hi hz0 hz1 hz2 w2.heap.size (.slice A7 ws.length c7) ws wr.heap.size (97 + m % 26) rfl rfl (HO7.out.alloc _) (Blk.new wr 3 #[.int .i64 (97 + m % 26)]) (by have := HL.out.2; omega) (by have := HBr.out.size; simp; omega) ?_; intro g7 cap7 w6 ho7 hg7 hr7; have HO7' := Lib.hid ho7; have HO6' : Hid (w6.ownsRow w2.heap.size 3 1 (.slice A6 ins.length c6) ins.length (ins.map (Value.int .i64))) := Lib.hid ((HO6.out.alloc _).kept hg7 (by cases hq : (Value.slice A6 ins.length c6).ownBlock with | none => exact .inl rfl | some q => exact .inr (fun e => HD.out q hq e.symm))); have HD' : Hid (∀ q, (Value.slice A6 ins.length c6).ownBlock = some q → (Value.slice (some ⟨g7, 0, none⟩) (ws ++ [97 + m % 26]).length cap7).ownBlock ≠ some q) := Lib.hid (fun q hq e => by simp only [Value.ownBlock, Option.some.injEq] at e; subst e; rcases hr7 with h | h <;> first | exact HD.out _ hq h | (have := (HO6.out.lt _ hq).2; simp at h; omega)); have B6 := Lib.hid ((HBr.out.alloc HBr.out.size (.cells #[.int .i64 (97 + m % 26)] 3)).grown hg7 (by have := HBr.out.size; simp; omega) (fun q hq => (HO7.out.lt q hq).1) : Below w2.heap.size w2 w6); have e2 := HE1.out w6 B6.out; clear ho7 hg7 hr7 e1)
        by_cases h128 : 128 ≤ m
        · have HI1x := HI1.out
          rw [show inpL m = 97 + m % 26 - 32 by unfold inpL letL; rw [if_pos h128]] at HI1x
          have HN : Hid (ins ++ [97 + m % 26 - 32] = (ms.take (j + 1)).map inpL ∧ ws ++ [97 + m % 26] = (ms.take (j + 1)).map letL) := Lib.hid ⟨by rw [HI1x, HS.out.1], by rw [HI2.out, HS.out.2]; rfl⟩
          clear HI1x
          go_wp2_with (at_builtin; refine wpList_push1 rfl (.tmp 43) (.tmp 45) rfl Tryd.underlying22 hi hz0 hz1 hz2 w2.heap.size (.slice A6 ins.length c6) ins w6.heap.size (97 + m % 26 - 32) rfl rfl (HO6'.out.alloc _) (Blk.new w6 3 #[.int .i64 (97 + m % 26 - 32)]) (by have := HL.out.1; omega) (by have := B6.out.size; simp; omega) ?_; intro g8 cap8 w8 ho8 hg8 hr8; have HO8 := Lib.hid ho8; have HO7'' : Hid (w8.ownsRow w2.heap.size 3 1 (.slice (some ⟨g7, 0, none⟩) (ws ++ [97 + m % 26]).length cap7) (ws ++ [97 + m % 26]).length ((ws ++ [97 + m % 26]).map (Value.int .i64))) := Lib.hid ((HO7'.out.alloc _).kept hg8 (.inr (fun e => HD'.out g7 e.symm rfl))); have HD'' : Hid (∀ q, (Value.slice (some ⟨g8, 0, none⟩) (ins ++ [97 + m % 26 - 32]).length cap8).ownBlock = some q → (Value.slice (some ⟨g7, 0, none⟩) (ws ++ [97 + m % 26]).length cap7).ownBlock ≠ some q) := Lib.hid (fun q hq e => by simp only [Value.ownBlock, Option.some.injEq] at hq e; subst hq; subst e; rcases hr8 with h | h <;> first | exact HD'.out _ h rfl | (have := (HO7'.out.lt g7 rfl).2; simp at h; omega)); have B8 := Lib.hid ((B6.out.alloc B6.out.size (.cells #[.int .i64 (97 + m % 26 - 32)] 3)).grown hg8 (by have := B6.out.size; simp; omega) (fun q hq => (HO6'.out.lt q hq).1) : Below w2.heap.size w2 w8); clear ho8 hg8 hr8)
          go_roundw
          case rel => exact ⟨j + 1, ins ++ [97 + m % 26 - 32], ws ++ [97 + m % 26], some ⟨g8, 0, none⟩, cap8, some ⟨g7, 0, none⟩, cap7, by go_num, by simp, by simp, by omega, by omega, Lib.hid ⟨by have := HL.out.1; simp; omega, by have := HL.out.2; simp; omega⟩, HN, HO8, HO7'', HD'', B8⟩
          case measure => simp [intOf]; omega
        · have HI1x := HI1.out
          rw [show inpL m = 97 + m % 26 by unfold inpL letL; rw [if_neg h128]] at HI1x
          have HN : Hid (ins ++ [97 + m % 26] = (ms.take (j + 1)).map inpL ∧ ws ++ [97 + m % 26] = (ms.take (j + 1)).map letL) := Lib.hid ⟨by rw [HI1x, HS.out.1], by rw [HI2.out, HS.out.2]; rfl⟩
          clear HI1x
          go_wp2_with (at_builtin; refine wpList_push1 rfl (.tmp 43) (.tmp 45) rfl Tryd.underlying22 hi hz0 hz1 hz2 w2.heap.size (.slice A6 ins.length c6) ins w6.heap.size (97 + m % 26) rfl rfl (HO6'.out.alloc _) (Blk.new w6 3 #[.int .i64 (97 + m % 26)]) (by have := HL.out.1; omega) (by have := B6.out.size; simp; omega) ?_; intro g8 cap8 w8 ho8 hg8 hr8; have HO8 := Lib.hid ho8; have HO7'' : Hid (w8.ownsRow w2.heap.size 3 1 (.slice (some ⟨g7, 0, none⟩) (ws ++ [97 + m % 26]).length cap7) (ws ++ [97 + m % 26]).length ((ws ++ [97 + m % 26]).map (Value.int .i64))) := Lib.hid ((HO7'.out.alloc _).kept hg8 (.inr (fun e => HD'.out g7 e.symm rfl))); have HD'' : Hid (∀ q, (Value.slice (some ⟨g8, 0, none⟩) (ins ++ [97 + m % 26]).length cap8).ownBlock = some q → (Value.slice (some ⟨g7, 0, none⟩) (ws ++ [97 + m % 26]).length cap7).ownBlock ≠ some q) := Lib.hid (fun q hq e => by simp only [Value.ownBlock, Option.some.injEq] at hq e; subst hq; subst e; rcases hr8 with h | h <;> first | exact HD'.out _ h rfl | (have := (HO7'.out.lt g7 rfl).2; simp at h; omega)); have B8 := Lib.hid ((B6.out.alloc B6.out.size (.cells #[.int .i64 (97 + m % 26)] 3)).grown hg8 (by have := B6.out.size; simp; omega) (fun q hq => (HO6'.out.lt q hq).1) : Below w2.heap.size w2 w8); clear ho8 hg8 hr8)
          go_roundw
          case rel => exact ⟨j + 1, ins ++ [97 + m % 26], ws ++ [97 + m % 26], some ⟨g8, 0, none⟩, cap8, some ⟨g7, 0, none⟩, cap7, by go_num, by simp, by simp, by omega, by omega, Lib.hid ⟨by have := HL.out.1; simp; omega, by have := HL.out.2; simp; omega⟩, HN, HO8, HO7'', HD'', B8⟩
          case measure => simp [intOf]; omega
      · have q2 : ¬ (j : Int) < 60 := by omega
        have q1 : (j : Int) < (ms.length : Int) := by omega
        have hmp := map_lets HCK.out (l := ms.take j) (by simp; omega)
        rw [← HS.out.1, ← HS.out.2] at hmp
        have B6 := Lib.hid HBr.out
        have HTr := Lib.hid (HT2.out.later HBr.out)
        have H1 := Lib.hid (map_any t T (.slice A6 ins.length c6) ins wr HTr.out.2 (HG2.out.later HBr.out) (Ints.of_own HO6.out))
        rw [hmp] at H1
        have HW7 := Lib.hid (Ints.of_own HO7.out)
        clear hmp
        obtain ⟨x0, x1, x2, x3, x4, x5, x6, x7, x8, x9, x10, x11⟩ := HTr.out.1.tab
        go_wp2_with (first
          | (go_at_call 23; refine H1.out.mono ?_; rintro e w7 ⟨u7, rfl, ho7, b7⟩; obtain ⟨A9, c9, rfl, _⟩ := id (Ints.of_own ho7); have HU7 := Lib.hid (Ints.of_own ho7); have B7 := Lib.hid (below_next B6.out b7); have HW8 := Lib.hid (HW7.out.later b7); clear ho7 b7 H1)
          | (go_at_call 24; refine (awake13 _ (HG2.out.later B7.out)).mono ?_; rintro e w8 ⟨rfl, b8⟩; have B8 := Lib.hid (below_next B7.out b8); have HU8 := Lib.hid (HU7.out.later b8); have HW9 := Lib.hid (HW8.out.later b8); clear b8)
          | (go_at_call 20; have h := same_any _ _ ws ws w8 HU8.out HW9.out; rw [decide_eq_true rfl] at h; refine h.mono ?_; rintro e w9 ⟨rfl, b9⟩; clear h))
        go_ret
        exact ⟨rfl, below_next HB2.out (below_next B8.out b9)⟩
    · have q1 : ¬ (j : Int) < (ms.length : Int) := by omega
      have hmp := map_lets HCK.out (l := ms.take j) (by simp; omega)
      rw [← HS.out.1, ← HS.out.2] at hmp
      have B6 := Lib.hid HBr.out
      have HTr := Lib.hid (HT2.out.later HBr.out)
      have H1 := Lib.hid (map_any t T (.slice A6 ins.length c6) ins wr HTr.out.2 (HG2.out.later HBr.out) (Ints.of_own HO6.out))
      rw [hmp] at H1
      have HW7 := Lib.hid (Ints.of_own HO7.out)
      clear hmp
      obtain ⟨x0, x1, x2, x3, x4, x5, x6, x7, x8, x9, x10, x11⟩ := HTr.out.1.tab
      go_wp2_with (first
        | (go_at_call 23; refine H1.out.mono ?_; rintro e w7 ⟨u7, rfl, ho7, b7⟩; obtain ⟨A9, c9, rfl, _⟩ := id (Ints.of_own ho7); have HU7 := Lib.hid (Ints.of_own ho7); have B7 := Lib.hid (below_next B6.out b7); have HW8 := Lib.hid (HW7.out.later b7); clear ho7 b7 H1)
        | (go_at_call 24; refine (awake13 _ (HG2.out.later B7.out)).mono ?_; rintro e w8 ⟨rfl, b8⟩; have B8 := Lib.hid (below_next B7.out b8); have HU8 := Lib.hid (HU7.out.later b8); have HW9 := Lib.hid (HW8.out.later b8); clear b8)
        | (go_at_call 20; have h := same_any _ _ ws ws w8 HU8.out HW9.out; rw [decide_eq_true rfl] at h; refine h.mono ?_; rintro e w9 ⟨rfl, b9⟩; clear h))
      go_ret
      exact ⟨rfl, below_next HB2.out (below_next B8.out b9)⟩
theorem MappingLetters_walk (W : World) (hg : Glob W) (v : Value) (xs : List Int) (hv : Ints W W.heap.size .i64 v xs) (_ : ∀ x ∈ xs, -9223372036854775808 ≤ x ∧ x ≤ 9223372036854775807) (_ : xs.length * 8 ≤ 140737488351232) (vm : Value) (ms : List Int) (hm : Ints W W.heap.size .u8 vm ms) (hmr : ∀ x ∈ ms, 0 ≤ x ∧ x ≤ 255) (_ : ms.length * 1 ≤ 140737488351232) :
    Calls Tryd.prog 8 #[v, vm] W fun e W' => e = .returned (.bool true) ∧ Below W.heap.size W W' := MappingLetters_go W hg v xs hv vm ms hm hmr
end Go.Proofs.YtneinkpfhkojgaaDoor
