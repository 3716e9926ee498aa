/-
  Merged texts: lemmas and walks that the last text of this claim leans on.
-/
import Derived.Test.YtikcfoobfobmnaaGreatDoorMgB71
import Derived.ChangeKeysEq
import Derived.Maps.Own
import Derived.Test.YtikcfoobfobmnaaGreatDoorMgB721
import Derived.Test.YtikcfoobfobmnaaGreatDoorMgB77
import Derived.Test.YtikcfoobfobmnaaGreatDoorRows
import Derived.Test.YtikcfoobfobmnaaGreatDoorMgB73
import Derived.Test.YtikcfoobfobmnaaGreatDoorMgB74
import Derived.LaidMore
import Derived.OpenShut
import Derived.Deep.DeepHandedRow
import Derived.ProofKit
/-
  A map whose keys are pairs of integers and whose elements are true: looking up and adding.
-/
namespace Go.Proofs.YtikcfoobfobmnaaGreatDoor
open Go.RowKit Go.ChangeMaps

def pairV (p : Int × Int) : Value := .agg #[.int .i64 p.1, .int .i64 p.2]
section
variable {P : Program} {K E : TypeId} {i : TypeInfo}
theorem run_equal_pair (hK : P.underlying K = some (.array 2 E)) (hE : P.underlying E = some (.int .i64)) (hi : P.info? E = some i) (hp : P.plainKey E = true) (hc : P.cellsOf E = 1) (w : World) (p q : Int × Int) :
    (Op.equal K (pairV p) (pairV q)).run P w = .ok (decide (p = q)) w := by
  have e1 : ∀ (d : Nat) (a b : Int) (w : World), (Op.equalIn (d + 1) E (.int .i64 a) (.int .i64 b)).run P w = .ok (a == b) w := fun d a b w => by
    simp [Op.equalIn, run_underlying hE]
  show (Op.equalIn (9999 + 1) K (.agg #[.int .i64 p.1, .int .i64 p.2]) (.agg #[.int .i64 q.1, .int .i64 q.2])).run P w = _
  rw [run_equalIn_array w 9999 _ _ hK hi, hc]
  have p0 : ∀ (w : World) (a b : Int), (part E #[.int .i64 a, .int .i64 b] 0).run P w = .ok (.int .i64 a) w := fun w a b => run_part_plain w hp rfl
  have p1 : ∀ (w : World) (a b : Int), (part E #[.int .i64 a, .int .i64 b] 1).run P w = .ok (.int .i64 b) w := fun w a b => run_part_plain w hp rfl
  have hr : List.range 2 = [0, 1] := rfl
  rw [hr]
  simp only [Op.eqItems, Sem.run_bind, Nat.zero_mul, Nat.one_mul, p0, Result.andThen_ok, e1 9998]
  obtain ⟨a, b⟩ := p
  obtain ⟨c, d⟩ := q
  simp only [Prod.mk.injEq]
  by_cases h1 : a = c
  · have hb1 : (a == c) = true := by rw [beq_iff_eq]; exact h1
    rw [hb1]
    by_cases h2 : b = d
    · have hb2 : (b == d) = true := by rw [beq_iff_eq]; exact h2
      subst h2
      have e2 : (Op.equalIn 9999 E (.int .i64 b) (.int .i64 b)).run P w = .ok (b == b) w := e1 9998 b b w
      rw [decide_eq_true ⟨h1, rfl⟩]
      simp [p1, e2]
    · have hb2 : (b == d) = false := by rw [beq_eq_false_iff_ne]; exact h2
      have e2 : (Op.equalIn 9999 E (.int .i64 b) (.int .i64 d)).run P w = .ok (b == d) w := e1 9998 b d w
      rw [decide_eq_false (fun h => h2 h.2)]
      simp [p1, e2, h2]
  · have hb1 : (a == c) = false := by rw [beq_eq_false_iff_ne]; exact h1
    rw [hb1, decide_eq_false (fun h => h1 h.1)]
    simp
theorem run_checkKey_pair (hK : P.underlying K = some (.array 2 E)) (hE : P.underlying E = some (.int .i64)) (hi : P.info? E = some i) (hp : P.plainKey E = true) (hc : P.cellsOf E = 1) (e : Bool) (w : World) (p : Int × Int) :
    (Instr.checkKey e 10000 K (pairV p)).run P w = .ok () w := by
  have e1 : ∀ (d : Nat) (a : Int) (w : World), (Instr.checkKey e (d + 1) E (.int .i64 a)).run P w = .ok () w := fun d a w => by
    simp [Instr.checkKey, run_underlying hE]
  have p0 : ∀ (w : World) (a b : Int), (part E #[.int .i64 a, .int .i64 b] 0).run P w = .ok (.int .i64 a) w := fun w a b => run_part_plain w hp rfl
  have p1 : ∀ (w : World) (a b : Int), (part E #[.int .i64 a, .int .i64 b] 1).run P w = .ok (.int .i64 b) w := fun w a b => run_part_plain w hp rfl
  have hr : List.range' 0 2 = [0, 1] := rfl
  show (Instr.checkKey e (9999 + 1) K (.agg #[.int .i64 p.1, .int .i64 p.2])).run P w = _
  unfold Instr.checkKey
  simp only [Sem.run_bind, run_underlying hK, Result.andThen_ok]
  simp only [Std.Legacy.Range.forIn_eq_forIn_range', Std.Legacy.Range.size, Nat.sub_zero, Nat.add_one_sub_one, Nat.div_one, hr, List.forIn_cons, List.forIn_nil, Sem.run_bind, run_sizeOf w hi, hc, Result.andThen_ok, Nat.zero_mul, Nat.one_mul, p0, p1, e1 9998, Sem.run_pure]

theorem run_findAsking (hK : P.underlying K = some (.array 2 E)) (hE : P.underlying E = some (.int .i64)) (hi : P.info? E = some i) (hp : P.plainKey E = true) (hc : P.cellsOf E = 1) (w : World) (p : Int × Int) : ∀ (es : List MapEntry) (qs : List (Int × Int)) (n : Nat), es.map (·.key) = qs.map pairV → (∀ e ∈ es, e.val = .bool true) →
    (p ∉ qs → (Instr.findAsking K (pairV p) es n).run P w = .ok none w) ∧ (p ∈ qs → ∃ j, (Instr.findAsking K (pairV p) es n).run P w = .ok (some (j, .bool true)) w) := by
  intro es
  induction es with
  | nil =>
    intro qs n h _
    obtain rfl : qs = [] := by cases qs with
      | nil => rfl
      | cons a r => cases h
    exact ⟨fun _ => rfl, fun h => by cases h⟩
  | cons e es ih =>
    intro qs n h hv
    cases qs with
    | nil => cases h
    | cons q qs =>
      simp only [List.map_cons, List.cons.injEq] at h
      obtain ⟨hk, hr⟩ := h
      obtain ⟨ih1, ih2⟩ := ih qs (n + 1) hr (fun x hx => hv x (List.mem_cons_of_mem _ hx))
      have he := run_equal_pair hK hE hi hp hc w p q
      by_cases hpq : p = q
      · refine ⟨fun hn => absurd (by rw [hpq]; exact List.mem_cons_self) hn, fun _ => ⟨n, ?_⟩⟩
        unfold Instr.findAsking
        rw [hk]
        simp only [Sem.run_bind, he, Result.andThen_ok, decide_eq_true hpq, if_true, hv e List.mem_cons_self, Sem.run_pure]
      · have hstep : (Instr.findAsking K (pairV p) (e :: es) n).run P w = (Instr.findAsking K (pairV p) es (n + 1)).run P w := by
          rw [Instr.findAsking.eq_def]
          simp only [hk, Sem.run_bind, he, Result.andThen_ok, decide_eq_false hpq, Bool.false_eq_true, if_false]
        rw [hstep]
        exact ⟨fun hn => ih1 (fun h => hn (List.mem_cons_of_mem _ h)), fun hm => ih2 ((List.mem_cons.1 hm).resolve_left hpq)⟩
theorem run_findKey_pair (hK : P.underlying K = some (.array 2 E)) (hE : P.underlying E = some (.int .i64)) (hi : P.info? E = some i) (hp : P.plainKey E = true) (hc : P.cellsOf E = 1) (w : World) (p : Int × Int) (es : List MapEntry) (qs : List (Int × Int)) (h : es.map (·.key) = qs.map pairV) (hv : ∀ e ∈ es, e.val = .bool true) :
    (p ∉ qs → (Instr.findKey K (pairV p) es).run P w = .ok none w) ∧ (p ∈ qs → ∃ j, (Instr.findKey K (pairV p) es).run P w = .ok (some (j, .bool true)) w) := by
  have hf := run_findAsking hK hE hi hp hc w p es qs 0 h hv
  cases es with
  | nil =>
    obtain rfl : qs = [] := by cases qs with
      | nil => rfl
      | cons a r => cases h
    refine ⟨fun _ => ?_, fun h => by cases h⟩
    simp [Instr.findKey, run_underlying hK, Instr.findNow]
  | cons e es =>
    have hn : Instr.findNow (.array 2 E) (pairV p) (e :: es) 0 = none := by
      unfold Instr.findNow Instr.sameNow
      rfl
    have he : (Instr.findKey K (pairV p) (e :: es)).run P w = (Instr.findAsking K (pairV p) (e :: es) 0).run P w := by
      simp only [Instr.findKey, Sem.run_bind, run_underlying hK, Result.andThen_ok, hn]
    rw [he]
    exact hf

/-- Block b is a map whose keys are the pairs qs, in the order in which they came, and whose elements are true. -/
def OwnsP (w : World) (b : Nat) (qs : List (Int × Int)) : Prop := ∃ es clock, w.heap[b]? = some (.map es clock) ∧ es.toList.map (·.key) = qs.map pairV ∧ ∀ e ∈ es.toList, e.val = .bool true
theorem OwnsP.lt {w : World} {b : Nat} {qs : List (Int × Int)} (h : OwnsP w b qs) : b < w.heap.size := by
  obtain ⟨es, c, h, _⟩ := h; exact (Array.getElem?_eq_some_iff.1 h).1
theorem OwnsP.later {w w' : World} {b : Nat} {qs : List (Int × Int)} (h : OwnsP w b qs) (hb : Below w.heap.size w w') : OwnsP w' b qs := by
  have hl := h.lt
  obtain ⟨es, c, h, r⟩ := h; exact ⟨es, c, (hb.block b hl).trans h, r⟩
theorem OwnsP.new (w : World) : OwnsP (w.alloc (.map #[] 0)) w.heap.size [] := ⟨#[], 0, heap_alloc_new w _, rfl, by simp⟩
theorem OwnsP.lookup {M : TypeId} {w : World} {b : Nat} {qs : List (Int × Int)} (h : OwnsP w b qs) {B : TypeId} (hM : P.underlying M = some (.map K B)) (hz : ∀ w, (zeroValue B).run P w = .ok (.bool false) w)
    (hK : P.underlying K = some (.array 2 E)) (hE : P.underlying E = some (.int .i64)) (hi : P.info? E = some i) (hp : P.plainKey E = true) (hc : P.cellsOf E = 1) (p : Int × Int) :
    (Instr.lookup M (.map (some b)) (pairV p) false).run P w = .ok (.bool (decide (p ∈ qs))) w := by
  obtain ⟨es, clock, hb, hk, hv⟩ := h
  obtain ⟨h1, h2⟩ := run_findKey_pair hK hE hi hp hc w p es.toList qs hk hv
  by_cases hm : p ∈ qs
  · obtain ⟨j, hj⟩ := h2 hm
    simp [Instr.lookup, run_underlying hM, MapKept.run_getObj_map hb, run_checkKey_pair hK hE hi hp hc, hj, Result.andThen, hm]
  · simp [Instr.lookup, run_underlying hM, MapKept.run_getObj_map hb, run_checkKey_pair hK hE hi hp hc, h1 hm, Result.andThen, hm, hz]
theorem OwnsP.update {M : TypeId} {w : World} {b : Nat} {qs : List (Int × Int)} (h : OwnsP w b qs) {B : TypeId} (hM : P.underlying M = some (.map K B))
    (hK : P.underlying K = some (.array 2 E)) (hE : P.underlying E = some (.int .i64)) (hi : P.info? E = some i) (hp : P.plainKey E = true) (hc : P.cellsOf E = 1) (p : Int × Int) (hm : p ∉ qs) :
    ∃ w', (Instr.mapUpdate M (.map (some b)) (pairV p) (.bool true)).run P w = .ok () w' ∧ OwnsP w' b (qs ++ [p]) ∧ w.grownBy w' (some b) := by
  obtain ⟨es, clock, hb, hk, hv⟩ := h
  obtain ⟨h1, _⟩ := run_findKey_pair hK hE hi hp hc w p es.toList qs hk hv
  have hl := (Array.getElem?_eq_some_iff.1 hb).1
  refine ⟨setBlock w b (.map (es.push ⟨pairV p, .bool true, clock⟩) (clock + 1)), ?_, ⟨es.push ⟨pairV p, .bool true, clock⟩, clock + 1, ?_, ?_, ?_⟩, ?_⟩
  · simp [Instr.mapUpdate, run_underlying hM, MapKept.run_getObj_map hb, run_checkKey_pair hK hE hi hp hc, h1 hm, MapKept.run_setObj_map _ hb, Result.andThen, setBlock]
  · simp [setBlock, hl]
  · simp [hk]
  · intro e he
    simp only [Array.toList_push, List.mem_append, List.mem_singleton] at he
    rcases he with he | rfl
    · exact hv e he
    · rfl
  · refine ⟨rfl, rfl, rfl, by simp [setBlock], fun k hk hne => ?_⟩
    have : k ≠ b := fun e => hne (by rw [e])
    simp [setBlock, Ne.symm this]
end
end Go.Proofs.YtikcfoobfobmnaaGreatDoor
/-
  The walk through table.unique: rule 8.
-/
namespace Go.Proofs.YtikcfoobfobmnaaGreatDoor
open Go.RowKit ND

/-- The sequences of the composable ones among the first j rows. -/
def pairsTo (T : Tab) (j : Nat) : List (List Int) := ((T.decomps.take j).filter (fun m => T.comp m.1)).map (·.2)
theorem pairsTo_sub (T : Tab) (j : Nat) : (pairsTo T j).Sublist T.pairs := ((List.take_sublist j _).filter _).map _
theorem pairsTo_all (T : Tab) : pairsTo T T.decomps.length = T.pairs := by unfold pairsTo Tab.pairs; rw [List.take_length]
theorem pairsTo_no {T : Tab} {j : Nat} {m : Mp} (hx : T.decomps[j]? = some m) (h : T.comp m.1 = false) : pairsTo T (j + 1) = pairsTo T j := by
  unfold pairsTo; rw [take_snoc' hx, List.filter_append, List.map_append]; simp [h]
theorem pairsTo_yes {T : Tab} {j : Nat} {m : Mp} (hx : T.decomps[j]? = some m) (h : T.comp m.1 = true) : pairsTo T (j + 1) = pairsTo T j ++ [m.2] := by
  unfold pairsTo; rw [take_snoc' hx, List.filter_append, List.map_append]; simp [h]
def twoL (q : Int × Int) : List Int := [q.1, q.2]
theorem comp_form {T : Tab} {c : Int} (h : T.comp c = true) : ∃ a b, findL T.decomps c = [a, b] := by
  unfold Tab.comp at h
  cases hl : T.decomps.length with
  | zero => rw [hl] at h; cases h
  | succ f =>
    rw [hl, Tab.compF] at h
    split at h
    · rename_i a b he; exact ⟨a, b, he⟩
    · cases h

set_option maxRecDepth 100000 in
set_option maxHeartbeats 4000000 in
theorem unique_any (t : Tv) (T : Tab) (hsh : Shape T) (hne : ∀ m ∈ T.decomps, m.2 ≠ [] ∧ m.2.length ≤ 1000) (hen : Ends T) (w : World) (ht : TabR w w.heap.size t T) :
    Calls Tryz.prog 62 #[t.val] w fun e w' => e = .returned (.bool T.rule8) ∧ Below w.heap.size w w' := by
  obtain ⟨tc, htc⟩ : ∃ tc, tc = t.cells := ⟨_, rfl⟩
  have hs := keysB_sort hsh.kd
  have HCO := Lib.hid (fun c tg sv W (h : TabR W W.heap.size t T) h2 h3 => composable_any t T hsh hne T.decomps.length c tg sv W h h2 h3 (hen c).1)
  have HT := Lib.hid (fun W (h : Below w.heap.size w W) => ht.later h)
  have hmp := ht.r9
  obtain ⟨A0, A1, A2, A3, A4, A5, A6, A7, A8, A9, A10, A11, k0, k1, k2, k3, k4, k5, k6, k7, k8, k9, k10, k11, rfl⟩ := ht.shape
  have HTC := Lib.hid htc
  obtain ⟨B, cq, hB, _, _, _, hcell2⟩ := hmp
  cases hB
  have HM := Lib.hid hcell2
  have HFK := Lib.hid (fun i m (h : T.decomps[i]? = some m) => (findL_at (fun k a hk ha => hs k i a m hk ha h) h rfl : findL T.decomps m.1 = m.2))
  have hlen := hsh.ld
  have hmm := @run_makeMap Tryz.prog
  obtain ⟨i0, hi, _, _, _⟩ := info_parts Tryz.infoInt'
  clear ht htc hne hcell2 hs hsh hen
  obtain ⟨R, hR⟩ : ∃ R, R = T.rule8 := ⟨_, rfl⟩
  rw [← hR]
  have HR : Hid (R = decide T.pairs.Nodup) := Lib.hid hR
  clear hR
  go_enter Tryz.func62, Tryz.ntmps62
  go_wp2_with fail
  clear hmm
  go_loopw [11] (fun i wr => ∃ (j : Nat) (qs : List (Int × Int)), j ≤ T.decomps.length ∧ i = .int .i64 j ∧ Hid (qs.map twoL = pairsTo T j ∧ qs.Nodup) ∧ Below w.heap.size w wr ∧ Hid (Blk wr w.heap.size 29 tc) ∧ Hid (OwnsP wr (w.heap.size + 1) qs)) (fun i _ => T.decomps.length - (intOf i).toNat)
  case atStart =>
    refine ⟨0, [], by omega, rfl, Lib.hid ⟨rfl, .nil⟩, ((Below.refl _ _).alloc (Nat.le_refl _) _).alloc (by simp) _, Lib.hid (by rw [HTC.out]; exact (Blk.new _ _ _).alloc _), Lib.hid ?_⟩
    have h := OwnsP.new (w.alloc (.cells tc 29))
    rw [show (w.alloc (.cells tc 29)).heap.size = w.heap.size + 1 by simp, HTC.out] at h
    exact h
  case round =>
    obtain ⟨j, qs, hj, rfl, HS, hbel, HB, HO⟩ := hrel
    by_cases hjl : j < T.decomps.length
    · obtain ⟨⟨cc, tg⟩, hxj, _⟩ := get_el hjl
      obtain ⟨aj, sv, rfl, ha, d0, d1, hto⟩ := HM.out j _ hxj
      simp only at d0 d1 hto
      have hto' := (hto.below hbel).more hbel.size
      obtain ⟨A', c', rfl, he1, he2, _, hcl⟩ := id hto
      obtain ⟨e0, e1⟩ := map_cells hbel ha d0 d1
      have HX := Lib.hid hxj
      have hfk := HFK.out j _ hxj
      simp only at hfk
      have hbelw := hbel.alloc hbel.size (.cells #[.int .i64 cc, .slice A' tg.length c'] 51)
      have HB' := Lib.hid (HB.out.alloc (.cells #[.int .i64 cc, .slice A' tg.length c'] 51))
      obtain ⟨x0, x1, x2, x3, x4, x5, x6, x7, x8, x9, x10, x11⟩ := (show Blk _ _ _ #[_, _, _, _, _, _, _, _, _, _, _, _] from by have h := HB'.out; rw [HTC.out] at h; exact h).tab
      have HCA := Lib.hid (HCO.out cc tg _ _ (HT.out _ hbelw) (hto'.later ((Below.refl _ _).alloc (Nat.le_refl _) (.cells #[.int .i64 cc, .slice A' tg.length c'] 51))) hfk)
      have HCL := Lib.hid hcl
      have HFD := Lib.hid hfk
      have hOb := HO.out.lt
      clear d0 d1 hxj hto hto' hcl hfk HB
      have r0 : (0 : Int) ≤ (j : Int) := by omega
      have r1 : (j : Int) < (T.decomps.length : Int) := by omega
      cases hco : T.compF T.decomps.length cc
      · rw [hco] at HCA
        have HN : Hid (qs.map twoL = pairsTo T (j + 1) ∧ qs.Nodup) := Lib.hid ⟨by rw [pairsTo_no HX.out hco]; exact HS.out.1, HS.out.2⟩
        have HO' := Lib.hid (HO.out.later ((Below.refl _ _).alloc (Nat.le_refl _) (.cells #[.int .i64 cc, .slice A' tg.length c'] 51)))
        clear hco
        go_wp2_with fail
        refine HCA.out.mono ?_
        rintro e w2 ⟨rfl, b2⟩
        have HB2 := Lib.hid (HB'.out.later b2)
        have HO2 := Lib.hid (HO'.out.later b2)
        clear x0 x1 x2 x3 x4 x5 x6 x7 x8 x9 x10 x11 e0 e1 HB'
        go_wp2_with fail
        go_roundw
        case rel => exact ⟨j + 1, qs, by omega, by go_num, HN, below_next hbelw b2, HB2, HO2⟩
        case measure => simp [intOf]; omega
      · rw [hco] at HCA
        have HO' := Lib.hid (HO.out.later ((Below.refl _ _).alloc (Nat.le_refl _) (.cells #[.int .i64 cc, .slice A' tg.length c'] 51)))
        obtain ⟨a, b, hab⟩ := comp_form (T := T) (c := cc) hco
        rw [HFD.out] at hab
        obtain ⟨ad, hA', had, h0⟩ := HCL.out 0 a (by rw [hab]; rfl)
        subst hA'
        obtain ⟨_, hA', _, h1⟩ := HCL.out 1 b (by rw [hab]; rfl)
        cases hA'
        have hl2 : tg.length = 2 := by rw [hab]; rfl
        have l0 : (0 : Int) < (tg.length : Int) := by omega
        have l1 : (1 : Int) < (tg.length : Int) := by omega
        have l0' : 0 < tg.length := by omega
        have l1' : 1 < tg.length := by omega
        have HAB := Lib.hid hab
        have HNX := Lib.hid (pairsTo_yes HX.out hco)
        have HD := Lib.hid (And.intro h0 (show w.cell? { block := ad.block, off := ad.off + 1, spot := none } = some (.int .i64 b) from h1))
        clear hco HCL h0 h1 hab hl2
        go_wp2_with fail
        refine HCA.out.mono ?_
        rintro e w2 ⟨rfl, b2⟩
        have hbel2 := below_next hbelw b2
        have HB2 := Lib.hid (HB'.out.later b2)
        have HO2 := Lib.hid (HO'.out.later b2)
        have m1 := ((Blk.new wr 51 #[.int .i64 cc, .slice (some ad) tg.length c']).later b2).at_ (i := 1) (u := .slice (some ad) tg.length c') rfl
        have a0 : w2.cell? ad = some (.int .i64 a) := (hbel2.cell (p := ad) had).trans HD.out.1
        have b0 := (hbel2.cell (p := { block := ad.block, off := ad.off + 1, spot := none }) had).trans HD.out.2
        clear x0 x1 x2 x3 x4 x5 x6 x7 x8 x9 x10 x11 e0 e1 HB'
        go_wp2_with fail
        have := World.new_ne w2 _ m1
        have := World.new_ne w2 _ a0
        have := World.new_ne w2 _ b0
        go_region_held3 (fun w' => w'.cell? ⟨wr.heap.size, 1, none⟩ = some (.slice (some ad) tg.length c') ∧ w'.cell? ad = some (.int .i64 a) ∧ w'.cell? { block := ad.block, off := ad.off + 1, spot := none } = some (.int .i64 b)) (go_keep) (fail)
        clear m1 a0 b0
        have hO6 : OwnsP (w2.alloc (.cells #[.int .i64 a, .int .i64 b] 118)).drew (w.heap.size + 1) qs := HO2.out.later ((Below.refl w2.heap.size w2).alloc (Nat.le_refl _) (.cells #[.int .i64 a, .int .i64 b] 118)).drew
        have hB6 : Blk (w2.alloc (.cells #[.int .i64 a, .int .i64 b] 118)).drew w.heap.size 29 tc := HB2.out.alloc _
        have hbel6 : Below w.heap.size w (w2.alloc (.cells #[.int .i64 a, .int .i64 b] 118)).drew := (hbel2.alloc hbel2.size _).drew
        have hlk : (Instr.lookup 116 (.map (some (w.heap.size + 1))) (.agg #[.int .i64 a, .int .i64 b]) false).run Tryz.prog (w2.alloc (.cells #[.int .i64 a, .int .i64 b] 118)).drew = .ok (.bool (decide ((a, b) ∈ qs))) (w2.alloc (.cells #[.int .i64 a, .int .i64 b] 118)).drew :=
          hO6.lookup Tryz.underlying116 (fun _ => by kernel_rfl) Tryz.underlying118 Tryz.underlying3 hi (by kernel_rfl) (by kernel_rfl) (a, b)
        have HO6 := Lib.hid hO6
        have HB6 := Lib.hid hB6
        have HT2 : Hid (twoL (a, b) = tg) := Lib.hid HAB.out.symm
        clear hO6 hB6
        by_cases hm : (a, b) ∈ qs
        · have HRF : Hid (R = false) := Lib.hid (by
            rw [HR.out, decide_eq_false_iff_not]
            intro hn
            have h1 := hn.sublist (pairsTo_sub T (j + 1))
            rw [HNX.out, ← HS.out.1, ← HT2.out, List.nodup_append] at h1
            exact h1.2.2 (twoL (a, b)) (List.mem_map_of_mem hm) (twoL (a, b)) (List.mem_singleton.2 rfl) rfl)
          rw [decide_eq_true hm] at hlk
          clear hm
          go_wp2_with fail
          go_ret
          rw [HRF.out]
          exact ⟨rfl, hbel6⟩
        · rw [decide_eq_false hm] at hlk
          obtain ⟨w7, hup, hO7, hg7⟩ := HO6.out.update Tryz.underlying116 Tryz.underlying118 Tryz.underlying3 hi (by kernel_rfl) (by kernel_rfl) (a, b) hm
          have hup' : (Instr.mapUpdate 116 (.map (some (w.heap.size + 1))) (.agg #[.int .i64 a, .int .i64 b]) (.bool true)).run Tryz.prog (w2.alloc (.cells #[.int .i64 a, .int .i64 b] 118)).drew = .ok () w7 := hup
          have HN : Hid ((qs ++ [(a, b)]).map twoL = pairsTo T (j + 1) ∧ (qs ++ [(a, b)]).Nodup) := Lib.hid ⟨by rw [HNX.out, List.map_append, HS.out.1, ← HT2.out]; rfl, by
            rw [List.nodup_append]
            exact ⟨HS.out.2, by simp, fun x hx y hy e => by rw [List.mem_singleton] at hy; subst hy; subst e; exact hm hx⟩⟩
          have HB7 := Lib.hid (HB6.out.grown hg7 (by intro e; injection e with e; omega))
          have hbel7 : Below w.heap.size w w7 := hbel6.grown hg7 hbel6.size (fun k hk => by cases hk; omega)
          have HO7 := Lib.hid hO7
          clear hm hup hg7 hO7
          go_wp2_with fail
          go_roundw
          case rel => exact ⟨j + 1, qs ++ [(a, b)], by omega, by go_num, HN, hbel7, HB7, HO7⟩
          case measure => simp [intOf]; omega
    · obtain rfl : j = T.decomps.length := by omega
      have HRT : Hid (R = true) := Lib.hid (by
        rw [HR.out, decide_eq_true_iff, ← pairsTo_all, ← HS.out.1]
        exact List.Pairwise.map _ (fun p q (h : p ≠ q) e => h (by obtain ⟨p1, p2⟩ := p; obtain ⟨q1, q2⟩ := q; unfold twoL at e; simp at e; rw [e.1, e.2])) HS.out.2)
      go_wp2_with fail
      go_ret
      rw [HRT.out]
      exact ⟨rfl, hbel⟩
end Go.Proofs.YtikcfoobfobmnaaGreatDoor
/-
  The walk through one property of table.
-/
namespace Go.Proofs.YtikcfoobfobmnaaGreatDoor
open Go.RowKit ND

set_option maxRecDepth 100000 in
set_option maxHeartbeats 400000 in
theorem ignorable_any (t : Tv) (T : Tab) (c lo hi : Int) (w : World) (ht : TabR w w.heap.size t T) (hs : okS lo hi (-1) T.ignorable = true) (hlen : T.ignorable.length ≤ 256) :
    Calls Tryz.prog 113 #[t.val, .int .i64 c] w fun e w' => e = .returned (.bool (T.ignB c)) ∧ Below w.heap.size w w' := by
  have HP := Lib.hid (fun W (h : Spans W W.heap.size t.c6 T.ignorable) => value_any t.c6 T.ignorable c lo hi W h hs hlen)
  have hr := ht.r6
  have HR := Lib.hid (fun o : Obj => hr.later ((Below.refl _ _).alloc (Nat.le_refl _) o))
  clear hr ht hs hlen
  go_enter Tryz.func113, Tryz.ntmps113
  go_wp2_with fail
  refine (HP.out _ (HR.out _)).mono ?_
  rintro e w1 ⟨rfl, b1⟩
  go_wp2_with fail
  go_ret
  exact ⟨rfl, below_next ((Below.refl _ _).alloc (Nat.le_refl _) _) b1⟩
end Go.Proofs.YtikcfoobfobmnaaGreatDoor
/-
  What the card's list gives: the variable table.blocks holds the reserved blocks; a world for the witness; an argument that is tables.
-/
namespace Go.Proofs.YtikcfoobfobmnaaGreatDoor
open Go.ChangeShapes Go.WideShapes Go.ChangeAt Go.Deep Go.RowKit ND

/-- The variable blocks holds the reserved blocks. -/
def Glob (w : World) : Prop := ∃ v, w.cell? ⟨0, 0, none⟩ = some v ∧ Spans w w.heap.size v blocksL
theorem Glob.later {w w' : World} (h : Glob w) (hb : Below w.heap.size w w') : Glob w' := by
  obtain ⟨v, hc, hs⟩ := h
  exact ⟨v, (hb.cell (World.block_lt_of_cell? _ _ hc)).trans hc, hs.later hb⟩

theorem gBlocks : Tryz.prog.globalNamed "namedesk/table.blocks" = some 0 := by kernel_rfl
theorem tBlocks : (Tryz.prog.globals[0]?).map (·.type) = some 26 := by kernel_rfl
theorem door_met (os : Os) (args : Array Value) : laidMetH Tryz.prog [("namedesk/table.blocks", Rows.laid_namedesk_table_blocks)] ((World.doorLaid Tryz.prog 400 os).forCall (fun _ _ => 0) ⟨#[], args, []⟩).memory :=
  laidMetH_of_parts3 (fuel := 8) (laidMet_of_run' 8 (by kernel_rfl) (by kernel_rfl)) (by kernel_rfl) (by kernel_rfl)

section
variable {H : Type} {enc : TypeId × Value → H} {P : Program} {W : World}
theorem ints_trod {t e : TypeId} {k : IntKind} {v : Value} {y : DataW H × List MemPlace} {n : Nat} (ht : P.underlying t = some (.slice e)) (he : P.underlying e = some (.int k)) (hc : P.cellsOf e = 1)
    (h : DataW.trod enc P W 0 (fun _ => true) true n t [v] = some y) (hlt : ∀ x ∈ y.2, x.block < W.heap.size) : ∃ xs, Ints W W.heap.size k v xs := by
  rcases open_ints ht he hc h with ⟨hcs, hx⟩ | ⟨a, len, cap, zs, hcs, _, hl, hm, hz, hx, hcell, hwf⟩
  · obtain rfl : v = .slice none 0 0 := by simpa using hcs
    exact ⟨[], Ints.none_⟩
  · obtain rfl : v = .slice (some a) len cap := by simpa using hcs
    subst hx
    have hzl : zs.length = cap := by simpa using hz
    have hxl : (zs.take len).length = len := by simp; omega
    refine ⟨zs.take len, some a, cap, by rw [hxl], by omega, hm, (by intro h; cases h), fun i x hi => ⟨a, rfl, ?_, ?_⟩⟩
    · have hin : MemPlace.cell a.block (a.off + i) ∈ MemPlace.row a zs.length := by
        have := (List.getElem?_eq_some_iff.1 hi).1
        unfold MemPlace.row; simp; omega
      exact hlt _ hin
    · have hi' := (List.getElem?_eq_some_iff.1 hi).1
      rw [hcell i (by omega)]
      rw [List.getElem?_take] at hi
      split at hi
      · rw [List.getD_eq_getElem?_getD, hi]; rfl
      · cases hi
theorem spans_trod {t e ti : TypeId} {f0 f1 f2 : Field} {v : Value} {y : DataW H × List MemPlace} {n : Nat} (ht : P.underlying t = some (.slice e)) (he : P.underlying e = some (.struct #[f0, f1, f2]))
    (hone : oneCellFields P #[f0, f1, f2] = true) (hC : P.cellsOf e = 3) (t0 : f0.type = ti) (t1 : f1.type = ti) (t2 : f2.type = ti) (hti : P.underlying ti = some (.int .i64)) {held : Bool}
    (h : DataW.trod enc P W 0 (fun _ => true) held n t [v] = some y) (hlt : ∀ b off, MemPlace.cell b off ∈ y.2 → b < W.heap.size) :
    ∃ xs, Spans W W.heap.size v xs ∧ (∀ es sp, y.1 = .slice es sp → es = xs.map (fun x => .agg [.lit (.int .i64 x.1), .lit (.int .i64 x.2.1), .lit (.int .i64 x.2.2)])) ∧ (v = .slice none 0 0 → y.1 = .nil) := by
  rcases open_slice_fields ht he hone hC h with ⟨hcs, hx⟩ | ⟨a, len, cap, m, D, Pl, hcs, _, hl, hm, hmm, hx, hi⟩
  · obtain rfl : v = .slice none 0 0 := by simpa using hcs
    subst hx
    exact ⟨[], Spans.none_, (fun es sp h => by cases h), fun _ => rfl⟩
  · obtain rfl : v = .slice (some a) len cap := by simpa using hcs
    have hmc : m = cap := by simpa using hmm
    subst hmc
    subst hx
    have key : ∀ i : Nat, ∃ x : Int × Int × Int, i < m → W.cell? (a.add (i * 3)) = some (.int .i64 x.1) ∧ W.cell? (a.add (i * 3 + 1)) = some (.int .i64 x.2.1) ∧ W.cell? (a.add (i * 3 + 2)) = some (.int .i64 x.2.2) ∧
        D i = .agg [.lit (.int .i64 x.1), .lit (.int .i64 x.2.1), .lit (.int .i64 x.2.2)] := by
      intro i
      by_cases him : i < m
      · obtain ⟨ys, k, hD, _, hlen, hj⟩ := hi i him
        obtain ⟨v0, y0, c0, g0, r0⟩ := hj 0 f0 rfl
        obtain ⟨v1, y1, c1, g1, r1⟩ := hj 1 f1 rfl
        obtain ⟨v2, y2, c2, g2, r2⟩ := hj 2 f2 rfl
        rw [t0] at r0; rw [t1] at r1; rw [t2] at r2
        obtain ⟨z0, e0, d0, w0⟩ := DataW.trod_int hti r0
        obtain ⟨z1, e1, d1, w1⟩ := DataW.trod_int hti r1
        obtain ⟨z2, e2, d2, w2⟩ := DataW.trod_int hti r2
        simp at e0 e1 e2
        subst e0 e1 e2
        refine ⟨(z0, z1, z2), fun _ => ⟨c0, c1, c2, ?_⟩⟩
        match ys, hlen with
        | [u0, u1, u2], _ =>
          simp at g0 g1 g2
          subst g0 g1 g2
          subst d0 d1 d2
          rw [hD]; rfl
      · exact ⟨(0, 0, 0), fun h => absurd h him⟩
    let f : Nat → Int × Int × Int := fun i => (key i).choose
    have hfs := fun i => (key i).choose_spec
    refine ⟨(List.range len).map f, ⟨some a, m, by simp, by simpa using hl, hm, (by intro h; cases h), fun i x hxi => ⟨a, rfl, ?_, ?_⟩⟩, ?_, (by intro h; cases h)⟩
    · have hin : i < len := by simpa using (List.getElem?_eq_some_iff.1 hxi).1
      have hp : MemPlace.cell a.block (a.off + 0) ∈ MemPlace.row a (m * 3) := by
        unfold MemPlace.row; simp; omega
      exact hlt _ _ (List.mem_append_left _ hp)
    · have hin : i < len := by simpa using (List.getElem?_eq_some_iff.1 hxi).1
      have he : x = f i := by simpa [hin] using hxi.symm
      subst he
      obtain ⟨q0, q1, q2, _⟩ := hfs i (by omega)
      exact ⟨q0, q1, q2⟩
    · intro es sp hes
      simp only [DataW.slice.injEq] at hes
      rw [← hes.1, List.map_map]
      refine List.map_congr_left fun i hi' => ?_
      have hin : i < len := by simpa using hi'
      exact (hfs i (by omega)).2.2.2
theorem mapps_trod {t e ti ts : TypeId} {f0 f1 : Field} {v : Value} {y : DataW H × List MemPlace} {n : Nat} (ht : P.underlying t = some (.slice e)) (he : P.underlying e = some (.struct #[f0, f1]))
    (hone : oneCellFields P #[f0, f1] = true) (hC : P.cellsOf e = 2) (t0 : f0.type = ti) (t1 : f1.type = ts) (hti : P.underlying ti = some (.int .i64)) (hts : P.underlying ts = some (.slice ti)) (hc1 : P.cellsOf ti = 1)
    (h : DataW.trod enc P W 0 (fun _ => true) true n t [v] = some y) (hlt : ∀ x ∈ y.2, x.block < W.heap.size) : ∃ xs, Mapps W W.heap.size v xs := by
  rcases open_slice_fields ht he hone hC h with ⟨hcs, hx⟩ | ⟨a, len, cap, m, D, Pl, hcs, _, hl, hm, hmm, hx, hi⟩
  · obtain rfl : v = .slice none 0 0 := by simpa using hcs
    exact ⟨[], Mapps.none_⟩
  · obtain rfl : v = .slice (some a) len cap := by simpa using hcs
    have hmc : m = cap := by simpa using hmm
    subst hmc
    subst hx
    have key : ∀ i : Nat, ∃ x : Int × List Int, i < m → ∃ sv, W.cell? (a.add (i * 2)) = some (.int .i64 x.1) ∧ W.cell? (a.add (i * 2 + 1)) = some sv ∧ Ints W W.heap.size .i64 sv x.2 := by
      intro i
      by_cases him : i < m
      · obtain ⟨ys, k, _, hPl, hlen, hj⟩ := hi i him
        obtain ⟨v0, y0, c0, g0, r0⟩ := hj 0 f0 rfl
        obtain ⟨v1, y1, c1, g1, r1⟩ := hj 1 f1 rfl
        rw [t0] at r0; rw [t1] at r1
        obtain ⟨z0, e0, d0, w0⟩ := DataW.trod_int hti r0
        simp at e0
        subst e0
        obtain ⟨xs, hxs⟩ := ints_trod hts hti hc1 r1 (fun x hx => hlt x (by
          refine List.mem_append_right _ (List.mem_flatMap.2 ⟨i, by simpa using him, ?_⟩)
          rw [hPl]
          exact List.mem_flatMap.2 ⟨y1, List.mem_of_getElem? g1, hx⟩))
        exact ⟨(z0, xs), fun _ => ⟨v1, c0, c1, hxs⟩⟩
      · exact ⟨(0, []), fun h => absurd h him⟩
    let f : Nat → Int × List Int := fun i => (key i).choose
    have hfs := fun i => (key i).choose_spec
    refine ⟨(List.range len).map f, some a, m, by simp, by simpa using hl, hm, (by intro h; cases h), fun i x hxi => ?_⟩
    have hin : i < len := by simpa using (List.getElem?_eq_some_iff.1 hxi).1
    have he : x = f i := by simpa [hin] using hxi.symm
    subst he
    obtain ⟨sv, q0, q1, q2⟩ := hfs i (by omega)
    refine ⟨a, sv, rfl, ?_, q0, q1, q2⟩
    have hp : MemPlace.cell a.block (a.off + 0) ∈ MemPlace.row a (m * 2) := by
      unfold MemPlace.row; simp; omega
    exact hlt _ (List.mem_append_left _ hp)

set_option maxRecDepth 100000 in
theorem hone_tab {fs : Array Field} (hs : Tryz.prog.underlying 29 = some (.struct fs)) : oneCellFields Tryz.prog fs = true := by
  have h0 : ((Tryz.prog.underlying 29).elim false fun d => match d with | .struct fs => oneCellFields Tryz.prog fs | _ => true) = true := by kernel_rfl
  rw [hs] at h0
  exact h0
set_option maxRecDepth 100000 in
/-- An argument that is tables. -/
theorem open_tables {r : Reach} {b : Nat} {v : Value} {d : DataW H} {p : List MemPlace} (hv : Value.okWide Tryz.prog W r b 29 v) (h : DataW.Trod enc Tryz.prog W 0 (fun _ => true) true 29 v d p)
    (hlt : ∀ x ∈ p, x.block < W.heap.size) : ∃ t T, v = Tv.val t ∧ TabR W W.heap.size t T := by
  have hs := Tryz.underlying29
  obtain ⟨cs, rfl, hsz⟩ := okWide_struct hs hv
  obtain ⟨l⟩ := cs
  match l, hsz.trans (show Tryz.prog.cellsOf 29 = 12 by kernel_rfl) with
  | [c0, c1, c2, c3, c4, c5, c6, c7, c8, c9, c10, c11], _ =>
    obtain ⟨fuel, hf⟩ := h
    obtain ⟨xs, n, _, hx, _, hlen, hg⟩ := DataW.trod_struct hs hf
    have hlt' : ∀ y ∈ xs, ∀ x ∈ y.2, x.block < W.heap.size := fun y hy x hx' => hlt x (by
      simp only [Prod.mk.injEq] at hx
      rw [hx.2]
      exact List.mem_flatMap.2 ⟨y, hy, hx'⟩)
    have hone := hone_tab hs
    match xs, hlen, hlt' with
    | [y0, y1, y2, y3, y4, y5, y6, y7, y8, y9, y10, y11], _, hlt' =>
      have g0 := hg 0 _ rfl
      obtain ⟨o0, k0⟩ := hone_of hone 0 _ rfl
      rw [o0, k0] at g0
      have g1 := hg 1 _ rfl
      obtain ⟨o1, k1⟩ := hone_of hone 1 _ rfl
      rw [o1, k1] at g1
      have g2 := hg 2 _ rfl
      obtain ⟨o2, k2⟩ := hone_of hone 2 _ rfl
      rw [o2, k2] at g2
      have g3 := hg 3 _ rfl
      obtain ⟨o3, k3⟩ := hone_of hone 3 _ rfl
      rw [o3, k3] at g3
      have g4 := hg 4 _ rfl
      obtain ⟨o4, k4⟩ := hone_of hone 4 _ rfl
      rw [o4, k4] at g4
      have g5 := hg 5 _ rfl
      obtain ⟨o5, k5⟩ := hone_of hone 5 _ rfl
      rw [o5, k5] at g5
      have g6 := hg 6 _ rfl
      obtain ⟨o6, k6⟩ := hone_of hone 6 _ rfl
      rw [o6, k6] at g6
      have g7 := hg 7 _ rfl
      obtain ⟨o7, k7⟩ := hone_of hone 7 _ rfl
      rw [o7, k7] at g7
      have g8 := hg 8 _ rfl
      obtain ⟨o8, k8⟩ := hone_of hone 8 _ rfl
      rw [o8, k8] at g8
      have g9 := hg 9 _ rfl
      obtain ⟨o9, k9⟩ := hone_of hone 9 _ rfl
      rw [o9, k9] at g9
      have g10 := hg 10 _ rfl
      obtain ⟨o10, k10⟩ := hone_of hone 10 _ rfl
      rw [o10, k10] at g10
      have g11 := hg 11 _ rfl
      obtain ⟨o11, k11⟩ := hone_of hone 11 _ rfl
      rw [o11, k11] at g11
      have sp : ∀ {v : Value} {y : DataW H × List MemPlace}, DataW.trod enc Tryz.prog W 0 (fun _ => true) true n 26 [v] = some y → (∀ x ∈ y.2, x.block < W.heap.size) → ∃ xs, Spans W W.heap.size v xs := fun h hl => by
        obtain ⟨xs, hxs, _⟩ := spans_trod Tryz.underlying26 Tryz.underlying61 (by kernel_rfl) (by kernel_rfl) rfl rfl rfl Tryz.underlying3 h (fun b off hx => hl _ hx)
        exact ⟨xs, hxs⟩
      have mp : ∀ {v : Value} {y : DataW H × List MemPlace}, DataW.trod enc Tryz.prog W 0 (fun _ => true) true n 27 [v] = some y → (∀ x ∈ y.2, x.block < W.heap.size) → ∃ xs, Mapps W W.heap.size v xs := fun h hl =>
        mapps_trod Tryz.underlying27 Tryz.underlying51 (by kernel_rfl) (by kernel_rfl) rfl rfl Tryz.underlying3 Tryz.underlying22 (by kernel_rfl) h hl
      obtain ⟨s0, i0⟩ := sp (show DataW.trod enc Tryz.prog W 0 (fun _ => true) true n 26 [c0] = some y0 from g0) (hlt' y0 (by simp))
      obtain ⟨s1, i1⟩ := sp (show DataW.trod enc Tryz.prog W 0 (fun _ => true) true n 26 [c1] = some y1 from g1) (hlt' y1 (by simp))
      obtain ⟨s2, i2⟩ := sp (show DataW.trod enc Tryz.prog W 0 (fun _ => true) true n 26 [c2] = some y2 from g2) (hlt' y2 (by simp))
      obtain ⟨s3, i3⟩ := sp (show DataW.trod enc Tryz.prog W 0 (fun _ => true) true n 26 [c3] = some y3 from g3) (hlt' y3 (by simp))
      obtain ⟨s4, i4⟩ := sp (show DataW.trod enc Tryz.prog W 0 (fun _ => true) true n 26 [c4] = some y4 from g4) (hlt' y4 (by simp))
      obtain ⟨s5, i5⟩ := sp (show DataW.trod enc Tryz.prog W 0 (fun _ => true) true n 26 [c5] = some y5 from g5) (hlt' y5 (by simp))
      obtain ⟨s6, i6⟩ := sp (show DataW.trod enc Tryz.prog W 0 (fun _ => true) true n 26 [c6] = some y6 from g6) (hlt' y6 (by simp))
      obtain ⟨s7, i7⟩ := mp (show DataW.trod enc Tryz.prog W 0 (fun _ => true) true n 27 [c7] = some y7 from g7) (hlt' y7 (by simp))
      obtain ⟨s8, i8⟩ := mp (show DataW.trod enc Tryz.prog W 0 (fun _ => true) true n 27 [c8] = some y8 from g8) (hlt' y8 (by simp))
      obtain ⟨s9, i9⟩ := mp (show DataW.trod enc Tryz.prog W 0 (fun _ => true) true n 27 [c9] = some y9 from g9) (hlt' y9 (by simp))
      obtain ⟨s10, i10⟩ := ints_trod Tryz.underlying22 Tryz.underlying3 (by kernel_rfl) (show DataW.trod enc Tryz.prog W 0 (fun _ => true) true n 22 [c10] = some y10 from g10) (hlt' y10 (by simp))
      obtain ⟨s11, i11⟩ := mp (show DataW.trod enc Tryz.prog W 0 (fun _ => true) true n 27 [c11] = some y11 from g11) (hlt' y11 (by simp))
      exact ⟨⟨c0, c1, c2, c3, c4, c5, c6, c7, c8, c9, c10, c11⟩, ⟨s0, s1, s2, s3, s4, s5, s6, s7, s8, s9, s10, s11⟩, rfl, ⟨i0, i1, i2, i3, i4, i5, i6, i7, i8, i9, i10, i11⟩⟩
end

theorem glob_laid {W : World} (h : laidMetH Tryz.prog [("namedesk/table.blocks", Rows.laid_namedesk_table_blocks)] W) : Glob W := by
  rw [MakeChecks.laidMetH_plain _ _ _ (by kernel_rfl)] at h
  obtain ⟨ps, ⟨g0, t0, cs0, f0, p0, q0, hg0, ht0, hv0, hd0, _, rfl⟩, _, hfr⟩ := h
  obtain rfl := Option.some.inj (gBlocks.symm.trans hg0)
  obtain rfl := Option.some.inj (tBlocks.symm.trans ht0)
  have hlt : ∀ b off, MemPlace.cell b off ∈ p0 → b < W.heap.size := by
    intro b off hx
    obtain ⟨⟨c, t, hb⟩, _⟩ := hfr b off (List.mem_append_left _ (List.mem_append_right _ hx))
    exact (Array.getElem?_eq_some_iff.1 hb).1
  obtain ⟨v, hcs⟩ : ∃ v, cs0.toList = [v] := by
    rcases open_slice_fields Tryz.underlying26 Tryz.underlying61 (by kernel_rfl) (by kernel_rfl) hd0 with ⟨hcs, _⟩ | ⟨a, len, cap, m, D, Pl, hcs, _⟩
    · exact ⟨_, hcs⟩
    · exact ⟨_, hcs⟩
  rw [hcs] at hd0
  obtain ⟨xs, hxs, hes, hnil⟩ := spans_trod Tryz.underlying26 Tryz.underlying61 (by kernel_rfl) (by kernel_rfl) rfl rfl rfl Tryz.underlying3 hd0 hlt
  have he := hes _ _ rfl
  have hxb : xs = blocksL := by
    have h6 : xs.length = 6 := by have := congrArg List.length he; simpa using this.symm
    match xs, h6 with
    | [x0, x1, x2, x3, x4, x5], _ =>
      obtain ⟨x00, x01, x02⟩ := x0
      obtain ⟨x10, x11, x12⟩ := x1
      obtain ⟨x20, x21, x22⟩ := x2
      obtain ⟨x30, x31, x32⟩ := x3
      obtain ⟨x40, x41, x42⟩ := x4
      obtain ⟨x50, x51, x52⟩ := x5
      simp at he
      unfold blocksL
      simp
      omega
  subst hxb
  refine ⟨v, ?_, hxs⟩
  have := World.var?_cell hg0 hv0 0
  rw [this]
  cases cs0
  simp at hcs
  subst hcs
  rfl
end Go.Proofs.YtikcfoobfobmnaaGreatDoor
