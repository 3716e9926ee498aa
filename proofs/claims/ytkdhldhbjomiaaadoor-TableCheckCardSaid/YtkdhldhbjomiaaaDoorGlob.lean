/-
  What the card's list gives: the variable table.blocks holds the reserved blocks; a world for the witness; an argument that is tables.
-/
import Derived.Test.YtkdhldhbjomiaaaDoorRows
import Derived.Test.YtkdhldhbjomiaaaDoorTabMem
import Derived.Test.YtkdhldhbjomiaaaDoorRules2
import Derived.LaidMore
import Derived.OpenShut
import Derived.Deep.DeepHandedRow
import Derived.ProofKit
namespace Go.Proofs.YtkdhldhbjomiaaaDoor
open Go.ChangeShapes Go.WideShapes Go.ChangeAt Go.Deep Go.RowKit ND

/-- The variable blocks holds the reserved blocks. -/
def Glob (w : World) : Prop := ∃ v, w.cell? ⟨0, 0, none⟩ = some v ∧ Spans w w.heap.size v blocksL
theorem Glob.later {w w' : World} (h : Glob w) (hb : Below w.heap.size w w') : Glob w' := by
  obtain ⟨v, hc, hs⟩ := h
  exact ⟨v, (hb.cell (World.block_lt_of_cell? _ _ hc)).trans hc, hs.later hb⟩

theorem gBlocks : Tryd.prog.globalNamed "namedesk/table.blocks" = some 0 := by kernel_rfl
theorem tBlocks : (Tryd.prog.globals[0]?).map (·.type) = some 22 := by kernel_rfl
theorem door_met (os : Os) (args : Array Value) : laidMetH Tryd.prog [("namedesk/table.blocks", Rows.laid_namedesk_table_blocks)] ((World.doorLaid Tryd.prog 400 os).forCall (fun _ _ => 0) ⟨#[], args, []⟩).memory :=
  laidMetH_of_parts3 (fuel := 8) (laidMet_of_run' 8 (by kernel_rfl) (by kernel_rfl)) (by kernel_rfl) (by kernel_rfl)

section
variable {H : Type} {enc : TypeId × Value → H} {P : Program} {W : World}
theorem ints_trod {t e : TypeId} {k : IntKind} {v : Value} {y : DataW H × List MemPlace} {n : Nat} (ht : P.underlying t = some (.slice e)) (he : P.underlying e = some (.int k)) (hc : P.cellsOf e = 1)
    (h : DataW.trod enc P W 0 (fun _ => true) true n t [v] = some y) (hlt : ∀ x ∈ y.2, x.block < W.heap.size) : ∃ xs, Ints W W.heap.size k v xs := by
  rcases open_ints ht he hc h with ⟨hcs, hx⟩ | ⟨a, len, cap, zs, hcs, _, hl, hm, hz, hx, hcell, hwf⟩
  · obtain rfl : v = .slice none 0 0 := by simpa using hcs
    exact ⟨[], Ints.none_⟩
  · obtain rfl : v = .slice (some a) len cap := by simpa using hcs
    subst hx
    have hzl : zs.length = cap := by simpa using hz
    have hxl : (zs.take len).length = len := by simp; omega
    refine ⟨zs.take len, some a, cap, by rw [hxl], by omega, hm, (by intro h; cases h), fun i x hi => ⟨a, rfl, ?_, ?_⟩⟩
    · have hin : MemPlace.cell a.block (a.off + i) ∈ MemPlace.row a zs.length := by
        have := (List.getElem?_eq_some_iff.1 hi).1
        unfold MemPlace.row; simp; omega
      exact hlt _ hin
    · have hi' := (List.getElem?_eq_some_iff.1 hi).1
      rw [hcell i (by omega)]
      rw [List.getElem?_take] at hi
      split at hi
      · rw [List.getD_eq_getElem?_getD, hi]; rfl
      · cases hi
theorem spans_trod {t e ti : TypeId} {f0 f1 f2 : Field} {v : Value} {y : DataW H × List MemPlace} {n : Nat} (ht : P.underlying t = some (.slice e)) (he : P.underlying e = some (.struct #[f0, f1, f2]))
    (hone : oneCellFields P #[f0, f1, f2] = true) (hC : P.cellsOf e = 3) (t0 : f0.type = ti) (t1 : f1.type = ti) (t2 : f2.type = ti) (hti : P.underlying ti = some (.int .i64)) {held : Bool}
    (h : DataW.trod enc P W 0 (fun _ => true) held n t [v] = some y) (hlt : ∀ b off, MemPlace.cell b off ∈ y.2 → b < W.heap.size) :
    ∃ xs, Spans W W.heap.size v xs ∧ (∀ es sp, y.1 = .slice es sp → es = xs.map (fun x => .agg [.lit (.int .i64 x.1), .lit (.int .i64 x.2.1), .lit (.int .i64 x.2.2)])) ∧ (v = .slice none 0 0 → y.1 = .nil) := by
  rcases open_slice_fields ht he hone hC h with ⟨hcs, hx⟩ | ⟨a, len, cap, m, D, Pl, hcs, _, hl, hm, hmm, hx, hi⟩
  · obtain rfl : v = .slice none 0 0 := by simpa using hcs
    subst hx
    exact ⟨[], Spans.none_, (fun es sp h => by cases h), fun _ => rfl⟩
  · obtain rfl : v = .slice (some a) len cap := by simpa using hcs
    have hmc : m = cap := by simpa using hmm
    subst hmc
    subst hx
    have key : ∀ i : Nat, ∃ x : Int × Int × Int, i < m → W.cell? (a.add (i * 3)) = some (.int .i64 x.1) ∧ W.cell? (a.add (i * 3 + 1)) = some (.int .i64 x.2.1) ∧ W.cell? (a.add (i * 3 + 2)) = some (.int .i64 x.2.2) ∧
        D i = .agg [.lit (.int .i64 x.1), .lit (.int .i64 x.2.1), .lit (.int .i64 x.2.2)] := by
      intro i
      by_cases him : i < m
      · obtain ⟨ys, k, hD, _, hlen, hj⟩ := hi i him
        obtain ⟨v0, y0, c0, g0, r0⟩ := hj 0 f0 rfl
        obtain ⟨v1, y1, c1, g1, r1⟩ := hj 1 f1 rfl
        obtain ⟨v2, y2, c2, g2, r2⟩ := hj 2 f2 rfl
        rw [t0] at r0; rw [t1] at r1; rw [t2] at r2
        obtain ⟨z0, e0, d0, w0⟩ := DataW.trod_int hti r0
        obtain ⟨z1, e1, d1, w1⟩ := DataW.trod_int hti r1
        obtain ⟨z2, e2, d2, w2⟩ := DataW.trod_int hti r2
        simp at e0 e1 e2
        subst e0 e1 e2
        refine ⟨(z0, z1, z2), fun _ => ⟨c0, c1, c2, ?_⟩⟩
        match ys, hlen with
        | [u0, u1, u2], _ =>
          simp at g0 g1 g2
          subst g0 g1 g2
          subst d0 d1 d2
          rw [hD]; rfl
      · exact ⟨(0, 0, 0), fun h => absurd h him⟩
    let f : Nat → Int × Int × Int := fun i => (key i).choose
    have hfs := fun i => (key i).choose_spec
    refine ⟨(List.range len).map f, ⟨some a, m, by simp, by simpa using hl, hm, (by intro h; cases h), fun i x hxi => ⟨a, rfl, ?_, ?_⟩⟩, ?_, (by intro h; cases h)⟩
    · have hin : i < len := by simpa using (List.getElem?_eq_some_iff.1 hxi).1
      have hp : MemPlace.cell a.block (a.off + 0) ∈ MemPlace.row a (m * 3) := by
        unfold MemPlace.row; simp; omega
      exact hlt _ _ (List.mem_append_left _ hp)
    · have hin : i < len := by simpa using (List.getElem?_eq_some_iff.1 hxi).1
      have he : x = f i := by simpa [hin] using hxi.symm
      subst he
      obtain ⟨q0, q1, q2, _⟩ := hfs i (by omega)
      exact ⟨q0, q1, q2⟩
    · intro es sp hes
      simp only [DataW.slice.injEq] at hes
      rw [← hes.1, List.map_map]
      refine List.map_congr_left fun i hi' => ?_
      have hin : i < len := by simpa using hi'
      exact (hfs i (by omega)).2.2.2
theorem mapps_trod {t e ti ts : TypeId} {f0 f1 : Field} {v : Value} {y : DataW H × List MemPlace} {n : Nat} (ht : P.underlying t = some (.slice e)) (he : P.underlying e = some (.struct #[f0, f1]))
    (hone : oneCellFields P #[f0, f1] = true) (hC : P.cellsOf e = 2) (t0 : f0.type = ti) (t1 : f1.type = ts) (hti : P.underlying ti = some (.int .i64)) (hts : P.underlying ts = some (.slice ti)) (hc1 : P.cellsOf ti = 1)
    (h : DataW.trod enc P W 0 (fun _ => true) true n t [v] = some y) (hlt : ∀ x ∈ y.2, x.block < W.heap.size) : ∃ xs, Mapps W W.heap.size v xs := by
  rcases open_slice_fields ht he hone hC h with ⟨hcs, hx⟩ | ⟨a, len, cap, m, D, Pl, hcs, _, hl, hm, hmm, hx, hi⟩
  · obtain rfl : v = .slice none 0 0 := by simpa using hcs
    exact ⟨[], Mapps.none_⟩
  · obtain rfl : v = .slice (some a) len cap := by simpa using hcs
    have hmc : m = cap := by simpa using hmm
    subst hmc
    subst hx
    have key : ∀ i : Nat, ∃ x : Int × List Int, i < m → ∃ sv, W.cell? (a.add (i * 2)) = some (.int .i64 x.1) ∧ W.cell? (a.add (i * 2 + 1)) = some sv ∧ Ints W W.heap.size .i64 sv x.2 := by
      intro i
      by_cases him : i < m
      · obtain ⟨ys, k, _, hPl, hlen, hj⟩ := hi i him
        obtain ⟨v0, y0, c0, g0, r0⟩ := hj 0 f0 rfl
        obtain ⟨v1, y1, c1, g1, r1⟩ := hj 1 f1 rfl
        rw [t0] at r0; rw [t1] at r1
        obtain ⟨z0, e0, d0, w0⟩ := DataW.trod_int hti r0
        simp at e0
        subst e0
        obtain ⟨xs, hxs⟩ := ints_trod hts hti hc1 r1 (fun x hx => hlt x (by
          refine List.mem_append_right _ (List.mem_flatMap.2 ⟨i, by simpa using him, ?_⟩)
          rw [hPl]
          exact List.mem_flatMap.2 ⟨y1, List.mem_of_getElem? g1, hx⟩))
        exact ⟨(z0, xs), fun _ => ⟨v1, c0, c1, hxs⟩⟩
      · exact ⟨(0, []), fun h => absurd h him⟩
    let f : Nat → Int × List Int := fun i => (key i).choose
    have hfs := fun i => (key i).choose_spec
    refine ⟨(List.range len).map f, some a, m, by simp, by simpa using hl, hm, (by intro h; cases h), fun i x hxi => ?_⟩
    have hin : i < len := by simpa using (List.getElem?_eq_some_iff.1 hxi).1
    have he : x = f i := by simpa [hin] using hxi.symm
    subst he
    obtain ⟨sv, q0, q1, q2⟩ := hfs i (by omega)
    refine ⟨a, sv, rfl, ?_, q0, q1, q2⟩
    have hp : MemPlace.cell a.block (a.off + 0) ∈ MemPlace.row a (m * 2) := by
      unfold MemPlace.row; simp; omega
    exact hlt _ (List.mem_append_left _ hp)

set_option maxRecDepth 100000 in
theorem hone_tab {fs : Array Field} (hs : Tryd.prog.underlying 26 = some (.struct fs)) : oneCellFields Tryd.prog fs = true := by
  have h0 : ((Tryd.prog.underlying 26).elim false fun d => match d with | .struct fs => oneCellFields Tryd.prog fs | _ => true) = true := by kernel_rfl
  rw [hs] at h0
  exact h0
set_option maxRecDepth 100000 in
/-- An argument that is tables. -/
theorem open_tables {r : Reach} {b : Nat} {v : Value} {d : DataW H} {p : List MemPlace} (hv : Value.okWide Tryd.prog W r b 26 v) (h : DataW.Trod enc Tryd.prog W 0 (fun _ => true) true 26 v d p)
    (hlt : ∀ x ∈ p, x.block < W.heap.size) : ∃ t T, v = Tv.val t ∧ TabR W W.heap.size t T := by
  have hs := Tryd.underlying26
  obtain ⟨cs, rfl, hsz⟩ := okWide_struct hs hv
  obtain ⟨l⟩ := cs
  match l, hsz.trans (show Tryd.prog.cellsOf 26 = 12 by kernel_rfl) with
  | [c0, c1, c2, c3, c4, c5, c6, c7, c8, c9, c10, c11], _ =>
    obtain ⟨fuel, hf⟩ := h
    obtain ⟨xs, n, _, hx, _, hlen, hg⟩ := DataW.trod_struct hs hf
    have hlt' : ∀ y ∈ xs, ∀ x ∈ y.2, x.block < W.heap.size := fun y hy x hx' => hlt x (by
      simp only [Prod.mk.injEq] at hx
      rw [hx.2]
      exact List.mem_flatMap.2 ⟨y, hy, hx'⟩)
    have hone := hone_tab hs
    match xs, hlen, hlt' with
    | [y0, y1, y2, y3, y4, y5, y6, y7, y8, y9, y10, y11], _, hlt' =>
      have g0 := hg 0 _ rfl
      obtain ⟨o0, k0⟩ := hone_of hone 0 _ rfl
      rw [o0, k0] at g0
      have g1 := hg 1 _ rfl
      obtain ⟨o1, k1⟩ := hone_of hone 1 _ rfl
      rw [o1, k1] at g1
      have g2 := hg 2 _ rfl
      obtain ⟨o2, k2⟩ := hone_of hone 2 _ rfl
      rw [o2, k2] at g2
      have g3 := hg 3 _ rfl
      obtain ⟨o3, k3⟩ := hone_of hone 3 _ rfl
      rw [o3, k3] at g3
      have g4 := hg 4 _ rfl
      obtain ⟨o4, k4⟩ := hone_of hone 4 _ rfl
      rw [o4, k4] at g4
      have g5 := hg 5 _ rfl
      obtain ⟨o5, k5⟩ := hone_of hone 5 _ rfl
      rw [o5, k5] at g5
      have g6 := hg 6 _ rfl
      obtain ⟨o6, k6⟩ := hone_of hone 6 _ rfl
      rw [o6, k6] at g6
      have g7 := hg 7 _ rfl
      obtain ⟨o7, k7⟩ := hone_of hone 7 _ rfl
      rw [o7, k7] at g7
      have g8 := hg 8 _ rfl
      obtain ⟨o8, k8⟩ := hone_of hone 8 _ rfl
      rw [o8, k8] at g8
      have g9 := hg 9 _ rfl
      obtain ⟨o9, k9⟩ := hone_of hone 9 _ rfl
      rw [o9, k9] at g9
      have g10 := hg 10 _ rfl
      obtain ⟨o10, k10⟩ := hone_of hone 10 _ rfl
      rw [o10, k10] at g10
      have g11 := hg 11 _ rfl
      obtain ⟨o11, k11⟩ := hone_of hone 11 _ rfl
      rw [o11, k11] at g11
      have sp : ∀ {v : Value} {y : DataW H × List MemPlace}, DataW.trod enc Tryd.prog W 0 (fun _ => true) true n 22 [v] = some y → (∀ x ∈ y.2, x.block < W.heap.size) → ∃ xs, Spans W W.heap.size v xs := fun h hl => by
        obtain ⟨xs, hxs, _⟩ := spans_trod Tryd.underlying22 Tryd.underlying64 (by kernel_rfl) (by kernel_rfl) rfl rfl rfl Tryd.underlying3 h (fun b off hx => hl _ hx)
        exact ⟨xs, hxs⟩
      have mp : ∀ {v : Value} {y : DataW H × List MemPlace}, DataW.trod enc Tryd.prog W 0 (fun _ => true) true n 23 [v] = some y → (∀ x ∈ y.2, x.block < W.heap.size) → ∃ xs, Mapps W W.heap.size v xs := fun h hl =>
        mapps_trod Tryd.underlying23 Tryd.underlying54 (by kernel_rfl) (by kernel_rfl) rfl rfl Tryd.underlying3 Tryd.underlying24 (by kernel_rfl) h hl
      obtain ⟨s0, i0⟩ := sp (show DataW.trod enc Tryd.prog W 0 (fun _ => true) true n 22 [c0] = some y0 from g0) (hlt' y0 (by simp))
      obtain ⟨s1, i1⟩ := sp (show DataW.trod enc Tryd.prog W 0 (fun _ => true) true n 22 [c1] = some y1 from g1) (hlt' y1 (by simp))
      obtain ⟨s2, i2⟩ := sp (show DataW.trod enc Tryd.prog W 0 (fun _ => true) true n 22 [c2] = some y2 from g2) (hlt' y2 (by simp))
      obtain ⟨s3, i3⟩ := sp (show DataW.trod enc Tryd.prog W 0 (fun _ => true) true n 22 [c3] = some y3 from g3) (hlt' y3 (by simp))
      obtain ⟨s4, i4⟩ := sp (show DataW.trod enc Tryd.prog W 0 (fun _ => true) true n 22 [c4] = some y4 from g4) (hlt' y4 (by simp))
      obtain ⟨s5, i5⟩ := sp (show DataW.trod enc Tryd.prog W 0 (fun _ => true) true n 22 [c5] = some y5 from g5) (hlt' y5 (by simp))
      obtain ⟨s6, i6⟩ := sp (show DataW.trod enc Tryd.prog W 0 (fun _ => true) true n 22 [c6] = some y6 from g6) (hlt' y6 (by simp))
      obtain ⟨s7, i7⟩ := mp (show DataW.trod enc Tryd.prog W 0 (fun _ => true) true n 23 [c7] = some y7 from g7) (hlt' y7 (by simp))
      obtain ⟨s8, i8⟩ := mp (show DataW.trod enc Tryd.prog W 0 (fun _ => true) true n 23 [c8] = some y8 from g8) (hlt' y8 (by simp))
      obtain ⟨s9, i9⟩ := mp (show DataW.trod enc Tryd.prog W 0 (fun _ => true) true n 23 [c9] = some y9 from g9) (hlt' y9 (by simp))
      obtain ⟨s10, i10⟩ := ints_trod Tryd.underlying24 Tryd.underlying3 (by kernel_rfl) (show DataW.trod enc Tryd.prog W 0 (fun _ => true) true n 24 [c10] = some y10 from g10) (hlt' y10 (by simp))
      obtain ⟨s11, i11⟩ := mp (show DataW.trod enc Tryd.prog W 0 (fun _ => true) true n 23 [c11] = some y11 from g11) (hlt' y11 (by simp))
      exact ⟨⟨c0, c1, c2, c3, c4, c5, c6, c7, c8, c9, c10, c11⟩, ⟨s0, s1, s2, s3, s4, s5, s6, s7, s8, s9, s10, s11⟩, rfl, ⟨i0, i1, i2, i3, i4, i5, i6, i7, i8, i9, i10, i11⟩⟩
end

theorem glob_laid {W : World} (h : laidMetH Tryd.prog [("namedesk/table.blocks", Rows.laid_namedesk_table_blocks)] W) : Glob W := by
  rw [MakeChecks.laidMetH_plain _ _ _ (by kernel_rfl)] at h
  obtain ⟨ps, ⟨g0, t0, cs0, f0, p0, q0, hg0, ht0, hv0, hd0, _, rfl⟩, _, hfr⟩ := h
  obtain rfl := Option.some.inj (gBlocks.symm.trans hg0)
  obtain rfl := Option.some.inj (tBlocks.symm.trans ht0)
  have hlt : ∀ b off, MemPlace.cell b off ∈ p0 → b < W.heap.size := by
    intro b off hx
    obtain ⟨⟨c, t, hb⟩, _⟩ := hfr b off (List.mem_append_left _ (List.mem_append_right _ hx))
    exact (Array.getElem?_eq_some_iff.1 hb).1
  obtain ⟨v, hcs⟩ : ∃ v, cs0.toList = [v] := by
    rcases open_slice_fields Tryd.underlying22 Tryd.underlying64 (by kernel_rfl) (by kernel_rfl) hd0 with ⟨hcs, _⟩ | ⟨a, len, cap, m, D, Pl, hcs, _⟩
    · exact ⟨_, hcs⟩
    · exact ⟨_, hcs⟩
  rw [hcs] at hd0
  obtain ⟨xs, hxs, hes, hnil⟩ := spans_trod Tryd.underlying22 Tryd.underlying64 (by kernel_rfl) (by kernel_rfl) rfl rfl rfl Tryd.underlying3 hd0 hlt
  have he := hes _ _ rfl
  have hxb : xs = blocksL := by
    have h6 : xs.length = 6 := by have := congrArg List.length he; simpa using this.symm
    match xs, h6 with
    | [x0, x1, x2, x3, x4, x5], _ =>
      obtain ⟨x00, x01, x02⟩ := x0
      obtain ⟨x10, x11, x12⟩ := x1
      obtain ⟨x20, x21, x22⟩ := x2
      obtain ⟨x30, x31, x32⟩ := x3
      obtain ⟨x40, x41, x42⟩ := x4
      obtain ⟨x50, x51, x52⟩ := x5
      simp at he
      unfold blocksL
      simp
      omega
  subst hxb
  refine ⟨v, ?_, hxs⟩
  have := World.var?_cell hg0 hv0 0
  rw [this]
  cases cs0
  simp at hcs
  subst hcs
  rfl
end Go.Proofs.YtkdhldhbjomiaaaDoor
