/-
  Merged texts: lemmas and walks that the last text of this claim leans on.
-/
import Derived.Test.YtneinkpfhkojgaaGreatDoorRows
import Derived.Test.YtneinkpfhkojgaaGreatDoorMgZ131
import Derived.LaidMore
import Derived.OpenShut
import Derived.Deep.DeepHandedRow
import Derived.ProofKit
import Derived.IntWalk
import Derived.BigQuiet
import Derived.Deep.RegionLaw
import Derived.Deep.AppendLies
import Derived.BigRegion
/-
  What the card's list gives: the variable table.blocks holds the reserved blocks; a world for the witness; an argument that is tables.
-/
namespace Go.Proofs.YtneinkpfhkojgaaGreatDoor
open Go.ChangeShapes Go.WideShapes Go.ChangeAt Go.Deep Go.RowKit ND

/-- The variable blocks holds the reserved blocks. -/
def Glob (w : World) : Prop := ∃ v, w.cell? ⟨0, 0, none⟩ = some v ∧ Spans w w.heap.size v blocksL
theorem Glob.later {w w' : World} (h : Glob w) (hb : Below w.heap.size w w') : Glob w' := by
  obtain ⟨v, hc, hs⟩ := h
  exact ⟨v, (hb.cell (World.block_lt_of_cell? _ _ hc)).trans hc, hs.later hb⟩

theorem gBlocks : Tryz.prog.globalNamed "namedesk/table.blocks" = some 0 := by kernel_rfl
theorem tBlocks : (Tryz.prog.globals[0]?).map (·.type) = some 23 := by kernel_rfl
theorem door_met (os : Os) (args : Array Value) : laidMetH Tryz.prog [("namedesk/table.blocks", Rows.laid_namedesk_table_blocks)] ((World.doorLaid Tryz.prog 400 os).forCall (fun _ _ => 0) ⟨#[], args, []⟩).memory :=
  laidMetH_of_parts3 (fuel := 8) (laidMet_of_run' 8 (by kernel_rfl) (by kernel_rfl)) (by kernel_rfl) (by kernel_rfl)

section
variable {H : Type} {enc : TypeId × Value → H} {P : Program} {W : World}
theorem ints_trod {t e : TypeId} {k : IntKind} {v : Value} {y : DataW H × List MemPlace} {n : Nat} (ht : P.underlying t = some (.slice e)) (he : P.underlying e = some (.int k)) (hc : P.cellsOf e = 1)
    (h : DataW.trod enc P W 0 (fun _ => true) true n t [v] = some y) (hlt : ∀ x ∈ y.2, x.block < W.heap.size) : ∃ xs, Ints W W.heap.size k v xs := by
  rcases open_ints ht he hc h with ⟨hcs, hx⟩ | ⟨a, len, cap, zs, hcs, _, hl, hm, hz, hx, hcell, hwf⟩
  · obtain rfl : v = .slice none 0 0 := by simpa using hcs
    exact ⟨[], Ints.none_⟩
  · obtain rfl : v = .slice (some a) len cap := by simpa using hcs
    subst hx
    have hzl : zs.length = cap := by simpa using hz
    have hxl : (zs.take len).length = len := by simp; omega
    refine ⟨zs.take len, some a, cap, by rw [hxl], by omega, hm, (by intro h; cases h), fun i x hi => ⟨a, rfl, ?_, ?_⟩⟩
    · have hin : MemPlace.cell a.block (a.off + i) ∈ MemPlace.row a zs.length := by
        have := (List.getElem?_eq_some_iff.1 hi).1
        unfold MemPlace.row; simp; omega
      exact hlt _ hin
    · have hi' := (List.getElem?_eq_some_iff.1 hi).1
      rw [hcell i (by omega)]
      rw [List.getElem?_take] at hi
      split at hi
      · rw [List.getD_eq_getElem?_getD, hi]; rfl
      · cases hi
theorem spans_trod {t e ti : TypeId} {f0 f1 f2 : Field} {v : Value} {y : DataW H × List MemPlace} {n : Nat} (ht : P.underlying t = some (.slice e)) (he : P.underlying e = some (.struct #[f0, f1, f2]))
    (hone : oneCellFields P #[f0, f1, f2] = true) (hC : P.cellsOf e = 3) (t0 : f0.type = ti) (t1 : f1.type = ti) (t2 : f2.type = ti) (hti : P.underlying ti = some (.int .i64)) {held : Bool}
    (h : DataW.trod enc P W 0 (fun _ => true) held n t [v] = some y) (hlt : ∀ b off, MemPlace.cell b off ∈ y.2 → b < W.heap.size) :
    ∃ xs, Spans W W.heap.size v xs ∧ (∀ es sp, y.1 = .slice es sp → es = xs.map (fun x => .agg [.lit (.int .i64 x.1), .lit (.int .i64 x.2.1), .lit (.int .i64 x.2.2)])) ∧ (v = .slice none 0 0 → y.1 = .nil) := by
  rcases open_slice_fields ht he hone hC h with ⟨hcs, hx⟩ | ⟨a, len, cap, m, D, Pl, hcs, _, hl, hm, hmm, hx, hi⟩
  · obtain rfl : v = .slice none 0 0 := by simpa using hcs
    subst hx
    exact ⟨[], Spans.none_, (fun es sp h => by cases h), fun _ => rfl⟩
  · obtain rfl : v = .slice (some a) len cap := by simpa using hcs
    have hmc : m = cap := by simpa using hmm
    subst hmc
    subst hx
    have key : ∀ i : Nat, ∃ x : Int × Int × Int, i < m → W.cell? (a.add (i * 3)) = some (.int .i64 x.1) ∧ W.cell? (a.add (i * 3 + 1)) = some (.int .i64 x.2.1) ∧ W.cell? (a.add (i * 3 + 2)) = some (.int .i64 x.2.2) ∧
        D i = .agg [.lit (.int .i64 x.1), .lit (.int .i64 x.2.1), .lit (.int .i64 x.2.2)] := by
      intro i
      by_cases him : i < m
      · obtain ⟨ys, k, hD, _, hlen, hj⟩ := hi i him
        obtain ⟨v0, y0, c0, g0, r0⟩ := hj 0 f0 rfl
        obtain ⟨v1, y1, c1, g1, r1⟩ := hj 1 f1 rfl
        obtain ⟨v2, y2, c2, g2, r2⟩ := hj 2 f2 rfl
        rw [t0] at r0; rw [t1] at r1; rw [t2] at r2
        obtain ⟨z0, e0, d0, w0⟩ := DataW.trod_int hti r0
        obtain ⟨z1, e1, d1, w1⟩ := DataW.trod_int hti r1
        obtain ⟨z2, e2, d2, w2⟩ := DataW.trod_int hti r2
        simp at e0 e1 e2
        subst e0 e1 e2
        refine ⟨(z0, z1, z2), fun _ => ⟨c0, c1, c2, ?_⟩⟩
        match ys, hlen with
        | [u0, u1, u2], _ =>
          simp at g0 g1 g2
          subst g0 g1 g2
          subst d0 d1 d2
          rw [hD]; rfl
      · exact ⟨(0, 0, 0), fun h => absurd h him⟩
    let f : Nat → Int × Int × Int := fun i => (key i).choose
    have hfs := fun i => (key i).choose_spec
    refine ⟨(List.range len).map f, ⟨some a, m, by simp, by simpa using hl, hm, (by intro h; cases h), fun i x hxi => ⟨a, rfl, ?_, ?_⟩⟩, ?_, (by intro h; cases h)⟩
    · have hin : i < len := by simpa using (List.getElem?_eq_some_iff.1 hxi).1
      have hp : MemPlace.cell a.block (a.off + 0) ∈ MemPlace.row a (m * 3) := by
        unfold MemPlace.row; simp; omega
      exact hlt _ _ (List.mem_append_left _ hp)
    · have hin : i < len := by simpa using (List.getElem?_eq_some_iff.1 hxi).1
      have he : x = f i := by simpa [hin] using hxi.symm
      subst he
      obtain ⟨q0, q1, q2, _⟩ := hfs i (by omega)
      exact ⟨q0, q1, q2⟩
    · intro es sp hes
      simp only [DataW.slice.injEq] at hes
      rw [← hes.1, List.map_map]
      refine List.map_congr_left fun i hi' => ?_
      have hin : i < len := by simpa using hi'
      exact (hfs i (by omega)).2.2.2
theorem mapps_trod {t e ti ts : TypeId} {f0 f1 : Field} {v : Value} {y : DataW H × List MemPlace} {n : Nat} (ht : P.underlying t = some (.slice e)) (he : P.underlying e = some (.struct #[f0, f1]))
    (hone : oneCellFields P #[f0, f1] = true) (hC : P.cellsOf e = 2) (t0 : f0.type = ti) (t1 : f1.type = ts) (hti : P.underlying ti = some (.int .i64)) (hts : P.underlying ts = some (.slice ti)) (hc1 : P.cellsOf ti = 1)
    (h : DataW.trod enc P W 0 (fun _ => true) true n t [v] = some y) (hlt : ∀ x ∈ y.2, x.block < W.heap.size) : ∃ xs, Mapps W W.heap.size v xs := by
  rcases open_slice_fields ht he hone hC h with ⟨hcs, hx⟩ | ⟨a, len, cap, m, D, Pl, hcs, _, hl, hm, hmm, hx, hi⟩
  · obtain rfl : v = .slice none 0 0 := by simpa using hcs
    exact ⟨[], Mapps.none_⟩
  · obtain rfl : v = .slice (some a) len cap := by simpa using hcs
    have hmc : m = cap := by simpa using hmm
    subst hmc
    subst hx
    have key : ∀ i : Nat, ∃ x : Int × List Int, i < m → ∃ sv, W.cell? (a.add (i * 2)) = some (.int .i64 x.1) ∧ W.cell? (a.add (i * 2 + 1)) = some sv ∧ Ints W W.heap.size .i64 sv x.2 := by
      intro i
      by_cases him : i < m
      · obtain ⟨ys, k, _, hPl, hlen, hj⟩ := hi i him
        obtain ⟨v0, y0, c0, g0, r0⟩ := hj 0 f0 rfl
        obtain ⟨v1, y1, c1, g1, r1⟩ := hj 1 f1 rfl
        rw [t0] at r0; rw [t1] at r1
        obtain ⟨z0, e0, d0, w0⟩ := DataW.trod_int hti r0
        simp at e0
        subst e0
        obtain ⟨xs, hxs⟩ := ints_trod hts hti hc1 r1 (fun x hx => hlt x (by
          refine List.mem_append_right _ (List.mem_flatMap.2 ⟨i, by simpa using him, ?_⟩)
          rw [hPl]
          exact List.mem_flatMap.2 ⟨y1, List.mem_of_getElem? g1, hx⟩))
        exact ⟨(z0, xs), fun _ => ⟨v1, c0, c1, hxs⟩⟩
      · exact ⟨(0, []), fun h => absurd h him⟩
    let f : Nat → Int × List Int := fun i => (key i).choose
    have hfs := fun i => (key i).choose_spec
    refine ⟨(List.range len).map f, some a, m, by simp, by simpa using hl, hm, (by intro h; cases h), fun i x hxi => ?_⟩
    have hin : i < len := by simpa using (List.getElem?_eq_some_iff.1 hxi).1
    have he : x = f i := by simpa [hin] using hxi.symm
    subst he
    obtain ⟨sv, q0, q1, q2⟩ := hfs i (by omega)
    refine ⟨a, sv, rfl, ?_, q0, q1, q2⟩
    have hp : MemPlace.cell a.block (a.off + 0) ∈ MemPlace.row a (m * 2) := by
      unfold MemPlace.row; simp; omega
    exact hlt _ (List.mem_append_left _ hp)

set_option maxRecDepth 100000 in
theorem hone_tab {fs : Array Field} (hs : Tryz.prog.underlying 26 = some (.struct fs)) : oneCellFields Tryz.prog fs = true := by
  have h0 : ((Tryz.prog.underlying 26).elim false fun d => match d with | .struct fs => oneCellFields Tryz.prog fs | _ => true) = true := by kernel_rfl
  rw [hs] at h0
  exact h0
set_option maxRecDepth 100000 in
/-- An argument that is tables. -/
theorem open_tables {r : Reach} {b : Nat} {v : Value} {d : DataW H} {p : List MemPlace} (hv : Value.okWide Tryz.prog W r b 26 v) (h : DataW.Trod enc Tryz.prog W 0 (fun _ => true) true 26 v d p)
    (hlt : ∀ x ∈ p, x.block < W.heap.size) : ∃ t T, v = Tv.val t ∧ TabR W W.heap.size t T := by
  have hs := Tryz.underlying26
  obtain ⟨cs, rfl, hsz⟩ := okWide_struct hs hv
  obtain ⟨l⟩ := cs
  match l, hsz.trans (show Tryz.prog.cellsOf 26 = 12 by kernel_rfl) with
  | [c0, c1, c2, c3, c4, c5, c6, c7, c8, c9, c10, c11], _ =>
    obtain ⟨fuel, hf⟩ := h
    obtain ⟨xs, n, _, hx, _, hlen, hg⟩ := DataW.trod_struct hs hf
    have hlt' : ∀ y ∈ xs, ∀ x ∈ y.2, x.block < W.heap.size := fun y hy x hx' => hlt x (by
      simp only [Prod.mk.injEq] at hx
      rw [hx.2]
      exact List.mem_flatMap.2 ⟨y, hy, hx'⟩)
    have hone := hone_tab hs
    match xs, hlen, hlt' with
    | [y0, y1, y2, y3, y4, y5, y6, y7, y8, y9, y10, y11], _, hlt' =>
      have g0 := hg 0 _ rfl
      obtain ⟨o0, k0⟩ := hone_of hone 0 _ rfl
      rw [o0, k0] at g0
      have g1 := hg 1 _ rfl
      obtain ⟨o1, k1⟩ := hone_of hone 1 _ rfl
      rw [o1, k1] at g1
      have g2 := hg 2 _ rfl
      obtain ⟨o2, k2⟩ := hone_of hone 2 _ rfl
      rw [o2, k2] at g2
      have g3 := hg 3 _ rfl
      obtain ⟨o3, k3⟩ := hone_of hone 3 _ rfl
      rw [o3, k3] at g3
      have g4 := hg 4 _ rfl
      obtain ⟨o4, k4⟩ := hone_of hone 4 _ rfl
      rw [o4, k4] at g4
      have g5 := hg 5 _ rfl
      obtain ⟨o5, k5⟩ := hone_of hone 5 _ rfl
      rw [o5, k5] at g5
      have g6 := hg 6 _ rfl
      obtain ⟨o6, k6⟩ := hone_of hone 6 _ rfl
      rw [o6, k6] at g6
      have g7 := hg 7 _ rfl
      obtain ⟨o7, k7⟩ := hone_of hone 7 _ rfl
      rw [o7, k7] at g7
      have g8 := hg 8 _ rfl
      obtain ⟨o8, k8⟩ := hone_of hone 8 _ rfl
      rw [o8, k8] at g8
      have g9 := hg 9 _ rfl
      obtain ⟨o9, k9⟩ := hone_of hone 9 _ rfl
      rw [o9, k9] at g9
      have g10 := hg 10 _ rfl
      obtain ⟨o10, k10⟩ := hone_of hone 10 _ rfl
      rw [o10, k10] at g10
      have g11 := hg 11 _ rfl
      obtain ⟨o11, k11⟩ := hone_of hone 11 _ rfl
      rw [o11, k11] at g11
      have sp : ∀ {v : Value} {y : DataW H × List MemPlace}, DataW.trod enc Tryz.prog W 0 (fun _ => true) true n 23 [v] = some y → (∀ x ∈ y.2, x.block < W.heap.size) → ∃ xs, Spans W W.heap.size v xs := fun h hl => by
        obtain ⟨xs, hxs, _⟩ := spans_trod Tryz.underlying23 Tryz.underlying42 (by kernel_rfl) (by kernel_rfl) rfl rfl rfl Tryz.underlying3 h (fun b off hx => hl _ hx)
        exact ⟨xs, hxs⟩
      have mp : ∀ {v : Value} {y : DataW H × List MemPlace}, DataW.trod enc Tryz.prog W 0 (fun _ => true) true n 24 [v] = some y → (∀ x ∈ y.2, x.block < W.heap.size) → ∃ xs, Mapps W W.heap.size v xs := fun h hl =>
        mapps_trod Tryz.underlying24 Tryz.underlying49 (by kernel_rfl) (by kernel_rfl) rfl rfl Tryz.underlying3 Tryz.underlying22 (by kernel_rfl) h hl
      obtain ⟨s0, i0⟩ := sp (show DataW.trod enc Tryz.prog W 0 (fun _ => true) true n 23 [c0] = some y0 from g0) (hlt' y0 (by simp))
      obtain ⟨s1, i1⟩ := sp (show DataW.trod enc Tryz.prog W 0 (fun _ => true) true n 23 [c1] = some y1 from g1) (hlt' y1 (by simp))
      obtain ⟨s2, i2⟩ := sp (show DataW.trod enc Tryz.prog W 0 (fun _ => true) true n 23 [c2] = some y2 from g2) (hlt' y2 (by simp))
      obtain ⟨s3, i3⟩ := sp (show DataW.trod enc Tryz.prog W 0 (fun _ => true) true n 23 [c3] = some y3 from g3) (hlt' y3 (by simp))
      obtain ⟨s4, i4⟩ := sp (show DataW.trod enc Tryz.prog W 0 (fun _ => true) true n 23 [c4] = some y4 from g4) (hlt' y4 (by simp))
      obtain ⟨s5, i5⟩ := sp (show DataW.trod enc Tryz.prog W 0 (fun _ => true) true n 23 [c5] = some y5 from g5) (hlt' y5 (by simp))
      obtain ⟨s6, i6⟩ := sp (show DataW.trod enc Tryz.prog W 0 (fun _ => true) true n 23 [c6] = some y6 from g6) (hlt' y6 (by simp))
      obtain ⟨s7, i7⟩ := mp (show DataW.trod enc Tryz.prog W 0 (fun _ => true) true n 24 [c7] = some y7 from g7) (hlt' y7 (by simp))
      obtain ⟨s8, i8⟩ := mp (show DataW.trod enc Tryz.prog W 0 (fun _ => true) true n 24 [c8] = some y8 from g8) (hlt' y8 (by simp))
      obtain ⟨s9, i9⟩ := mp (show DataW.trod enc Tryz.prog W 0 (fun _ => true) true n 24 [c9] = some y9 from g9) (hlt' y9 (by simp))
      obtain ⟨s10, i10⟩ := ints_trod Tryz.underlying22 Tryz.underlying3 (by kernel_rfl) (show DataW.trod enc Tryz.prog W 0 (fun _ => true) true n 22 [c10] = some y10 from g10) (hlt' y10 (by simp))
      obtain ⟨s11, i11⟩ := mp (show DataW.trod enc Tryz.prog W 0 (fun _ => true) true n 24 [c11] = some y11 from g11) (hlt' y11 (by simp))
      exact ⟨⟨c0, c1, c2, c3, c4, c5, c6, c7, c8, c9, c10, c11⟩, ⟨s0, s1, s2, s3, s4, s5, s6, s7, s8, s9, s10, s11⟩, rfl, ⟨i0, i1, i2, i3, i4, i5, i6, i7, i8, i9, i10, i11⟩⟩
end

theorem glob_laid {W : World} (h : laidMetH Tryz.prog [("namedesk/table.blocks", Rows.laid_namedesk_table_blocks)] W) : Glob W := by
  rw [MakeChecks.laidMetH_plain _ _ _ (by kernel_rfl)] at h
  obtain ⟨ps, ⟨g0, t0, cs0, f0, p0, q0, hg0, ht0, hv0, hd0, _, rfl⟩, _, hfr⟩ := h
  obtain rfl := Option.some.inj (gBlocks.symm.trans hg0)
  obtain rfl := Option.some.inj (tBlocks.symm.trans ht0)
  have hlt : ∀ b off, MemPlace.cell b off ∈ p0 → b < W.heap.size := by
    intro b off hx
    obtain ⟨⟨c, t, hb⟩, _⟩ := hfr b off (List.mem_append_left _ (List.mem_append_right _ hx))
    exact (Array.getElem?_eq_some_iff.1 hb).1
  obtain ⟨v, hcs⟩ : ∃ v, cs0.toList = [v] := by
    rcases open_slice_fields Tryz.underlying23 Tryz.underlying42 (by kernel_rfl) (by kernel_rfl) hd0 with ⟨hcs, _⟩ | ⟨a, len, cap, m, D, Pl, hcs, _⟩
    · exact ⟨_, hcs⟩
    · exact ⟨_, hcs⟩
  rw [hcs] at hd0
  obtain ⟨xs, hxs, hes, hnil⟩ := spans_trod Tryz.underlying23 Tryz.underlying42 (by kernel_rfl) (by kernel_rfl) rfl rfl rfl Tryz.underlying3 hd0 hlt
  have he := hes _ _ rfl
  have hxb : xs = blocksL := by
    have h6 : xs.length = 6 := by have := congrArg List.length he; simpa using this.symm
    match xs, h6 with
    | [x0, x1, x2, x3, x4, x5], _ =>
      obtain ⟨x00, x01, x02⟩ := x0
      obtain ⟨x10, x11, x12⟩ := x1
      obtain ⟨x20, x21, x22⟩ := x2
      obtain ⟨x30, x31, x32⟩ := x3
      obtain ⟨x40, x41, x42⟩ := x4
      obtain ⟨x50, x51, x52⟩ := x5
      simp at he
      unfold blocksL
      simp
      omega
  subst hxb
  refine ⟨v, ?_, hxs⟩
  have := World.var?_cell hg0 hv0 0
  rw [this]
  cases cs0
  simp at hcs
  subst hcs
  rfl
end Go.Proofs.YtneinkpfhkojgaaGreatDoor
/-
  A witness for a row that lists the variable table.blocks: the heap that the door's own run leaves.
-/
namespace Go.Proofs.YtneinkpfhkojgaaGreatDoor
open Go.ChangeShapes Go.WideShapes Go.ChangeAt Go.RowKit

theorem witness_door {H : Type} {enc : TypeId × Value → H} {C : Checked} {os : Os} {f : FuncId} {fn : Func} {s : OpenSpec} {conds : List PathCond} {apart : Bool} {laid : List (String × DataW Unit)} (w0 : World) (args : Array Value) (hos : w0.os = os)
    (hsh : (w0.forCall (fun _ _ => 0) ⟨#[], args, []⟩).Shaped C.prog)
    (hok : Input.okWideB C.prog (w0.forCall (fun _ _ => 0) ⟨#[], args, []⟩) f ⟨#[], args, []⟩ = true)
    (hrow : s.preRow enc C.prog fn conds apart laid (w0.forCall (fun _ _ => 0) ⟨#[], args, []⟩).memory args) :
    ∃ (w : World) (tape : Tape) (i : Input), w.os = os ∧ (w.forCall tape i).Shaped C.prog ∧ i.vars = [] ∧ Input.okWide C.prog (w.forCall tape i) .any w.heap.size f i ∧
      s.preRow enc C.prog fn conds apart laid (w.forCall tape i).memory i.args ∧ ({ modest := false } : Assume).holds C.prog (lone (Frame.enter C.prog f i.args .normal) [] (w.forCall tape i)) :=
  ⟨w0, fun _ _ => 0, ⟨#[], args, []⟩, hos, hsh, (Input.okWide_of_okWideB (base := 0) hok).1, (Input.okWide_of_okWideB hok).2, hrow, by
    simp only [Assume.holds]
    exact ⟨by simp, by simp, fun _ => Modest.zero, by simp, by simp⟩⟩
end Go.Proofs.YtneinkpfhkojgaaGreatDoor
/-
  keep.Pick.
-/
namespace Go.Proofs.YtneinkpfhkojgaaGreatDoor
open Go.RowKit

/-- keep.Pick: from 0 to n - 1. -/
def pick (v n : Int) : Int := v % 18446744073709551616 % n
theorem pick_in (v : Int) {n : Int} (h : 0 < n) : 0 ≤ pick v n ∧ pick v n < n := ⟨Int.emod_nonneg _ (by omega), Int.emod_lt_of_pos _ h⟩

theorem pick_eq {v n : Int} (h0 : 0 < n) (h1 : n < 9223372036854775808) : wrap64 ((IntKind.u64.wrap v).tmod n) = pick v n := by
  have hp := pick_in v h0
  have e : (IntKind.u64.wrap v).tmod n = pick v n := by
    rw [IntKind.wrap_u64, Int.tmod_eq_emod_of_nonneg (by omega)]; rfl
  rw [e, IntWalk.wrap64_in _ ⟨by omega, by omega⟩]

set_option maxHeartbeats 400000 in
theorem pick_any (a b : Int) (w : World) (h0 : 0 < b) (h1 : b < 9223372036854775808) :
    Calls Tryz.prog 29 #[.int .i64 a, .int .i64 b] w fun e w' => e = .returned (.int .i64 (pick a b)) ∧ w = w' := by
  have HP := Lib.hid (pick_eq (v := a) h0 h1)
  go_enter Tryz.func29, Tryz.ntmps29
  go_wp2
  go_ret
  refine ⟨?_, rfl⟩
  show Ending.returned (.int .i64 (wrap64 ((IntKind.u64.wrap a).tmod b))) = _
  rw [HP.out]

end Go.Proofs.YtneinkpfhkojgaaGreatDoor
/-
  The walks through keep.From and Source.Next.
-/
namespace Go.Proofs.YtneinkpfhkojgaaGreatDoor
open Go.RowKit ND

/-- The source that lies in block g: the list v, of which xs are the numbers, and how many have been used. -/
def Src (w : World) (g : Nat) (v : Value) (n : Nat) : Prop := ∃ i : Nat, i ≤ n ∧ Blk w g 58 #[v, .int .i64 i]

def RetNext (w : World) (g : Nat) (v : Value) (n : Nat) (m : Int) (e : Ending) (w' : World) : Prop :=
  ∃ r : Int, e = .returned (.int .i64 r) ∧ 0 ≤ r ∧ r < m ∧ Src w' g v n ∧ w.grownBy w' (some g)

set_option maxRecDepth 100000 in
set_option maxHeartbeats 400000 in
theorem from_any (A : Option Addr) (n c : Nat) (w : World) : Calls Tryz.prog 11 #[.slice A n c] w fun e w' => e = .returned (.pointer (some ⟨w.heap.size, 0, none⟩)) ∧ w' = w.alloc (.cells #[.slice A n c, .int .i64 0] 58) := by
  go_enter Tryz.func11, Tryz.ntmps11
  go_wp2_with fail
  go_ret
  exact ⟨rfl, rfl⟩

set_option maxRecDepth 100000 in
set_option maxHeartbeats 400000 in
theorem next_src (w : World) (g : Nat) (v : Value) (xs : List Int) (m : Int) (hv : Ints w g .i64 v xs) (hs : Src w g v xs.length) (h0 : 0 < m) (h1 : m ≤ 1000000) :
    Calls Tryz.prog 12 #[.pointer (some ⟨g, 0, none⟩), .int .i64 m] w (RetNext w g v xs.length m) := by
  obtain ⟨i, hi, hb⟩ := hs
  obtain ⟨A, c, rfl, hc1, hc2, _, hcell⟩ := hv
  have HC := Lib.hid hcell; clear hcell
  have hx : xs.length ≤ 9223372036854775807 := by unfold maxLen at hc2; omega
  have c0 : w.cell? ⟨g, 0, none⟩ = some (.slice A xs.length c) := by rw [hb.cell]; rfl
  have c1 : w.cell? ⟨g, 1, none⟩ = some (.int .i64 i) := by rw [hb.cell]; rfl
  have f1 := hb.free 1
  have HB := Lib.hid hb; clear hb
  by_cases hlt : i < xs.length
  · go_enter Tryz.func12, Tryz.ntmps12
    go_wp2_with fail
    go_quiet (fail)
    go_wp2_with fail
    have hb1 : Blk ((w.drewN nq).setCell ⟨g, 1, none⟩ (.int .i64 (i + 1))) g 58 #[.slice A xs.length c, .int .i64 (i + 1)] :=
      (show Blk (w.drewN nq) g 58 #[.slice A xs.length c, .int .i64 i] from HB.out).put 1 (.int .i64 (i + 1))
    have hbel1 : Below g w ((w.drewN nq).setCell ⟨g, 1, none⟩ (.int .i64 (i + 1))) := (below_drewN (Below.refl g w) nq).setCell (p := ⟨g, 1, none⟩) (Nat.le_refl _) _
    have hgr1 : w.grownBy ((w.drewN nq).setCell ⟨g, 1, none⟩ (.int .i64 (i + 1))) (some g) := grown_setCell (grown_drewN (grown_refl w _) nq) _ _
    generalize (w.drewN nq).setCell ⟨g, 1, none⟩ (.int .i64 ((i : Int) + 1)) = w1 at *
    obtain ⟨x, hxk, _⟩ := get_of hlt
    obtain ⟨ad, rfl, ha, hce⟩ := HC.out i x hxk
    have e1 := (hbel1.cell (p := ad.add i) (by rw [block_of_add]; exact ha)).trans hce
    have d0 : w1.cell? ⟨g, 0, none⟩ = some (.slice (some ad) xs.length c) := by rw [hb1.cell]; rfl
    have d1 : w1.cell? ⟨g, 1, none⟩ = some (.int .i64 (i + 1)) := by rw [hb1.cell]; rfl
    have hw : IntKind.i64.wrap ((i : Int) + 1 - 1) = i := by rw [IntWalk.i64_in _ (by omega)]; omega
    have k0 : (0 : Int) ≤ (i : Int) := by omega
    have k1 : (i : Int) < (xs.length : Int) := by omega
    have HB1 := Lib.hid hb1; clear hb1 HB hce hxk
    have hpk := pick_in x h0
    go_quiet ((go_at_call 29; exact quiet_left (pick_any _ _ _ h0 (by omega))))
    rename_i nq2
    go_wp2_with fail
    go_ret
    exact ⟨_, rfl, hpk.1, hpk.2, ⟨i + 1, by omega, HB1.out⟩, grown_drewN hgr1 _⟩
  · go_enter Tryz.func12, Tryz.ntmps12
    go_wp2_with fail
    go_quiet (fail)
    go_wp2_with fail
    go_ret
    exact ⟨0, rfl, by omega, h0, ⟨i, hi, HB.out⟩, grown_drewN (grown_refl w _) nq⟩
end Go.Proofs.YtneinkpfhkojgaaGreatDoor
/-
  Worlds in which some blocks are not looked at: readings that lean on the other blocks alone.
-/
namespace Go.Proofs.YtneinkpfhkojgaaGreatDoor
open Go.RowKit ND

/-- The world, with nothing in the blocks S. -/
def veil (S : List Nat) (w : World) : World := { w with heap := w.heap.mapIdx fun i o => if i ∈ S then .cells #[] 0 (0, 0) else o }
theorem veil_size (S : List Nat) (w : World) : (veil S w).heap.size = w.heap.size := by simp [veil]
theorem veil_at (S : List Nat) (w : World) (k : Nat) (h : k ∉ S) : (veil S w).heap[k]? = w.heap[k]? := by
  simp [veil, Array.getElem?_mapIdx, h]
theorem veil_in (S : List Nat) (w : World) (k : Nat) (h : k ∈ S) (hk : k < w.heap.size) : (veil S w).heap[k]? = some (.cells #[] 0 (0, 0)) := by
  simp [veil, h, hk]
theorem veil_cell {S : List Nat} {w : World} {p : Addr} {v : Value} (h : (veil S w).cell? p = some v) : w.cell? p = some v := by
  by_cases hp : p.block ∈ S
  · exfalso
    have hlt := World.block_lt_of_cell? _ _ h
    rw [veil_size] at hlt
    have := veil_in S w p.block hp hlt
    unfold World.cell? at h
    rw [this] at h
    simp at h
  · have e := veil_at S w p.block hp
    unfold World.cell? at h ⊢
    rw [e] at h
    exact h
/-- What changes the blocks S alone. -/
def onlyIn (S : List Nat) (w w' : World) : Prop := w'.os = w.os ∧ w'.tape = w.tape ∧ w'.output = w.output ∧ w.heap.size ≤ w'.heap.size ∧ ∀ k, k ∉ S → k < w.heap.size → w'.heap[k]? = w.heap[k]?
theorem onlyIn.refl (S : List Nat) (w : World) : onlyIn S w w := ⟨rfl, rfl, rfl, Nat.le_refl _, fun _ _ _ => rfl⟩
theorem onlyIn.trans {S : List Nat} {a b c : World} (h : onlyIn S a b) (k : onlyIn S b c) : onlyIn S a c :=
  ⟨k.1.trans h.1, k.2.1.trans h.2.1, k.2.2.1.trans h.2.2.1, Nat.le_trans h.2.2.2.1 k.2.2.2.1, fun i hi hl => (k.2.2.2.2 i hi (Nat.lt_of_lt_of_le hl h.2.2.2.1)).trans (h.2.2.2.2 i hi hl)⟩
theorem onlyIn.of_below {S : List Nat} {w w' : World} (h : Below w.heap.size w w') : onlyIn S w w' := ⟨h.os, h.tape, h.output, h.size, fun k _ hk => h.block k hk⟩
theorem onlyIn.of_grown {S : List Nat} {w w' : World} {g : Nat} (h : w.grownBy w' (some g)) (hg : g ∈ S) : onlyIn S w w' :=
  ⟨h.os, h.tape, h.output, h.size, fun k hk hl => h.block k hl (fun e => hk (by cases e; exact hg))⟩
theorem onlyIn.of_own {S : List Nat} {w w' : World} {v : Value} (h : w.grownBy w' v.ownBlock) (hg : ∀ g, v.ownBlock = some g → g ∈ S) : onlyIn S w w' :=
  ⟨h.os, h.tape, h.output, h.size, fun k hk hl => h.block k hl (fun e => hk (hg k e.symm))⟩
theorem onlyIn.more {S S' : List Nat} {w w' : World} (h : onlyIn S w w') (hs : ∀ x ∈ S, x ∈ S') : onlyIn S' w w' := ⟨h.1, h.2.1, h.2.2.1, h.2.2.2.1, fun k hk hl => h.2.2.2.2 k (fun hx => hk (hs k hx)) hl⟩
/-- Below a block that lies below all of S. -/
theorem onlyIn.below {S : List Nat} {w w' : World} {B : Nat} (h : onlyIn S w w') (hB : ∀ x ∈ S, B ≤ x) (hs : B ≤ w.heap.size) : Below B w w' :=
  ⟨h.1, h.2.1, h.2.2.1, h.2.2.2.1, fun k hk => h.2.2.2.2 k (fun hx => by have := hB k hx; omega) (Nat.lt_of_lt_of_le hk hs)⟩
theorem onlyIn.veiled {S : List Nat} {w w' : World} (h : onlyIn S w w') : Below (veil S w).heap.size (veil S w) (veil S w') := by
  refine ⟨h.1, h.2.1, h.2.2.1, by rw [veil_size, veil_size]; exact h.2.2.2.1, fun k hk => ?_⟩
  rw [veil_size] at hk
  by_cases hx : k ∈ S
  · rw [veil_in S w k hx hk, veil_in S w' k hx (Nat.lt_of_lt_of_le hk h.2.2.2.1)]
  · rw [veil_at S w k hx, veil_at S w' k hx]; exact h.2.2.2.2 k hx hk
theorem onlyIn.blk {S : List Nat} {w w' : World} {g : Nat} {t : TypeId} {cs : Array Value} (h : onlyIn S w w') (hb : Blk w g t cs) (hg : g ∉ S) : Blk w' g t cs := (h.2.2.2.2 g hg hb.lt).trans hb

section
variable {S : List Nat} {w : World} {B : Nat}
theorem Ints.unveil {k : IntKind} {v : Value} {xs : List Int} (h : Ints (veil S w) B k v xs) : Ints w B k v xs := by
  obtain ⟨A, c, hv, h1, h2, h3, h4⟩ := h
  refine ⟨A, c, hv, h1, h2, h3, fun i x hi => ?_⟩
  obtain ⟨ad, e, hb, hc⟩ := h4 i x hi
  exact ⟨ad, e, hb, veil_cell hc⟩
theorem Spans.unveil {v : Value} {xs : List (Int × Int × Int)} (h : Spans (veil S w) B v xs) : Spans w B v xs := by
  obtain ⟨A, c, hv, h1, h2, h3, h4⟩ := h
  refine ⟨A, c, hv, h1, h2, h3, fun i x hi => ?_⟩
  obtain ⟨ad, e, hb, c0, c1, c2⟩ := h4 i x hi
  exact ⟨ad, e, hb, veil_cell c0, veil_cell c1, veil_cell c2⟩
theorem Mapps.unveil {v : Value} {xs : List Mp} (h : Mapps (veil S w) B v xs) : Mapps w B v xs := by
  obtain ⟨A, c, hv, h1, h2, h3, h4⟩ := h
  refine ⟨A, c, hv, h1, h2, h3, fun i x hi => ?_⟩
  obtain ⟨ad, sv, e, hb, c0, c1, hi'⟩ := h4 i x hi
  exact ⟨ad, sv, e, hb, veil_cell c0, veil_cell c1, hi'.unveil⟩
theorem TabR.unveil {t : Tv} {T : Tab} (h : TabR (veil S w) B t T) : TabR w B t T :=
  ⟨h.r0.unveil, h.r1.unveil, h.r2.unveil, h.r3.unveil, h.r4.unveil, h.r5.unveil, h.r6.unveil, h.r7.unveil, h.r8.unveil, h.r9.unveil, h.r10.unveil, h.r11.unveil⟩
/-- A reading of a block that is not veiled. -/
theorem cell_veil {p : Addr} (hp : p.block ∉ S) : (veil S w).cell? p = w.cell? p := by
  have e := veil_at S w p.block hp
  unfold World.cell?
  rw [e]
theorem Spans.veil_own {base : Nat} {e : TypeId} {v : Value} {xs : List (Int × Int × Int)} (h : w.ownsRow base e 3 v xs.length (xs.flatMap spCells)) (hS : ∀ x ∈ S, x < base) : Spans (veil S w) (veil S w).heap.size v xs := by
  have h1 := Spans.of_own h
  obtain ⟨A, c, hv, h1, h2, h3, h4⟩ := h1
  refine ⟨A, c, hv, h1, h2, h3, fun i x hi => ?_⟩
  obtain ⟨ad, rfl, hb, c0, c1, c2⟩ := h4 i x hi
  have hob : base ≤ ad.block := by
    have hlt := h.lt ad.block
    rcases h.2 with ⟨hv', _⟩ | ⟨g, cap, cur, hv', hbg, _⟩
    · rw [hv] at hv'; cases hv'
    · rw [hv] at hv'; cases hv'; exact hbg
  have hn : ad.block ∉ S := fun hx => by have := hS _ hx; omega
  refine ⟨ad, rfl, by rw [veil_size]; exact hb, ?_, ?_, ?_⟩
  · rw [cell_veil (by rw [block_of_add]; exact hn)]; exact c0
  · rw [cell_veil (by rw [block_of_add]; exact hn)]; exact c1
  · rw [cell_veil (by rw [block_of_add]; exact hn)]; exact c2
end
end Go.Proofs.YtneinkpfhkojgaaGreatDoor
/-
  The walk through keep.choose.
-/
namespace Go.Proofs.YtneinkpfhkojgaaGreatDoor
open Go.RowKit ND

def RetChoose (w : World) (g : Nat) (v : Value) (n : Nat) (ys : List Int) (e : Ending) (w' : World) : Prop :=
  ∃ r : Int, e = .returned (.int .i64 r) ∧ r ∈ ys ∧ Src w' g v n ∧ w.grownBy w' (some g)

theorem grown_cell {w w' : World} {g : Nat} {p : Addr} {x : Value} (h : w.grownBy w' (some g)) (hp : p.block ≠ g) (hc : w.cell? p = some x) : w'.cell? p = some x := by
  have hlt := World.block_lt_of_cell? _ _ hc
  have e := h.block p.block hlt (fun e => hp (by cases e; rfl))
  unfold World.cell? at hc ⊢
  rw [e]; exact hc

set_option maxRecDepth 100000 in
set_option maxHeartbeats 1000000 in
theorem choose_any (w : World) (g : Nat) (v : Value) (xs : List Int) (hv : Ints w g .i64 v xs) (hs : Src w g v xs.length) (ys : List Int) (ad : Addr) (c : Nat)
    (hy : ∀ i x, ys[i]? = some x → w.cell? (ad.add i) = some (.int .i64 x)) (hb : ad.block ≠ g) (hl : 0 < ys.length) (hl2 : ys.length ≤ 1000) :
    Calls Tryz.prog 15 #[.pointer (some ⟨g, 0, none⟩), .slice (some ad) ys.length c] w (RetChoose w g v xs.length ys) := by
  have HN : Hid (∀ (W : World) (m : Int), w.grownBy W (some g) → Src W g v xs.length → 0 < m → m ≤ 1000000 → Calls Tryz.prog 12 #[.pointer (some ⟨g, 0, none⟩), .int .i64 m] W (RetNext W g v xs.length m)) := by
    refine Lib.hid fun W m hW hS h0 h1 => next_src W g v xs m ?_ hS h0 h1
    obtain ⟨A, c, hv', h1, h2, h3, h4⟩ := hv
    refine ⟨A, c, hv', h1, h2, h3, fun i x hi => ?_⟩
    obtain ⟨a, e, hb, hc⟩ := h4 i x hi
    exact ⟨a, e, hb, grown_cell hW (by rw [block_of_add]; omega) hc⟩
  have HY : Hid (∀ (W : World), w.grownBy W (some g) → ∀ i x, ys[i]? = some x → W.cell? (ad.add i) = some (.int .i64 x)) := by
    refine Lib.hid fun W hW i x hi => grown_cell hW (by rw [block_of_add]; exact hb) (hy i x hi)
  clear hy hv
  obtain ⟨y0, hy0, hy0m⟩ := get_of hl
  have l0 : (0 : Int) < (ys.length : Int) := by omega
  have l1 : (ys.length : Int) ≤ 1000000 := by omega
  have HS := Lib.hid hs; clear hs
  go_enter Tryz.func15, Tryz.ntmps15
  go_wp2_with (first | (go_at_call 12; refine (HN.out w _ (grown_refl w _) HS.out ?_ ?_).mono ?_; decide; decide; rintro e w1 ⟨r, rfl, r0, r3, hs1, hg1⟩; have c1 : w1.cell? ad = some (.int .i64 y0) := HY.out w1 hg1 0 y0 hy0) | (go_at_call 12; refine (HN.out w1 _ hg1 hs1 l0 l1).mono ?_; rintro e w2 ⟨q, rfl, q0, q1, hs2, hg2⟩; obtain ⟨k, rfl⟩ := Int.eq_ofNat_of_zero_le q0; obtain ⟨x, hx, hxm⟩ := get_of (show k < ys.length by omega); have hg3 := hg1.trans hg2; have c2 := HY.out w2 hg3 k x hx))
  all_goals go_ret
  · exact ⟨y0, rfl, hy0m, hs1, hg1⟩
  · exact ⟨x, rfl, hxm, hs2, hg3⟩
end Go.Proofs.YtneinkpfhkojgaaGreatDoor
/-
  One integer is appended, at a step of a region that draws its order: a law for go_region_law.
-/
namespace Go.Proofs.YtneinkpfhkojgaaGreatDoor
open Go.RowKit

theorem step_push_int {P : Program} {ops : Array Oper} {o : Oper} {a : Act} {W w : World} {K : Act → World → Prop} {Q : Exit → Act → World → Prop} {E : Prop} {T e : TypeId} {i0 : TypeInfo} (hgd : o.guard = none) (s x : Operand)
    (ho : o.op = .call { callee := .builtin .append, args := #[s, x], argTypes := #[T, T] }) (ht : P.underlying T = some (.slice e)) (hi : P.info? e = some i0) (hz : i0.zero = some (.int .i64 0)) (h1 : i0.size = 1) (h2 : i0.bytes = 8)
    (v : Value) (acc : List Int) (y : Int) (hs : a.eval s = v) (hown : w.ownsRow W.heap.size e 1 v acc.length (acc.map (Value.int .i64))) (hbel : Below W.heap.size W w) (hx : a.eval x = .slice (some ⟨w.heap.size, 0, none⟩) 1 1) (hl : acc.length ≤ 1000000)
    (h : ∀ v' w', w'.ownsRow W.heap.size e 1 v' (acc ++ [y]).length ((acc ++ [y]).map (Value.int .i64)) → Below W.heap.size W w' → K (a.put o.dst v') w') :
    if Region.wanted o (yielded ops a.tmps) = true then Oper.wp P o a ((w.alloc (.cells #[.int .i64 y] e)).drew) K Q else E := by
  refine step_append_lies _ hgd s x T ho W.heap.size e i0 (.int .i64 0) 1 8 ht hi hz h1 h2 rfl (by omega) v acc.length (acc.map (Value.int .i64)) hs ((hown.alloc _).drew) ⟨w.heap.size, 0, none⟩ 1 1 [.int .i64 y] hx rfl
    (World.news_of_block (cs := #[.int .i64 y]) (t := e) (fr := (0, 0)) (heap_alloc_new w _)) (by simp [Value.oneCell']) (by omega) (by unfold maxLen; omega) (by omega) (by have := hbel.size; simp; omega) _ rfl ?_
  intro g cap w1 hown1 hgrow hat hlt
  refine h _ _ (by simpa using hown1) ?_
  refine ((hbel.alloc hbel.size _).drew).grown hgrow ?_ ?_
  · have := hbel.size; simp; omega
  · intro k hk
    exact (hown.lt k hk).1
end Go.Proofs.YtneinkpfhkojgaaGreatDoor
/-
  A list of integers is appended to an own row: append(v, u...), u any list that can be read.
-/
namespace Go.Proofs.YtneinkpfhkojgaaGreatDoor
open Go.RowKit

theorem run_append_none {P : Program} {w : World} {t ty e : TypeId} {i : TypeInfo} (ht : P.underlying t = some (.slice e)) (hi : P.info? e = some i) {base size : Nat} {v : Value} {n : Nat} {xs : List Value} (hown : w.ownsRow base e size v n xs) :
    (Builtin.append_ #[t, t] ty #[v, .slice none 0 0]).run P w = .ok v w := by
  rcases hown.2 with ⟨rfl, _⟩ | ⟨g, cap, cur, rfl, _, _, hnc, _, _, _⟩
  · simp [Builtin.append_, run_underlying ht, sizeOf, typeInfo, hi, Builtin.lenOf, Builtin.firstCells]
  · simp [Builtin.append_, run_underlying ht, sizeOf, typeInfo, hi, Builtin.lenOf, Builtin.firstCells, hnc, storeCells]

theorem wpList_append_ints {P : Program} {ops : Array Oper} {rest : List Oper} {o : Oper} {a : Act} {w : World} {Q : Exit → Act → World → Prop} {T e : TypeId} {i0 : TypeInfo} (hw : Region.wanted o (yielded ops a.tmps) = true) (s x : Operand)
    (ho : o.op = .call { callee := .builtin .append, args := #[s, x], argTypes := #[T, T] }) (ht : P.underlying T = some (.slice e)) (hi : P.info? e = some i0) (hz : i0.zero = some (.int .i64 0)) (h1 : i0.size = 1) (h2 : i0.bytes = 8)
    (B base : Nat) (v : Value) (acc : List Int) (u : Value) (ys : List Int) (hs : a.eval s = v) (hown : w.ownsRow base e 1 v acc.length (acc.map (Value.int .i64))) (hx : a.eval x = u) (hu : Ints w B .i64 u ys) (hl : acc.length + ys.length ≤ 1000000) (hb : base ≤ w.heap.size)
    (h : ∀ v' w', w'.ownsRow base e 1 v' (acc ++ ys).length ((acc ++ ys).map (Value.int .i64)) → w.grownBy w' v.ownBlock → (ys = [] → v = .slice none 0 0 → v' = .slice none 0 0) → wpList P ops Q rest (a.put o.dst v') w') : wpList P ops Q (o :: rest) a w := by
  refine wpList_step fun K hK => ?_
  rw [if_pos hw]
  have key : ∀ v' w', w'.ownsRow base e 1 v' (acc ++ ys).length ((acc ++ ys).map (Value.int .i64)) → w.grownBy w' v.ownBlock → (ys = [] → v = .slice none 0 0 → v' = .slice none 0 0) → K (a.put o.dst v') w' := fun v' w' p q r => hK _ _ (h v' w' p q r)
  obtain ⟨A, c, rfl, hc1, hc2, hA, hcell⟩ := hu
  cases A with
  | none =>
    obtain rfl : c = 0 := hA rfl
    obtain rfl : ys = [] := List.eq_nil_of_length_eq_zero (by omega)
    have hr := run_append_none (P := P) (ty := o.type) ht hi hown
    have h3 := key v w (by simpa using hown) (grown_refl w _) (fun _ e => e)
    unfold Oper.wp execOp
    simp only [ho, resolve, invoke, builtin, Sem.run_bind, Sem.run_pure, Result.andThen_ok, List.map_toArray, List.map_cons, List.map_nil, hs, hx, List.length_nil, hr]
    exact h3
  | some ad =>
    refine wp_append_own w s x T ho base e i0 (.int .i64 0) 1 8 ht hi hz h1 h2 rfl (by omega) v acc.length _ hs hown ad ys.length c (ys.map (Value.int .i64)) hx (by simp) ?_ ?_ (by unfold maxLen; omega) (by omega) hb ?_
    · intro j q hq
      rw [List.getElem?_map] at hq
      cases hy : ys[j]? with
      | none => rw [hy] at hq; cases hq
      | some y =>
        rw [hy] at hq; cases hq
        obtain ⟨ad', e1, _, e2⟩ := hcell j y hy
        cases e1; exact e2
    · intro q hq
      obtain ⟨y, _, rfl⟩ := List.mem_map.1 hq
      rfl
    · intro v' w' p q r
      exact key v' w' (by simpa using p) q (fun e1 e2 => r.2 ⟨e2, by rw [e1]; rfl⟩)
end Go.Proofs.YtneinkpfhkojgaaGreatDoor
/-
  The walk through keep.add.
-/
namespace Go.Proofs.YtneinkpfhkojgaaGreatDoor
open Go.RowKit ND

theorem flat_len3 (acc : List Sp) : (acc.flatMap spCells).length = acc.length * 3 := by
  induction acc with
  | nil => rfl
  | cons a r ih => simp only [List.flatMap_cons, List.length_append, ih, List.length_cons]; have : (spCells a).length = 3 := rfl; omega

/-- The cells of spans that can be read, one after the other. -/
theorem spans_news {X : World} {L : List Sp} {ad : Addr}
    (h : ∀ i x, L[i]? = some x → X.cell? (ad.add (i * 3)) = some (.int .i64 x.1) ∧ X.cell? (ad.add (i * 3 + 1)) = some (.int .i64 x.2.1) ∧ X.cell? (ad.add (i * 3 + 2)) = some (.int .i64 x.2.2)) :
    ∀ j u, (L.flatMap spCells)[j]? = some u → X.cell? (ad.add j) = some u := by
  intro j u hj
  have hlt : j < (L.flatMap spCells).length := (List.getElem?_eq_some_iff.1 hj).1
  rw [flat_len3] at hlt
  have hi : j / 3 < L.length := by omega
  obtain ⟨x, hx⟩ : ∃ x, L[j / 3]? = some x := ⟨_, List.getElem?_eq_getElem hi⟩
  obtain ⟨a0, a1, a2⟩ := spCells_at hx
  obtain ⟨b0, b1, b2⟩ := h _ x hx
  have hc : j = j / 3 * 3 ∨ j = j / 3 * 3 + 1 ∨ j = j / 3 * 3 + 2 := by omega
  rcases hc with e | e | e
  · rw [e] at hj ⊢; rw [a0] at hj; rw [b0]; exact hj
  · rw [e] at hj ⊢; rw [a1] at hj; rw [b1]; exact hj
  · rw [e] at hj ⊢; rw [a2] at hj; rw [b2]; exact hj

theorem step_app_nil {P : Program} {ops : Array Oper} {o : Oper} {a : Act} {X : World} {K : Act → World → Prop} {Q : Exit → Act → World → Prop} {E : Prop} {T e : TypeId} {i0 : TypeInfo} (hgd : o.guard = none) (s x : Operand)
    (ho : o.op = .call { callee := .builtin .append, args := #[s, x], argTypes := #[T, T] }) (ht : P.underlying T = some (.slice e)) (hi : P.info? e = some i0) (hz : i0.zero = some (.agg #[.int .i64 0, .int .i64 0, .int .i64 0])) (h1 : i0.size = 3) (h2 : i0.bytes = 24)
    (R : World) (u : Value) (L : List Sp) (B : Nat) (hs : a.eval s = .slice none 0 0) (hx : a.eval x = u) (hu : Spans X B u L) (hl : L.length ≤ 1000000) (hb : R.heap.size ≤ X.heap.size)
    (h : ∀ v' w', w'.ownsRow R.heap.size e 3 v' L.length (L.flatMap spCells) → X.grownBy w' none → K (a.put o.dst v') w') :
    if Region.wanted o (yielded ops a.tmps) = true then Oper.wp P o a X K Q else E := by
  have hw : Region.wanted o (yielded ops a.tmps) = true := by simp [Region.wanted, hgd]
  rw [if_pos hw]
  have hown : X.ownsRow R.heap.size e 3 (.slice none 0 0) 0 [] := World.ownsRow_nil _ _ _ _
  obtain ⟨A, c, rfl, hc1, hc2, hA, hcell⟩ := hu
  cases A with
  | none =>
    obtain rfl : c = 0 := hA rfl
    obtain rfl : L = [] := List.eq_nil_of_length_eq_zero (by omega)
    have hr := run_append_none (P := P) (ty := o.type) ht hi hown
    have h3 := h (.slice none 0 0) X (by simpa using hown) (grown_refl X none)
    unfold Oper.wp execOp
    simp only [ho, resolve, invoke, builtin, Sem.run_bind, Sem.run_pure, Result.andThen_ok, List.map_toArray, List.map_cons, List.map_nil, hs, hx, List.length_nil, hr]
    exact h3
  | some ad =>
    refine wp_append_own X s x T ho R.heap.size e i0 (.agg #[.int .i64 0, .int .i64 0, .int .i64 0]) 3 24 ht hi hz h1 h2 rfl (by omega) (.slice none 0 0) 0 [] hs hown ad L.length c (L.flatMap spCells) hx (flat_len3 L) ?_ ?_ (by unfold maxLen; omega) (by omega) hb ?_
    · refine spans_news fun i x hi => ?_
      obtain ⟨ad', e1, _, e2⟩ := hcell i x hi
      cases e1; exact e2
    · intro q hq
      obtain ⟨y, _, hy⟩ := List.mem_flatMap.1 hq
      simp only [spCells, List.mem_cons, List.not_mem_nil, or_false] at hy
      rcases hy with rfl | rfl | rfl <;> rfl
    · intro v' w' p q r
      exact h v' w' (by simpa using p) q

theorem step_app_one {P : Program} {ops : Array Oper} {o : Oper} {a : Act} {X : World} {K : Act → World → Prop} {Q : Exit → Act → World → Prop} {E : Prop} {T e : TypeId} {i0 : TypeInfo} (hgd : o.guard = none) (s x : Operand)
    (ho : o.op = .call { callee := .builtin .append, args := #[s, x], argTypes := #[T, T] }) (ht : P.underlying T = some (.slice e)) (hi : P.info? e = some i0) (hz : i0.zero = some (.agg #[.int .i64 0, .int .i64 0, .int .i64 0])) (h1 : i0.size = 3) (h2 : i0.bytes = 24)
    (R : World) (v : Value) (k : Nat) (L : List Sp) (f t u : Int) (hs : a.eval s = v) (hx : a.eval x = .slice (some ⟨k, 0, none⟩) 1 1) (hown : X.ownsRow R.heap.size e 3 v L.length (L.flatMap spCells)) (hk : Blk X k e #[.int .i64 f, .int .i64 t, .int .i64 u]) (hl : L.length ≤ 1000000) (hb : R.heap.size ≤ X.heap.size)
    (h : ∀ v' w', w'.ownsRow R.heap.size e 3 v' (L ++ [(f, t, u)]).length ((L ++ [(f, t, u)]).flatMap spCells) → X.grownBy w' v.ownBlock → K (a.put o.dst v') w') :
    if Region.wanted o (yielded ops a.tmps) = true then Oper.wp P o a X K Q else E := by
  have hw : Region.wanted o (yielded ops a.tmps) = true := by simp [Region.wanted, hgd]
  rw [if_pos hw]
  refine wp_append_own X s x T ho R.heap.size e i0 (.agg #[.int .i64 0, .int .i64 0, .int .i64 0]) 3 24 ht hi hz h1 h2 rfl (by omega) v L.length _ hs hown ⟨k, 0, none⟩ 1 1 [.int .i64 f, .int .i64 t, .int .i64 u] hx rfl
    (World.news_of_block (cs := #[.int .i64 f, .int .i64 t, .int .i64 u]) hk) ?_ (by unfold maxLen; omega) (by omega) hb ?_
  · intro q hq; simp at hq; rcases hq with rfl | rfl | rfl <;> rfl
  · intro v' w' p q r
    exact h v' w' (by rw [spans_snoc]; simpa [spCells] using p) q

theorem own_slice {w : World} {base : Nat} {e : TypeId} {size : Nat} {v : Value} {n : Nat} {xs : List Value} (h : w.ownsRow base e size v n xs) : ∃ A m c, v = .slice A m c := by
  rcases h.2 with ⟨rfl, _⟩ | ⟨g, cap, cur, rfl, _⟩
  · exact ⟨_, _, _, rfl⟩
  · exact ⟨_, _, _, rfl⟩

theorem undrew {a b : World} {row : Option Nat} (h : a.drew.grownBy b row) : a.grownBy b row := ⟨h.os, h.tape, h.output, h.size, h.block⟩
theorem grown_any {a b : World} {row : Option Nat} (h : a.grownBy b none) : a.grownBy b row := ⟨h.os, h.tape, h.output, h.size, fun k hk _ => h.block k hk (by simp)⟩
theorem grown_new {a c d : World} {b : Nat} {row : Option Nat} (h : a.grownBy c (some b)) (k : c.grownBy d row) (hr : ∀ x, row = some x → a.heap.size ≤ x) : a.grownBy d (some b) :=
  ⟨k.os.trans h.os, k.tape.trans h.tape, k.output.trans h.output, Nat.le_trans h.size k.size, fun i hi hn => (k.block i (Nat.lt_of_lt_of_le hi h.size) (fun e => by have := hr i e.symm; omega)).trans (h.block i hi hn)⟩

/-- keep.add: the list behind the pointer has one span more, or stands as it was. -/
def RetAdd (w : World) (b o : Nat) (TT : TypeId) (cs : Array Value) (v : Value) (L : List Sp) (f t val : Int) (e : Ending) (w' : World) : Prop :=
  ∃ v', e = .returned (.tuple #[]) ∧ Blk w' b TT (cs.setIfInBounds o v') ∧ w.grownBy w' (some b) ∧
    (val ≤ 0 → v' = v) ∧ (0 < val → ∀ S : List Nat, (∀ x ∈ S, x < w.heap.size) → Spans (veil S w') (veil S w').heap.size v' (L ++ [(f, t, val)]))

set_option maxRecDepth 100000 in
set_option maxHeartbeats 1000000 in
theorem add_any (w : World) (b o : Nat) (TT : TypeId) (cs : Array Value) (v : Value) (L : List Sp) (f t u val : Int) (hb : Blk w b TT cs) (hc : cs[o]? = some v) (hv : Spans w w.heap.size v L) (hl : L.length ≤ 1000000) :
    Calls Tryz.prog 16 #[.pointer (some ⟨b, o, none⟩), .agg #[.int .i64 f, .int .i64 t, .int .i64 u], .int .i64 val] w (RetAdd w b o TT cs v L f t val) := by
  by_cases h0 : 0 < val
  · go_enter Tryz.func16, Tryz.ntmps16
    go_wp2
    have hN : Blk (w.alloc (.cells #[.int .i64 f, .int .i64 t, .int .i64 val] 42)) w.heap.size 42 #[.int .i64 f, .int .i64 t, .int .i64 val] := Blk.new _ _ _
    have hb1 := hb.alloc (.cells #[.int .i64 f, .int .i64 t, .int .i64 val] 42)
    have hv1 : Spans (w.alloc (.cells #[.int .i64 f, .int .i64 t, .int .i64 val] 42)) w.heap.size v L := hv.below (Below.alloc (Below.refl _ _) (Nat.le_refl _) _)
    have hg1 := grown_alloc w (.cells #[.int .i64 f, .int .i64 t, .int .i64 val] 42) (some b)
    generalize w.alloc (.cells #[.int .i64 f, .int .i64 t, .int .i64 val] 42) = R at *
    obtain ⟨i0, hi, hz0, hz1, hz2⟩ := info_parts Tryz.infoSpan
    have d0 := hN.at_ (i := 0) (u := .int .i64 f) rfl
    have d1 := hN.at_ (i := 1) (u := .int .i64 t) rfl
    have d2 := hN.at_ (i := 2) (u := .int .i64 val) rfl
    have e0 := hb1.at_ hc
    have hRs : w.heap.size < R.heap.size := hN.lt
    obtain ⟨A, c, rfl, _⟩ := id hv1
    have HV1 := Lib.hid hv1
    have HB1 := Lib.hid hb1
    have HN := Lib.hid hN
    clear hv hb hv1 hb1 hN
    have hfree : ∀ (W : World) (v2 : Value) (n : Nat) (xs : List Value), W.ownsRow R.heap.size 42 3 v2 n xs → ∀ k, k < R.heap.size → some k ≠ v2.ownBlock := fun W v2 n xs h k hk e => by have := (h.lt k e.symm).1; omega
    have eA : (R.alloc (.cells #[.int .i64 f, .int .i64 t, .int .i64 val] 42)).cell? ⟨b, o, none⟩ = some (.slice A L.length c) := (HB1.out.alloc (.cells #[.int .i64 f, .int .i64 t, .int .i64 val] 42)).at_ hc
    have hbR := HB1.out.lt
    go_region_law (first
      | (refine step_app_nil rfl (.const (.slice none 0 0)) (.tmp 13) rfl Tryz.underlying23 hi hz0 hz1 hz2 R _ L w.heap.size rfl rfl (show Spans R.drew w.heap.size _ L from HV1.out) hl (Nat.le_refl _) ?_; intro v2 w2 hown2 hg2; have hb2 := (show Blk R.drew b TT cs from HB1.out).grown hg2 (by simp); have hN2 := (show Blk R.drew w.heap.size 42 #[.int .i64 f, .int .i64 t, .int .i64 val] from HN.out).grown hg2 (by simp); have d02 := hN2.at_ (i := 0) (u := .int .i64 f) rfl; have d12 := hN2.at_ (i := 1) (u := .int .i64 t) rfl; have d22 := hN2.at_ (i := 2) (u := .int .i64 val) rfl; have hgr2 : w.grownBy w2 (some b) := hg1.trans (grown_any (undrew hg2)))
      | (refine step_app_one rfl (.tmp 14) (.tmp 16) rfl Tryz.underlying23 hi hz0 hz1 hz2 R _ w2.heap.size L f t val rfl rfl (hown2.alloc (.cells #[.int .i64 f, .int .i64 t, .int .i64 val] 42)) (Blk.new w2 42 #[.int .i64 f, .int .i64 t, .int .i64 val]) hl (by have := hg2.size; simp at this ⊢; omega) ?_; intro v3 w3 hown3 hg3; have hb3 := (hb2.alloc (.cells #[.int .i64 f, .int .i64 t, .int .i64 val] 42)).grown hg3 (hfree _ _ _ _ hown2 b HB1.out.lt); have e3 := hb3.at_ hc; have f3 := hb3.free o; have hgr3 := grown_new (hgr2.trans (grown_alloc w2 (.cells #[.int .i64 f, .int .i64 t, .int .i64 val] 42) (some b))) hg3 (fun x hx => by have := (hown2.lt x hx).1; omega); obtain ⟨A3, m3, c3, rfl⟩ := own_slice hown3)
      | (refine step_app_one rfl (.tmp 14) (.tmp 16) rfl Tryz.underlying23 hi hz0 hz1 hz2 R _ R.heap.size L f t val rfl rfl hown2 hK2 hl (by have := hg2.size; simp at this ⊢; omega) ?_; intro v3 w3 hown3 hg3; have hb3 := hb2.grown hg3 (hfree _ _ _ _ hown2 b HB1.out.lt); have e3 := hb3.at_ hc; have f3 := hb3.free o; have hgr3 := grown_new hgr2 hg3 (fun x hx => by have := (hown2.lt x hx).1; omega); obtain ⟨A3, m3, c3, rfl⟩ := own_slice hown3)
      | (refine step_app_nil rfl (.const (.slice none 0 0)) (.tmp 13) rfl Tryz.underlying23 hi hz0 hz1 hz2 R _ L w.heap.size rfl rfl (show Spans (R.alloc (.cells #[.int .i64 f, .int .i64 t, .int .i64 val] 42)).drew w.heap.size _ L from HV1.out.below (show Below w.heap.size R (R.alloc (.cells #[.int .i64 f, .int .i64 t, .int .i64 val] 42)).drew from (show Below w.heap.size R (R.alloc (.cells #[.int .i64 f, .int .i64 t, .int .i64 val] 42)) from Below.alloc (Below.refl _ _) (Nat.le_of_lt hRs) _).drew)) hl (by simp) ?_; intro v2 w2 hown2 hg2; have hb2 := (show Blk (R.alloc (.cells #[.int .i64 f, .int .i64 t, .int .i64 val] 42)).drew b TT cs from HB1.out.alloc (.cells #[.int .i64 f, .int .i64 t, .int .i64 val] 42)).grown hg2 (by simp); have hK2 := (show Blk (R.alloc (.cells #[.int .i64 f, .int .i64 t, .int .i64 val] 42)).drew R.heap.size 42 #[.int .i64 f, .int .i64 t, .int .i64 val] from Blk.new R 42 #[.int .i64 f, .int .i64 t, .int .i64 val]).grown hg2 (by simp); have hgr2 : w.grownBy w2 (some b) := (hg1.trans (grown_alloc R (.cells #[.int .i64 f, .int .i64 t, .int .i64 val] 42) (some b))).trans (grown_any (undrew hg2))))
    all_goals go_wp2
    all_goals go_end0
    all_goals exact ⟨_, rfl, hb3.put o _, grown_setCell hgr3 o _, fun h => absurd h0 (by omega), fun _ S hS => Spans.veil_own (base := R.heap.size) (own_grown hown3 (grown_setCell (grown_refl _ (some b)) o _) hbR) (fun x hx => by have := hS x hx; omega)⟩
  · have HB := Lib.hid hb
    clear hb hv
    go_enter Tryz.func16, Tryz.ntmps16
    go_wp2
    go_end0
    have e1 : cs.setIfInBounds o v = cs := by
      refine Array.ext_getElem? fun i => ?_
      rw [Array.getElem?_setIfInBounds]
      by_cases h : o = i
      · subst h
        have := (Array.getElem?_eq_some_iff.1 hc).1
        simp [this]
        exact ((Array.getElem?_eq_some_iff.1 hc).2).symm
      · simp [h]
    exact ⟨v, rfl, by rw [e1]; exact HB.out.alloc _, grown_alloc _ _ _, fun _ => rfl, fun h => absurd h (by omega)⟩
end Go.Proofs.YtneinkpfhkojgaaGreatDoor
/-
  One element is appended to an own row in a drawn region; rows of mappings; readings that outlive what is appended.
-/
namespace Go.Proofs.YtneinkpfhkojgaaGreatDoor
open Go.RowKit ND

/-- A reading in a veiled world goes over to another world that has the cells it leans on. -/
theorem Ints.reveil {S S' : List Nat} {w w' : World} {B : Nat} {k : IntKind} {v : Value} {xs : List Int} (h : Ints (veil S w) B k v xs)
    (hk : ∀ p x, p.block < B → p.block ∉ S → w.cell? p = some x → p.block ∉ S' ∧ w'.cell? p = some x) : Ints (veil S' w') B k v xs := by
  obtain ⟨A, c, hv, h1, h2, h3, h4⟩ := h
  refine ⟨A, c, hv, h1, h2, h3, fun i x hi => ?_⟩
  obtain ⟨ad, e, hb, hc⟩ := h4 i x hi
  have hlt := World.block_lt_of_cell? _ _ hc
  have hn : (ad.add i).block ∉ S := by
    intro hx
    rw [veil_size] at hlt
    have := veil_in S w _ hx hlt
    unfold World.cell? at hc
    rw [this] at hc
    simp at hc
  obtain ⟨g1, g2⟩ := hk _ _ (by rw [block_of_add]; exact hb) hn (veil_cell hc)
  exact ⟨ad, e, hb, by rw [cell_veil g1]; exact g2⟩

theorem unveil_at {S : List Nat} {w : World} {p : Addr} {x : Value} (h : (veil S w).cell? p = some x) : p.block ∉ S := by
  have hlt := World.block_lt_of_cell? _ _ h
  intro hx
  rw [veil_size] at hlt
  have := veil_in S w _ hx hlt
  unfold World.cell? at h
  rw [this] at h
  simp at h
theorem Spans.reveil {S S' : List Nat} {w w' : World} {B : Nat} {v : Value} {xs : List Sp} (h : Spans (veil S w) B v xs)
    (hk : ∀ p x, p.block < B → p.block ∉ S → w.cell? p = some x → p.block ∉ S' ∧ w'.cell? p = some x) : Spans (veil S' w') B v xs := by
  obtain ⟨A, c, hv, h1, h2, h3, h4⟩ := h
  refine ⟨A, c, hv, h1, h2, h3, fun i x hi => ?_⟩
  obtain ⟨ad, e, hb, c0, c1, c2⟩ := h4 i x hi
  have go : ∀ p y, p.block < B → (veil S w).cell? p = some y → (veil S' w').cell? p = some y := fun p y hp hy => by
    obtain ⟨g1, g2⟩ := hk p y hp (unveil_at hy) (veil_cell hy)
    rw [cell_veil g1]; exact g2
  exact ⟨ad, e, hb, go _ _ (by rw [block_of_add]; exact hb) c0, go _ _ (by rw [block_of_add]; exact hb) c1, go _ _ (by rw [block_of_add]; exact hb) c2⟩
theorem Mapps.reveil {S S' : List Nat} {w w' : World} {B : Nat} {v : Value} {xs : List Mp} (h : Mapps (veil S w) B v xs)
    (hk : ∀ p x, p.block < B → p.block ∉ S → w.cell? p = some x → p.block ∉ S' ∧ w'.cell? p = some x) : Mapps (veil S' w') B v xs := by
  obtain ⟨A, c, hv, h1, h2, h3, h4⟩ := h
  refine ⟨A, c, hv, h1, h2, h3, fun i x hi => ?_⟩
  obtain ⟨ad, sv, e, hb, c0, c1, hI⟩ := h4 i x hi
  have go : ∀ p y, p.block < B → (veil S w).cell? p = some y → (veil S' w').cell? p = some y := fun p y hp hy => by
    obtain ⟨g1, g2⟩ := hk p y hp (unveil_at hy) (veil_cell hy)
    rw [cell_veil g1]; exact g2
  exact ⟨ad, sv, e, hb, go _ _ (by rw [block_of_add]; exact hb) c0, go _ _ (by rw [block_of_add]; exact hb) c1, hI.reveil hk⟩
/-- What keeps a row of mappings: nothing but blocks of S may change. -/
theorem grown_reveil {S : List Nat} {X w' : World} {v v' : Value} (q : X.grownBy w' v.ownBlock) (r : ∀ g, v'.ownBlock = some g → v.ownBlock = some g ∨ g = X.heap.size) :
    ∀ (p : Addr) (x : Value), p.block < X.heap.size → p.block ∉ S ++ v.ownBlock.toList → X.cell? p = some x → p.block ∉ S ++ v'.ownBlock.toList ∧ w'.cell? p = some x := by
  intro pp xx hpb hpn hpc
  refine ⟨?_, ?_⟩
  · intro hx
    rcases List.mem_append.1 hx with hx | hx
    · exact hpn (List.mem_append_left _ hx)
    · rw [Option.mem_toList] at hx
      rcases r _ hx with e | e
      · exact hpn (List.mem_append_right _ (by rw [Option.mem_toList]; exact e))
      · omega
  · have e := q.block pp.block hpb (fun e => hpn (List.mem_append_right _ (by rw [Option.mem_toList]; exact e.symm)))
    unfold World.cell? at hpc ⊢
    rw [e]; exact hpc
theorem onlyIn_reveil {S S1 : List Nat} {X w' : World} (h : onlyIn S X w') (hS : ∀ x ∈ S, x ∈ S1) :
    ∀ (p : Addr) (x : Value), p.block < X.heap.size → p.block ∉ S1 → X.cell? p = some x → p.block ∉ S1 ∧ w'.cell? p = some x := by
  intro pp xx hpb hpn hpc
  refine ⟨hpn, ?_⟩
  have e := h.2.2.2.2 pp.block (fun hx => hpn (hS _ hx)) hpb
  unfold World.cell? at hpc ⊢
  rw [e]; exact hpc

/-- The cells of mappings. -/
def mpCells (ps : List (Int × Value)) : List Value := ps.flatMap fun p => [.int .i64 p.1, p.2]
theorem mpCells_snoc (ps : List (Int × Value)) (p : Int × Value) : mpCells (ps ++ [p]) = mpCells ps ++ [.int .i64 p.1, p.2] := by simp [mpCells]
theorem mpCells_at {ps : List (Int × Value)} {i : Nat} {p : Int × Value} (h : ps[i]? = some p) : (mpCells ps)[i * 2]? = some (.int .i64 p.1) ∧ (mpCells ps)[i * 2 + 1]? = some p.2 := by
  induction ps generalizing i with
  | nil => simp at h
  | cons a r ih =>
    cases i with
    | zero => simp at h; subst h; exact ⟨rfl, rfl⟩
    | succ j =>
      obtain ⟨a0, a1⟩ := ih (i := j) (by simpa using h)
      have e : mpCells (a :: r) = [.int .i64 a.1, a.2] ++ mpCells r := by simp [mpCells]
      rw [e]
      refine ⟨?_, ?_⟩
      · rw [List.getElem?_append_right (by simp; omega)]; simpa [show (j + 1) * 2 - 2 = j * 2 by omega] using a0
      · rw [List.getElem?_append_right (by simp; omega)]; simpa [show (j + 1) * 2 + 1 - 2 = j * 2 + 1 by omega] using a1

/-- An own row of mappings: its sequences lie in blocks that neither the list S nor the row itself touches. -/
def OwnM (S : List Nat) (w : World) (base : Nat) (v : Value) (D : List Mp) : Prop :=
  ∃ ps : List (Int × Value), ps.map (·.1) = D.map (·.1) ∧ ps.length = D.length ∧ w.ownsRow base 49 2 v ps.length (mpCells ps) ∧
    ∀ (i : Nat) (p : Int × Value) (d : Mp), ps[i]? = some p → D[i]? = some d → Ints (veil (S ++ v.ownBlock.toList) w) w.heap.size .i64 p.2 d.2
theorem OwnM.nil (S : List Nat) (w : World) (base : Nat) : OwnM S w base (.slice none 0 0) [] :=
  ⟨[], rfl, rfl, World.ownsRow_nil _ _ _ _, fun i p d h => by simp at h⟩

theorem step_app_blk {P : Program} {ops : Array Oper} {o : Oper} {a : Act} {X : World} {K : Act → World → Prop} {Q : Exit → Act → World → Prop} {E : Prop} {T e : TypeId} {i0 : TypeInfo} (hgd : o.guard = none) (s x : Operand)
    (ho : o.op = .call { callee := .builtin .append, args := #[s, x], argTypes := #[T, T] }) (ht : P.underlying T = some (.slice e)) (hi : P.info? e = some i0) (z : Value) (size bytes : Nat) (hz : i0.zero = some z) (h1 : i0.size = size) (h2 : i0.bytes = bytes) (hzs : z.cells.size = size) (hsz : 0 < size) (hby : bytes ≤ 1000)
    (base : Nat) (v : Value) (n : Nat) (xs : List Value) (k : Nat) (news : Array Value) (hs : a.eval s = v) (hx : a.eval x = .slice (some ⟨k, 0, none⟩) 1 1) (hown : X.ownsRow base e size v n xs) (hk : Blk X k e news) (hl : news.toList.length = 1 * size) (hone : ∀ u ∈ news.toList, u.oneCell' = true) (hn : n ≤ 1000000) (hb : base ≤ X.heap.size)
    (h : ∀ v' w', w'.ownsRow base e size v' (n + 1) (xs ++ news.toList) → X.grownBy w' v.ownBlock → (∀ g, v'.ownBlock = some g → v.ownBlock = some g ∨ g = X.heap.size) → (∃ A m c, v' = .slice A m c) → K (a.put o.dst v') w') :
    if Region.wanted o (yielded ops a.tmps) = true then Oper.wp P o a X K Q else E := by
  refine step_append_lies _ hgd s x T ho base e i0 z size bytes ht hi hz h1 h2 hzs hsz v n xs hs hown ⟨k, 0, none⟩ 1 1 news.toList hx hl (World.news_of_block (cs := news) hk) hone (by omega) (by unfold maxLen; omega) ?_ hb X.heap.size rfl ?_
  · calc (n + 1) * bytes ≤ 1000001 * 1000 := Nat.mul_le_mul (by omega) hby
      _ ≤ _ := by decide
  · intro g cap w' p q r _
    refine h _ w' p q (fun g' hg' => ?_) ⟨_, _, _, rfl⟩
    simp only [Value.ownBlock, Option.some.injEq] at hg'
    subst hg'; exact r

theorem OwnM.kept {S : List Nat} {w w' : World} {base : Nat} {v : Value} {D : List Mp} (h : OwnM S w base v D) (hw : onlyIn S w w') (hv : ∀ g, v.ownBlock = some g → g ∉ S) : OwnM S w' base v D := by
  obtain ⟨ps, hm, hlen, hown, hr⟩ := h
  refine ⟨ps, hm, hlen, ?_, fun i p d hp hd => Ints.more ((hr i p d hp hd).reveil (onlyIn_reveil hw fun x hx => List.mem_append_left _ hx)) hw.2.2.2.1⟩
  refine ⟨hown.1, ?_⟩
  rcases hown.2 with hn | ⟨g, cap, cur, rfl, hb, hg, hrest⟩
  · exact .inl hn
  · exact .inr ⟨g, cap, cur, rfl, hb, (hw.2.2.2.2 g (hv g rfl) (Array.getElem?_eq_some_iff.1 hg).1).trans hg, hrest⟩

theorem OwnM.mapps {S : List Nat} {w : World} {base : Nat} {v : Value} {D : List Mp} (h : OwnM S w base v D) (hS : ∀ x ∈ S, x < base) : Mapps (veil S w) (veil S w).heap.size v D := by
  obtain ⟨ps, hm, hlen, hown, hr⟩ := h
  rcases hown.2 with ⟨rfl, hn⟩ | ⟨g, cap, cur, rfl, hb, hg, hnc, hcm, _⟩
  · have : D = [] := List.eq_nil_of_length_eq_zero (by omega)
    subst this
    exact ⟨none, 0, rfl, Nat.le_refl _, Nat.zero_le _, fun _ => rfl, fun _ _ h => by simp at h⟩
  · have hlt : g < w.heap.size := (Array.getElem?_eq_some_iff.1 hg).1
    refine ⟨some ⟨g, 0, none⟩, cap, by rw [hlen], by omega, hcm, (by intro h; cases h), fun i d hd => ?_⟩
    obtain ⟨p, hp⟩ : ∃ p, ps[i]? = some p := by
      have := (List.getElem?_eq_some_iff.1 hd).1
      exact ⟨_, List.getElem?_eq_getElem (by omega)⟩
    obtain ⟨a0, a1⟩ := mpCells_at hp
    have e1 : p.1 = d.1 := by
      have h1 : (ps.map (·.1))[i]? = (D.map (·.1))[i]? := by rw [hm]
      rw [List.getElem?_map, List.getElem?_map, hp, hd] at h1
      simpa using h1
    have hgS : g ∉ S := fun hx => by have := hS g hx; omega
    have hi := hr i p d hp hd
    refine ⟨⟨g, 0, none⟩, p.2, rfl, by rw [veil_size]; exact hlt, ?_, ?_, ?_⟩
    · rw [cell_veil (by rw [block_of_add]; exact hgS), ← e1]; exact hown.cells (g := g) rfl _ _ a0
    · rw [cell_veil (by rw [block_of_add]; exact hgS)]; exact hown.cells (g := g) rfl _ _ a1
    · rw [veil_size]
      exact hi.reveil fun q x _ hq hx => ⟨fun h => hq (List.mem_append_left _ h), hx⟩

theorem step_app_map {P : Program} {ops : Array Oper} {o : Oper} {a : Act} {X : World} {K : Act → World → Prop} {Q : Exit → Act → World → Prop} {E : Prop} {T : TypeId} {i0 : TypeInfo} (hgd : o.guard = none) (s x : Operand)
    (ho : o.op = .call { callee := .builtin .append, args := #[s, x], argTypes := #[T, T] }) (ht : P.underlying T = some (.slice 49)) (hi : P.info? 49 = some i0) (z : Value) (hz : i0.zero = some z) (h1 : i0.size = 2) (h2 : i0.bytes = 32) (hzs : z.cells.size = 2)
    (S : List Nat) (base : Nat) (v : Value) (D : List Mp) (k : Nat) (c : Int) (sv : Value) (l : List Int) (hs : a.eval s = v) (hx : a.eval x = .slice (some ⟨k, 0, none⟩) 1 1) (hown : OwnM S X base v D) (hk : Blk X k 49 #[.int .i64 c, sv]) (hsv : Ints (veil (S ++ v.ownBlock.toList) X) X.heap.size .i64 sv l)
    (hn : D.length ≤ 1000000) (hb : base ≤ X.heap.size)
    (h : ∀ v' w', OwnM S w' base v' (D ++ [(c, l)]) → X.grownBy w' v.ownBlock → (∀ g, v'.ownBlock = some g → v.ownBlock = some g ∨ g = X.heap.size) → (∃ A m c, v' = .slice A m c) → K (a.put o.dst v') w') :
    if Region.wanted o (yielded ops a.tmps) = true then Oper.wp P o a X K Q else E := by
  obtain ⟨ps, hm, hlen, ho', hr⟩ := hown
  refine step_app_blk hgd s x ho ht hi z 2 32 hz h1 h2 hzs (by omega) (by omega) base v ps.length (mpCells ps) k #[.int .i64 c, sv] hs hx ho' hk rfl ?_ (by omega) hb ?_
  · intro u hu
    obtain ⟨A, cc, e, _⟩ := hsv
    simp at hu
    rcases hu with rfl | rfl
    · rfl
    · rw [e]; rfl
  · intro v' w' p q r sl
    refine h v' w' ⟨ps ++ [(c, sv)], by simp [hm], by simp [hlen], by rw [mpCells_snoc]; simpa using p, ?_⟩ q r sl
    have key : ∀ sv l, Ints (veil (S ++ v.ownBlock.toList) X) X.heap.size .i64 sv l → Ints (veil (S ++ v'.ownBlock.toList) w') w'.heap.size .i64 sv l := by
      intro sv l hI
      refine Ints.more (hI.reveil fun pp xx hpb hpn hpc => ⟨?_, ?_⟩) q.size
      · intro hx
        rcases List.mem_append.1 hx with hx | hx
        · exact hpn (List.mem_append_left _ hx)
        · rw [Option.mem_toList] at hx
          rcases r _ hx with e | e
          · exact hpn (List.mem_append_right _ (by rw [Option.mem_toList]; exact e))
          · omega
      · have e := q.block pp.block hpb (fun e => hpn (List.mem_append_right _ (by rw [Option.mem_toList]; exact e.symm)))
        unfold World.cell? at hpc ⊢
        rw [e]; exact hpc
    intro i p d hp hd
    by_cases hil : i < ps.length
    · rw [List.getElem?_append_left hil] at hp
      rw [List.getElem?_append_left (by omega)] at hd
      exact key _ _ (hr i p d hp hd)
    · have hi2 : i = ps.length := by
        have := (List.getElem?_eq_some_iff.1 hp).1
        simp at this; omega
      subst hi2
      rw [List.getElem?_append_right (Nat.le_refl _)] at hp
      rw [List.getElem?_append_right (by omega), hlen] at hd
      simp at hp hd
      subst hp; subst hd
      exact key _ _ hsv
end Go.Proofs.YtneinkpfhkojgaaGreatDoor
/-
  The walks through keep.pool, keep.point and keep.Points.
-/
namespace Go.Proofs.YtneinkpfhkojgaaGreatDoor
open Go.RowKit ND

def poolL : List Int := [0xad, 0xb7, 0x301, 0x308, 0x323, 0x345, 0x375, 0x3b1, 0x3b2, 0x3b3, 0x430, 0x5d0, 0x5f3, 0x628, 0x629, 0x660, 0x6f0, 0x94d, 0x1e00, 0x1e01, 0x1e02, 0x1e03, 0x1e04, 0x200c, 0x200d, 0x30fb, 0x4e00, 0x1f600]
theorem pool_scal : ∀ c ∈ poolL, scalarB c = true := by decide

set_option maxRecDepth 100000 in
set_option maxHeartbeats 400000 in
theorem pool_any (w : World) : Calls Tryz.prog 13 #[] w fun e w' => e = .returned (.slice (some ⟨w.heap.size, 0, none⟩) 28 28) ∧ w' = w.alloc (.cells (poolL.map (Value.int .i64)).toArray 3) := by
  go_enter Tryz.func13, Tryz.ntmps13
  go_wp2_with fail
  go_ret
  exact ⟨rfl, rfl⟩

theorem Src.lt {w : World} {g : Nat} {v : Value} {n : Nat} (h : Src w g v n) : g < w.heap.size := by
  obtain ⟨i, _, hb⟩ := h; exact hb.lt
theorem Src.alloc {w : World} {g : Nat} {v : Value} {n : Nat} (h : Src w g v n) (o : Obj) : Src (w.alloc o) g v n := by
  obtain ⟨i, hi, hb⟩ := h; exact ⟨i, hi, hb.alloc o⟩
theorem Src.grown {w w' : World} {g : Nat} {v : Value} {n : Nat} {row : Option Nat} (h : Src w g v n) (hg : w.grownBy w' row) (hr : some g ≠ row) : Src w' g v n := by
  obtain ⟨i, hi, hb⟩ := h; exact ⟨i, hi, hb.grown hg hr⟩

def RetPoint (w : World) (g : Nat) (v : Value) (n : Nat) (e : Ending) (w' : World) : Prop :=
  ∃ r : Int, e = .returned (.int .i64 r) ∧ scalarB r = true ∧ Src w' g v n ∧ w.grownBy w' (some g)


set_option maxRecDepth 100000 in
set_option maxHeartbeats 1000000 in
theorem point_src (w : World) (g : Nat) (v : Value) (xs : List Int) (hv : Ints w g .i64 v xs) (hs : Src w g v xs.length) :
    Calls Tryz.prog 27 #[.pointer (some ⟨g, 0, none⟩)] w (RetPoint w g v xs.length) := by
  have hlt := hs.lt
  go_enter Tryz.func27, Tryz.ntmps27
  go_wp2_with fail
  refine (pool_any _).mono ?_
  rintro e w1 ⟨rfl, rfl⟩
  have hs1 := hs.alloc (.cells (poolL.map (Value.int .i64)).toArray 3)
  have hg1 := grown_alloc w (.cells (poolL.map (Value.int .i64)).toArray 3) (some g)
  have hv1 := hv.grown hg1 hlt
  have hcells := cells_new w (poolL.map (Value.int .i64)) 3
  have hlt1 := hs1.lt
  have hsz : w.heap.size < (w.alloc (.cells (poolL.map (Value.int .i64)).toArray 3)).heap.size := by simp
  generalize w.alloc (.cells (poolL.map (Value.int .i64)).toArray 3) = w1 at *
  go_wp2_with fail
  refine (next_src w1 g v xs 8 hv1 hs1 (by decide) (by decide)).mono ?_
  rintro e w2 ⟨r, rfl, hr0, hr1, hs2, hg2⟩
  have hv2 := hv1.grown hg2 hlt1
  have hG2 := grown_trans hg1 hg2
  have hc2 : r = 0 ∨ r = 1 ∨ r = 2 ∨ r = 3 ∨ r = 4 ∨ (5 ≤ r ∧ (r == 0) = false ∧ (r == 1) = false ∧ (r == 2) = false ∧ (r == 3) = false ∧ (r == 4) = false) := by
    have : r = 0 ∨ r = 1 ∨ r = 2 ∨ r = 3 ∨ r = 4 ∨ 5 ≤ r := by omega
    rcases this with h | h | h | h | h | h
    · exact .inl h
    · exact .inr (.inl h)
    · exact .inr (.inr (.inl h))
    · exact .inr (.inr (.inr (.inl h)))
    · exact .inr (.inr (.inr (.inr (.inl h))))
    · exact .inr (.inr (.inr (.inr (.inr ⟨h, beq_eq_false_iff_ne.2 (by omega), beq_eq_false_iff_ne.2 (by omega), beq_eq_false_iff_ne.2 (by omega), beq_eq_false_iff_ne.2 (by omega), beq_eq_false_iff_ne.2 (by omega)⟩))))
  rcases hc2 with rfl | rfl | rfl | rfl | rfl | ⟨h5, q0, q1, q2, q3, q4⟩
  · go_wp2_with fail
    refine (next_src w2 g v xs 12 hv2 hs2 (by decide) (by decide)).mono ?_
    rintro e w3 ⟨s, rfl, hs0, hs1', hs3, hg3⟩
    have hG3 := grown_trans hG2 hg3
    have h12 : s = 0 ∨ s = 1 ∨ s = 2 ∨ s = 3 ∨ s = 4 ∨ s = 5 ∨ s = 6 ∨ s = 7 ∨ s = 8 ∨ s = 9 ∨ s = 10 ∨ s = 11 := by omega
    clear hs0 hs1' hg3 hv2 hs2 hG2 hv1 hs1 hg1 hv hs hcells
    rcases h12 with rfl | rfl | rfl | rfl | rfl | rfl | rfl | rfl | rfl | rfl | rfl | rfl
    all_goals
      go_wp2_with fail
      go_ret
      exact ⟨_, rfl, by first | decide +kernel | kernel_rfl | rfl, hs3, hG3⟩
  · go_wp2_with fail
    refine (next_src w2 g v xs 12 hv2 hs2 (by decide) (by decide)).mono ?_
    rintro e w3 ⟨s, rfl, hs0, hs1', hs3, hg3⟩
    have hG3 := grown_trans hG2 hg3
    have h12 : s = 0 ∨ s = 1 ∨ s = 2 ∨ s = 3 ∨ s = 4 ∨ s = 5 ∨ s = 6 ∨ s = 7 ∨ s = 8 ∨ s = 9 ∨ s = 10 ∨ s = 11 := by omega
    clear hs0 hs1' hg3 hv2 hs2 hG2 hv1 hs1 hg1 hv hs hcells
    rcases h12 with rfl | rfl | rfl | rfl | rfl | rfl | rfl | rfl | rfl | rfl | rfl | rfl
    all_goals
      go_wp2_with fail
      go_ret
      exact ⟨_, rfl, by first | decide +kernel | kernel_rfl | rfl, hs3, hG3⟩
  · go_wp2_with fail
    refine (next_src w2 g v xs 12 hv2 hs2 (by decide) (by decide)).mono ?_
    rintro e w3 ⟨s, rfl, hs0, hs1', hs3, hg3⟩
    have hG3 := grown_trans hG2 hg3
    have h12 : s = 0 ∨ s = 1 ∨ s = 2 ∨ s = 3 ∨ s = 4 ∨ s = 5 ∨ s = 6 ∨ s = 7 ∨ s = 8 ∨ s = 9 ∨ s = 10 ∨ s = 11 := by omega
    clear hs0 hs1' hg3 hv2 hs2 hG2 hv1 hs1 hg1 hv hs hcells
    rcases h12 with rfl | rfl | rfl | rfl | rfl | rfl | rfl | rfl | rfl | rfl | rfl | rfl
    all_goals
      go_wp2_with fail
      go_ret
      exact ⟨_, rfl, by first | decide +kernel | kernel_rfl | rfl, hs3, hG3⟩
  · go_wp2_with fail
    refine (next_src w2 g v xs 60 hv2 hs2 (by decide) (by decide)).mono ?_
    rintro e w3 ⟨s, rfl, hs0, hs1', hs3, hg3⟩
    have hG3 := grown_trans hG2 hg3
    go_wp2_with fail
    go_ret
    exact ⟨_, rfl, (scalarB_iff _).2 (by omega), hs3, hG3⟩
  · go_wp2_with fail
    have hg' := grown_alloc w2 (.cells #[.int .i64 4352, .int .i64 4449, .int .i64 4520, .int .i64 46] 3) (some g)
    refine (next_src _ g v xs 4 (hv2.grown hg' hs2.lt) (hs2.alloc _) (by decide) (by decide)).mono ?_
    rintro e w3 ⟨s, rfl, hs0, hs1', hs3, hg3⟩
    have hG3 := grown_trans hG2 (grown_trans hg' hg3)
    have hk := cell_kept w2.heap.size (cells_new w2 [.int .i64 4352, .int .i64 4449, .int .i64 4520, .int .i64 46] 3) hg3 (by simp) (by have := hs2.lt; omega)
    have k0 := hk 0 _ rfl
    have k1 := hk 1 _ rfl
    have k2 := hk 2 _ rfl
    have k3 := hk 3 _ rfl
    clear hk hg' hg3
    have h4 : s = 0 ∨ s = 1 ∨ s = 2 ∨ s = 3 := by omega
    clear hs0 hs1'
    rcases h4 with rfl | rfl | rfl | rfl
    all_goals
      go_wp2_with fail
      go_ret
      exact ⟨_, rfl, by decide, hs3, hG3⟩
  · go_wp2_with fail
    refine (next_src w2 g v xs 28 hv2 hs2 (by decide) (by decide)).mono ?_
    rintro e w3 ⟨s, rfl, hs0, hs1', hs3, hg3⟩
    have hG3 := grown_trans hG2 hg3
    have hk := cell_kept w.heap.size hcells (grown_trans hg2 hg3) hsz (by omega)
    obtain ⟨m, rfl⟩ := Int.eq_ofNat_of_zero_le hs0
    have hm : m < 28 := by omega
    obtain ⟨x, hx, hxm⟩ := get_of (xs := poolL) (k := m) hm
    have k0 := hk m (.int .i64 x) (by rw [List.getElem?_map, hx]; rfl)
    have hsx := Lib.hid (pool_scal x hxm)
    clear hk hx hxm hcells hg3
    go_wp2_with fail
    go_ret
    exact ⟨_, rfl, hsx.out, hs3, hG3⟩
end Go.Proofs.YtneinkpfhkojgaaGreatDoor
/-
  Plain mathematics of the tables that keep.Tables makes: they are well-formed. No program in sight.
-/
namespace ND
open Go

def poolL : List Int := [0xad, 0xb7, 0x301, 0x308, 0x323, 0x345, 0x375, 0x3b1, 0x3b2, 0x3b3, 0x430, 0x5d0, 0x5f3, 0x628, 0x629, 0x660, 0x6f0, 0x94d, 0x1e00, 0x1e01, 0x1e02, 0x1e03, 0x1e04, 0x200c, 0x200d, 0x30fb, 0x4e00, 0x1f600]
theorem pool_sort : poolL.Pairwise (· < ·) := by decide
theorem pool_in : ∀ c ∈ poolL, 128 ≤ c ∧ c ≤ 1114111 ∧ resB c = false ∧ scalarB c = true := by decide

/-- A column after k code points of the pool. -/
def colN (k : Nat) (lo hi : Int) (L : List Sp) : Prop := (L.map (·.1)).Sublist (poolL.take k) ∧ ∀ s ∈ L, s.2.1 = s.1 ∧ lo ≤ s.2.2 ∧ s.2.2 ≤ hi
theorem colN_nil (k : Nat) (lo hi : Int) : colN k lo hi [] := ⟨List.nil_sublist _, by simp⟩
theorem colN_skip {k : Nat} {lo hi : Int} {L : List Sp} (h : colN k lo hi L) : colN (k + 1) lo hi L :=
  ⟨h.1.trans (List.take_sublist_take_left (by omega)), h.2⟩
theorem take_snoc_get {α : Type} {l : List α} {k : Nat} {c : α} (h : l[k]? = some c) : l.take (k + 1) = l.take k ++ [c] := by
  rw [List.take_add_one, h]; rfl
theorem colN_add {k : Nat} {lo hi c v : Int} {L : List Sp} (h : colN k lo hi L) (hc : poolL[k]? = some c) (h1 : lo ≤ v) (h2 : v ≤ hi) : colN (k + 1) lo hi (L ++ [(c, c, v)]) := by
  refine ⟨?_, ?_⟩
  · rw [take_snoc_get hc, List.map_append]
    exact h.1.append (List.Sublist.refl _)
  · intro s hs
    rcases List.mem_append.1 hs with hs | hs
    · exact h.2 s hs
    · rw [List.mem_singleton] at hs; subst hs; exact ⟨rfl, h1, h2⟩
theorem colN_mem {k : Nat} {lo hi : Int} {L : List Sp} (h : colN k lo hi L) {s : Sp} (hs : s ∈ L) : s.1 ∈ poolL :=
  List.mem_of_mem_take (h.1.subset (List.mem_map_of_mem hs))
theorem colN_len {k : Nat} {lo hi : Int} {L : List Sp} (h : colN k lo hi L) : L.length ≤ 28 := by
  have h1 := h.1.length_le
  rw [List.length_map, List.length_take] at h1
  have : poolL.length = 28 := rfl
  omega
theorem okS_points {L : List Sp} : ∀ {last : Int}, (L.map (·.1)).Pairwise (· < ·) → (∀ s ∈ L, s.2.1 = s.1 ∧ last < s.1 ∧ 0 ≤ s.1 ∧ s.1 ≤ 1114111) → okS 0 1114111 last L = true := by
  induction L with
  | nil => intro last _ _; rfl
  | cons s r ih =>
    intro last hp h
    rw [List.map_cons, List.pairwise_cons] at hp
    have hs := h s List.mem_cons_self
    rw [okS_cons]
    refine ⟨by omega, ih hp.2 fun x hx => ?_⟩
    have h1 := h x (List.mem_cons_of_mem _ hx)
    have h2 := hp.1 x.1 (List.mem_map_of_mem hx)
    omega
theorem colN_ok {k : Nat} {lo hi : Int} {L : List Sp} (h : colN k lo hi L) : okS 0 1114111 (-1) L = true := by
  refine okS_points ((pool_sort.sublist (List.take_sublist _ _)).sublist h.1) fun s hs => ?_
  have := pool_in s.1 (colN_mem h hs)
  have := h.2 s hs
  omega
theorem colN_col {k : Nat} {lo hi : Int} {L : List Sp} (h : colN k lo hi L) : colOk L = true := by
  unfold colOk checkS
  have h2 := colN_len h
  rw [colN_ok h, Bool.true_and, Bool.and_eq_true, decide_eq_true_eq, List.all_eq_true]
  refine ⟨by omega, fun s hs => ?_⟩
  rw [(h.2 s hs).1]
  exact outB_one (pool_in s.1 (colN_mem h hs)).2.2.1
theorem colN_vals {k : Nat} {lo hi a b : Int} {L : List Sp} (h : colN k lo hi L) (ha : a ≤ lo) (hb : hi ≤ b) : valsOk (L, a, b) = true := by
  unfold valsOk
  rw [List.all_eq_true]
  intro s hs
  have := h.2 s hs
  rw [decide_eq_true_eq]; simp only; omega
theorem colN_zero {k : Nat} {lo hi c : Int} {L : List Sp} (h : colN k lo hi L) (hc : c ∉ poolL) : valueL L c = 0 :=
  value_out fun s hs ⟨h1, h2⟩ => by
    have := h.2 s hs
    obtain rfl : c = s.1 := by omega
    exact hc (colN_mem h hs)
theorem colN_at {k : Nat} {lo hi : Int} {L : List Sp} (h : colN k lo hi L) {s : Sp} (hs : s ∈ L) : valueL L s.1 = s.2.2 := by
  have hp := (pool_sort.sublist (List.take_sublist k _)).sublist h.1
  have h2 := fun x hx => (h.2 x hx).1
  clear h
  induction L with
  | nil => cases hs
  | cons a r ih =>
    rw [List.map_cons, List.pairwise_cons] at hp
    rw [valueL]
    rcases List.mem_cons.1 hs with rfl | hs
    · rw [if_pos ⟨Int.le_refl _, by rw [h2 s List.mem_cons_self]; exact Int.le_refl _⟩]
    · have h3 := hp.1 s.1 (List.mem_map_of_mem hs)
      have h4 := h2 a List.mem_cons_self
      rw [if_neg (by omega)]
      exact ih hs hp.2 fun x hx => h2 x (List.mem_cons_of_mem _ hx)

/-- The decompositions and the exclusions after k rounds. -/
structure DecN (k : Nat) (D : List Mp) (X : List Int) : Prop where
  keys : (keysOf D).Pairwise (· < ·)
  rng : ∀ m ∈ D, 7680 ≤ m.1 ∧ m.1 < 7680 + k
  form : ∀ m ∈ D, ∃ a r, m.2 = a :: r ∧ (a = 97 ∨ a = 98 ∨ 7680 ≤ a ∧ a < m.1) ∧ (r = [] ∨ ∃ b, r = [b] ∧ (b = 769 ∨ b = 776 ∨ b = 803 ∨ b = 837 ∨ b = 945))
  exs : X.Pairwise (· < ·)
  exk : ∀ c ∈ X, c ∈ keysOf D
  uni : D.Pairwise (fun a b => a.2 = b.2 → b.1 ∈ X)
theorem DecN.nil (k : Nat) : DecN k [] [] := ⟨.nil, by simp, by simp, .nil, by simp, .nil⟩
theorem DecN.skip {k : Nat} {D : List Mp} {X : List Int} (h : DecN k D X) : DecN (k + 1) D X :=
  ⟨h.keys, fun m hm => by have := h.rng m hm; omega, h.form, h.exs, h.exk, h.uni⟩
theorem pw_snoc {α : Type} {R : α → α → Prop} {l : List α} {x : α} (h : l.Pairwise R) (hx : ∀ a ∈ l, R a x) : (l ++ [x]).Pairwise R :=
  List.pairwise_append.2 ⟨h, List.pairwise_singleton _ _, fun a ha b hb => by rw [List.mem_singleton] at hb; subst hb; exact hx a ha⟩
/-- One decomposition more; t: whether it is excluded. -/
theorem DecN.add {k : Nat} {D : List Mp} {X : List Int} (h : DecN k D X) {l : List Int} (t : Bool) (hl : ∃ a r, l = a :: r ∧ (a = 97 ∨ a = 98 ∨ 7680 ≤ a ∧ a < 7680 + k) ∧ (r = [] ∨ ∃ b, r = [b] ∧ (b = 769 ∨ b = 776 ∨ b = 803 ∨ b = 837 ∨ b = 945)))
    (ht : t = false → ∀ d ∈ D, d.2 ≠ l) : DecN (k + 1) (D ++ [(7680 + (k : Int), l)]) (if t then X ++ [7680 + (k : Int)] else X) := by
  have hk : keysOf (D ++ [(7680 + (k : Int), l)]) = keysOf D ++ [7680 + (k : Int)] := by simp [keysOf]
  have hlt : ∀ c ∈ keysOf D, c < 7680 + (k : Int) := by
    intro c hc
    obtain ⟨m, hm, rfl⟩ := List.mem_map.1 hc
    exact (h.rng m hm).2
  refine ⟨by rw [hk]; exact pw_snoc h.keys hlt, ?_, ?_, ?_, ?_, ?_⟩
  · intro m hm
    rcases List.mem_append.1 hm with hm | hm
    · have := h.rng m hm; omega
    · rw [List.mem_singleton] at hm; subst hm; simp only; omega
  · intro m hm
    rcases List.mem_append.1 hm with hm | hm
    · exact h.form m hm
    · rw [List.mem_singleton] at hm; subst hm; exact hl
  · cases t
    · exact h.exs
    · exact pw_snoc h.exs fun c hc => hlt c (h.exk c hc)
  · rw [hk]
    intro c hc
    cases t
    · exact List.mem_append_left _ (h.exk c hc)
    · rcases List.mem_append.1 hc with hc | hc
      · exact List.mem_append_left _ (h.exk c hc)
      · exact List.mem_append_right _ hc
  · have hmono : ∀ c ∈ X, c ∈ (if t then X ++ [7680 + (k : Int)] else X) := by
      intro c hc; cases t
      · exact hc
      · exact List.mem_append_left _ hc
    refine pw_snoc (h.uni.imp fun hab e => hmono _ (hab e)) fun d hd e => ?_
    cases t
    · exact absurd e (ht rfl d hd)
    · exact List.mem_append_right _ (List.mem_singleton.2 rfl)

section
variable {D : List Mp} {X : List Int}
theorem DecN.key_none (h : DecN 5 D X) {c : Int} (hc : c < 7680 ∨ 7684 < c) : findL D c = [] :=
  findL_no fun _ a hi e => by have := h.rng a (List.mem_of_getElem? hi); omega
theorem find_key {D : List Mp} (hp : (keysOf D).Pairwise (· < ·)) {m : Mp} (hm : m ∈ D) : findL D m.1 = m.2 := by
  induction D with
  | nil => cases hm
  | cons a r ih =>
    unfold keysOf at hp
    rw [List.map_cons, List.pairwise_cons] at hp
    rw [findL]
    rcases List.mem_cons.1 hm with rfl | hm
    · rw [if_pos rfl]
    · have := hp.1 m.1 (List.mem_map_of_mem hm)
      rw [if_neg (by omega)]
      exact ih hp.2 hm
theorem DecN.size (h : DecN 5 D X) : ∀ (n : Nat) (c : Int), c < 7680 + n ∨ findL D c = [] → fin D n c = true ∧ (expF D n c).length ≤ n + 1 := by
  intro n
  induction n with
  | zero =>
    intro c hc
    have : findL D c = [] := by
      rcases hc with hc | hc
      · exact h.key_none (by omega)
      · exact hc
    exact ⟨fin_none this _, by rw [expF_none this]; simp⟩
  | succ n ih =>
    intro c hc
    by_cases hn : findL D c = []
    · exact ⟨fin_none hn _, by rw [expF_none hn]; simp⟩
    · have hc' : c < 7680 + ((n + 1 : Nat) : Int) := by
        rcases hc with hc | hc
        · exact hc
        · exact absurd hc hn
      have hm := findL_mem hn
      obtain ⟨a, r, he, ha, hr⟩ := h.form _ hm
      simp only at he ha
      have h1 : fin D n a = true ∧ (expF D n a).length ≤ n + 1 := by
        rcases ha with rfl | rfl | ha
        · exact ih _ (.inl (by omega))
        · exact ih _ (.inl (by omega))
        · exact ih _ (.inl (by omega))
      rw [fin_succ hn, expF_some hn, he, List.flatMap_cons, List.length_append, List.all_cons, h1.1, Bool.true_and]
      rcases hr with rfl | ⟨b, rfl, hb⟩
      · simp; omega
      · have hb' : findL D b = [] := h.key_none (by omega)
        simp [fin_none hb', expF_none hb']
        omega
end

def protoL : List Mp := [(48, [111]), (109, [114, 110]), (945, [97]), (1072, [97]), (1632, [111, 803])]
/-- The mappings and the statuses after k code points of the pool. -/
structure MapN (k : Nat) (S : List Sp) (M : List Mp) : Prop where
  col : colN k 1 4 S
  same : (S.filter (fun s => s.2.2 = 3)).map (·.1) = keysOf M
  form : ∀ m ∈ M, ∃ a, (a = 97 ∨ a = 98 ∨ a = 99) ∧ (m.2 = [a] ∨ m.2 = [a, 46])
theorem MapN.nil (k : Nat) : MapN k [] [] := ⟨colN_nil _ _ _, rfl, by simp⟩
theorem MapN.skip {k : Nat} {S : List Sp} {M : List Mp} (h : MapN k S M) : MapN (k + 1) S M := ⟨colN_skip h.col, h.same, h.form⟩
theorem MapN.plain {k : Nat} {S : List Sp} {M : List Mp} {c v : Int} (h : MapN k S M) (hc : poolL[k]? = some c) (h1 : 1 ≤ v) (h2 : v ≤ 4) (h3 : v ≠ 3) : MapN (k + 1) (S ++ [(c, c, v)]) M :=
  ⟨colN_add h.col hc h1 h2, by rw [List.filter_append, List.map_append, h.same]; simp [h3], h.form⟩
theorem MapN.mapped {k : Nat} {S : List Sp} {M : List Mp} {c : Int} {l : List Int} (h : MapN k S M) (hc : poolL[k]? = some c) (hl : ∃ a, (a = 97 ∨ a = 98 ∨ a = 99) ∧ (l = [a] ∨ l = [a, 46])) : MapN (k + 1) (S ++ [(c, c, 3)]) (M ++ [(c, l)]) := by
  refine ⟨colN_add h.col hc (by omega) (by omega), ?_, ?_⟩
  · rw [List.filter_append, List.map_append, h.same]; simp [keysOf]
  · intro m hm
    rcases List.mem_append.1 hm with hm | hm
    · exact h.form m hm
    · rw [List.mem_singleton] at hm; subst hm; exact hl

/-- What keep.Tables makes. -/
structure Made (T : Tab) : Prop where
  c0 : colN 28 1 8 T.category
  c1 : colN 28 1 254 T.cls
  c2 : colN 28 1 5 T.joining
  c3 : colN 28 1 11 T.bidi
  c4 : colN 28 1 60 T.script
  c6 : colN 28 1 1 T.ignorable
  dec : DecN 5 T.decomps T.excluded
  map : MapN 28 T.status T.maps
  ext : T.extensions = [] ∨ T.extensions = [(12539, [7, 8])]
  pro : T.prototypes.Sublist protoL
  ign : ∀ m ∈ T.prototypes, T.ignB m.1 = false ∧ T.ignB (m.2.getLastD 0) = false

theorem keysB_of {p : Bool} {l : List Int} : ∀ {last : Int}, l.Pairwise (· < ·) → (∀ c ∈ l, last < c ∧ c ≤ 1114111 ∧ (resB c = false ∨ p = true ∧ nameB c = true)) → keysB p last l = true := by
  induction l with
  | nil => intro last _ _; rfl
  | cons a r ih =>
    intro last hp h
    rw [List.pairwise_cons] at hp
    obtain ⟨h1, h2, h3⟩ := h a List.mem_cons_self
    rw [keysB, Bool.and_eq_true]
    refine ⟨?_, ih hp.2 fun c hc => ⟨hp.1 c hc, (h c (List.mem_cons_of_mem _ hc)).2⟩⟩
    unfold keyOk
    simp only [Bool.and_eq_true, decide_eq_true_eq, Bool.or_eq_true, Bool.not_eq_true']
    exact ⟨⟨h1, h2⟩, h3⟩
theorem mapCount_points {S : List Sp} (h : ∀ s ∈ S, s.2.1 = s.1) : mapCount S = ((S.filter (fun s => s.2.2 = 3)).length : Int) := by
  induction S with
  | nil => rfl
  | cons s r ih =>
    have h1 := h s List.mem_cons_self
    rw [mapCount, ih fun x hx => h x (List.mem_cons_of_mem _ hx), List.filter_cons]
    by_cases h3 : s.2.2 = 3
    · rw [if_pos h3, if_pos (by simpa using h3), List.length_cons]; omega
    · rw [if_neg h3, if_neg (by simpa using h3)]; omega

section
variable {T : Tab}
theorem Made.rule1 (h : Made T) : T.rule1 = true := by
  have e1 := colN_len h.c0
  have e2 := colN_len h.c1
  have e3 := colN_len h.c2
  have e4 := colN_len h.c3
  have e5 := colN_len h.c4
  have e6 := colN_len h.map.col
  have e7 := colN_len h.c6
  have d1 : T.decomps.length ≤ 5 := by
    have := List.Nodup.length_le_of_subset (l₁ := keysOf T.decomps) (l₂ := [7680, 7681, 7682, 7683, 7684]) (h.dec.keys.imp fun h => by omega) (fun c hc => by
      obtain ⟨m, hm, rfl⟩ := List.mem_map.1 hc
      have := h.dec.rng m hm
      simp; omega)
    simpa [keysOf] using this
  have d2 : T.excluded.length ≤ 5 := by
    have := List.Nodup.length_le_of_subset (l₁ := T.excluded) (l₂ := [7680, 7681, 7682, 7683, 7684]) (h.dec.exs.imp fun h => by omega) (fun c hc => by
      obtain ⟨m, hm, rfl⟩ := List.mem_map.1 (h.dec.exk c hc)
      have := h.dec.rng m hm
      simp; omega)
    simpa using this
  have d3 : T.maps.length ≤ 28 := by
    have := congrArg List.length h.map.same
    rw [List.length_map] at this
    simp only [keysOf, List.length_map] at this
    have := List.length_filter_le (fun s : Sp => decide (s.2.2 = 3)) T.status
    omega
  have d4 : T.prototypes.length ≤ 5 := h.pro.length_le
  have d5 : T.extensions.length ≤ 1 := by rcases h.ext with h | h <;> rw [h] <;> simp
  unfold Tab.rule1 Tab.cols Tab.mps
  simp only [List.all_cons, List.all_nil, Bool.and_true, Bool.and_eq_true, decide_eq_true_eq]
  omega
theorem Made.keym (h : Made T) : keysB false (-1) (keysOf T.maps) = true := by
  have hs : (keysOf T.maps).Sublist poolL := by
    rw [← h.map.same]
    exact ((List.filter_sublist).map _).trans (h.map.col.1.trans (List.take_sublist _ _))
  exact keysB_of (pool_sort.sublist hs) fun c hc => by
    have := pool_in c (hs.subset hc)
    exact ⟨by omega, this.2.1, .inl this.2.2.1⟩
theorem Made.rule2 (h : Made T) : T.rule2 = true := by
  unfold Tab.rule2 Tab.rule2m Tab.cols
  simp only [List.all_cons, List.all_nil, Bool.and_true, Bool.and_eq_true]
  have hd : ∀ c, 7680 ≤ c → c < 7685 → -1 < c ∧ c ≤ 1114111 ∧ (resB c = false ∨ false = true ∧ nameB c = true) := fun c h1 h2 => ⟨by omega, by omega, .inl (by rw [resB_not]; omega)⟩
  refine ⟨⟨colN_col h.c0, colN_col h.c1, colN_col h.c2, colN_col h.c3, colN_col h.c4, colN_col h.map.col, colN_col h.c6⟩, ⟨?_, h.keym, ?_, ?_⟩, ?_⟩
  · rcases h.ext with h | h <;> rw [h] <;> decide
  · refine keysB_of h.dec.keys fun c hc => ?_
    obtain ⟨m, hm, rfl⟩ := List.mem_map.1 hc
    have := h.dec.rng m hm
    exact hd _ this.1 (by omega)
  · have hp : (keysOf protoL).Pairwise (· < ·) := by decide
    have ha : ∀ c ∈ keysOf protoL, -1 < c ∧ c ≤ 1114111 ∧ (resB c = false ∨ true = true ∧ nameB c = true) := by decide
    have hs : (keysOf T.prototypes).Sublist (keysOf protoL) := h.pro.map _
    exact keysB_of (hp.sublist hs) fun c hc => ha c (hs.subset hc)
  · refine keysB_of h.dec.exs fun c hc => ?_
    obtain ⟨m, hm, rfl⟩ := List.mem_map.1 (h.dec.exk c hc)
    have := h.dec.rng m hm
    exact hd _ this.1 (by omega)
theorem Made.rule3 (h : Made T) : T.rule3 = true := by
  unfold Tab.rule3 Tab.cols
  simp only [List.all_cons, List.all_nil, Bool.and_true, Bool.and_eq_true]
  exact ⟨colN_vals h.c0 (by decide) (by decide), colN_vals h.c1 (by decide) (by decide), colN_vals h.c2 (by decide) (by decide), colN_vals h.c3 (by decide) (by decide), colN_vals h.c4 (by decide) (by decide), colN_vals h.map.col (by decide) (by decide), colN_vals h.c6 (by decide) (by decide)⟩
theorem Made.dform (h : Made T) : ∀ m ∈ T.decomps, m.2 ≠ [] ∧ m.2.length ≤ 2 ∧ ∀ c ∈ m.2, c = 97 ∨ c = 98 ∨ 7680 ≤ c ∧ c ≤ 7684 ∨ c = 769 ∨ c = 776 ∨ c = 803 ∨ c = 837 ∨ c = 945 := by
  intro m hm
  obtain ⟨a, r, he, ha, hr⟩ := h.dec.form m hm
  have := h.dec.rng m hm
  rw [he]
  rcases hr with rfl | ⟨b, rfl, hb⟩
  · refine ⟨by simp, by simp, fun c hc => ?_⟩
    rw [List.mem_singleton] at hc; subst hc; omega
  · refine ⟨by simp, by simp, fun c hc => ?_⟩
    simp only [List.mem_cons, List.not_mem_nil, or_false] at hc
    rcases hc with rfl | rfl <;> omega
theorem Made.rule4 (h : Made T) : T.rule4 = true := by
  unfold Tab.rule4
  simp only [Bool.and_eq_true, List.all_eq_true]
  refine ⟨?_, ?_, ?_, ?_⟩
  · rcases h.ext with h | h <;> rw [h] <;> decide
  · intro m hm
    obtain ⟨a, ha, hl⟩ := h.map.form m hm
    rw [toB_iff]
    rcases hl with hl | hl <;> rw [hl] <;> rcases ha with rfl | rfl | rfl <;> decide
  · intro m hm
    obtain ⟨h1, h2, h3⟩ := h.dform m hm
    rw [toB_iff]
    refine ⟨length_pos_ne h1, by omega, ?_⟩
    simp only [Bool.false_eq_true, if_false, List.all_eq_true, scalarB_iff]
    intro c hc
    have := h3 c hc
    omega
  · intro m hm
    have hp : ∀ m ∈ protoL, toB false m = true := by decide
    exact hp m (h.pro.subset hm)
theorem Made.shape (h : Made T) : Shape T := Shape.of h.rule1 h.rule2
theorem Made.status_pool (h : Made T) {c : Int} (hc : c ∈ poolL) : T.statusOf c = valueL T.status c := by
  unfold Tab.statusOf
  rw [propL_ref (colN_ok h.map.col) (fun s hs => h.shape.c5.2.2 s hs)]
  rw [if_neg]
  rw [(pool_in c hc).2.2.1]
  rintro ⟨h, _⟩; cases h
theorem status_ascii (T : Tab) {c : Int} (hc : c = 97 ∨ c = 98 ∨ c = 99 ∨ c = 46) : T.statusOf c = 1 := by
  rcases hc with rfl | rfl | rfl | rfl <;> rfl
theorem Made.rule5 (h : Made T) : T.rule5 = true := by
  unfold Tab.rule5
  rw [Bool.and_eq_true, decide_eq_true_eq, mapCount_points fun s hs => (h.map.col.2 s hs).1]
  refine ⟨?_, ?_⟩
  · have := congrArg List.length h.map.same
    rw [List.length_map] at this
    simp only [keysOf, List.length_map] at this
    rw [this]
  · rw [List.all_eq_true]
    intro m hm
    unfold Tab.mapOk
    rw [Bool.and_eq_true, decide_eq_true_eq, List.all_eq_true]
    refine ⟨?_, ?_⟩
    · have hk : m.1 ∈ keysOf T.maps := List.mem_map_of_mem hm
      rw [← h.map.same] at hk
      obtain ⟨s, hs, he⟩ := List.mem_map.1 hk
      obtain ⟨hs1, hs2⟩ := List.mem_filter.1 hs
      rw [← he, h.status_pool (colN_mem h.map.col hs1), colN_at h.map.col hs1]
      simpa using hs2
    · obtain ⟨a, ha, hl⟩ := h.map.form m hm
      intro c hc
      have hc' : c = a ∨ c = 46 := by
        rcases hl with hl | hl <;> rw [hl] at hc <;> simp at hc
        · exact .inl hc
        · exact hc
      rw [status_ascii T (by rcases hc' with rfl | rfl <;> omega)]
      rfl
theorem Made.rule6 (h : Made T) : T.rule6 = true := by
  unfold Tab.rule6
  rw [Bool.and_eq_true, List.all_eq_true, List.all_eq_true]
  refine ⟨?_, ?_⟩
  · intro m hm
    obtain ⟨_, h2, h3⟩ := h.dform m hm
    unfold decOk
    rw [Bool.and_eq_true, decide_eq_true_eq, List.all_eq_true]
    refine ⟨h2, fun c hc => ?_⟩
    have := h3 c hc
    unfold decEl sylB jamoB
    simp only [Bool.not_eq_true', Bool.or_eq_false_iff, decide_eq_false_iff_not]
    omega
  · intro m hm
    have hr := h.dec.rng m hm
    obtain ⟨h1, h2⟩ := h.dec.size 5 m.1 (.inl (by omega))
    have h3 := fin_len h1
    obtain ⟨h4, h5⟩ := fin_up h3 (T.decomps.length + 1) (by omega)
    unfold Tab.szOk
    rw [decide_eq_true_eq, sizeF_le]
    refine ⟨h4, ?_⟩
    rcases Nat.le_total 5 (T.decomps.length + 1) with hle | hle
    · rw [(fin_up h1 _ hle).2]; omega
    · rw [← (fin_up h4 5 hle).2]; omega
theorem Made.rule7 (h : Made T) : T.rule7 = true := by
  unfold Tab.rule7
  rw [List.all_eq_true]
  intro c hc
  obtain ⟨m, hm, rfl⟩ := List.mem_map.1 (h.dec.exk c hc)
  unfold Tab.exOk
  rw [decide_eq_true_eq, find_key h.dec.keys hm]
  exact (h.dform m hm).1
theorem comp_ex {T : Tab} {c : Int} (h : c ∈ T.excluded) : T.comp c = false := by
  have he : T.excB c = true := by unfold Tab.excB; exact decide_eq_true h
  unfold Tab.comp
  cases T.decomps.length with
  | zero => rfl
  | succ f =>
    rw [Tab.compF]
    split
    · rw [he]; rfl
    · rfl
theorem Made.rule8 (h : Made T) : T.rule8 = true := by
  unfold Tab.rule8 Tab.pairs
  rw [decide_eq_true_eq]
  have hp : (T.decomps.filter (fun m => T.comp m.1)).Pairwise (fun a b => a.2 = b.2 → b.1 ∈ T.excluded) := h.dec.uni.sublist List.filter_sublist
  refine List.Pairwise.map _ (fun a b (hab : a.2 ≠ b.2) => hab) (List.Pairwise.imp_of_mem ?_ hp)
  intro a b _ hb hab e
  have := (List.mem_filter.1 hb).2
  rw [comp_ex (hab e)] at this
  cases this
theorem Made.ign_none (h : Made T) {c : Int} (hc : c ∉ poolL) : T.ignB c = false := by
  unfold Tab.ignB; rw [colN_zero h.c6 hc]; rfl
theorem Made.rule9 (h : Made T) : T.rule9 = true := by
  unfold Tab.rule9
  rw [List.all_eq_true]
  intro m hm
  have hi := h.ign m hm
  have hpr : ∀ c, c ∉ keysOf protoL → findL T.prototypes c = [] := fun c hc => findL_no fun _ a ha e => hc (by
    have := h.pro.subset (List.mem_of_getElem? ha)
    rw [← e]; exact List.mem_map_of_mem this)
  have hel : ∀ c, c < 7680 → T.ignB c = false → c ∉ keysOf protoL → T.protoEl c = true := by
    intro c h1 h2 h3
    unfold Tab.protoEl Tab.plainB
    rw [h.dec.key_none (.inl h1), h2, hpr c h3]
    have : sylB c = false := by unfold sylB; rw [decide_eq_false_iff_not]; omega
    rw [this]; rfl
  have hpl : ∀ c, c < 7680 → T.ignB c = false → T.plainB c = true := by
    intro c h1 h2
    unfold Tab.plainB
    rw [h.dec.key_none (.inl h1), h2]; rfl
  have hm' := h.pro.subset hm
  unfold Tab.protoOk
  rw [Bool.and_eq_true, List.all_eq_true]
  simp only [protoL, List.mem_cons, List.not_mem_nil, or_false] at hm'
  rcases hm' with rfl | rfl | rfl | rfl | rfl
  all_goals
    refine ⟨hpl _ (by decide) hi.1, ?_⟩
    intro c hc
    simp only [List.mem_cons, List.not_mem_nil, or_false] at hc
  · subst hc; exact hel _ (by decide) (h.ign_none (by decide)) (by decide)
  · rcases hc with rfl | rfl <;> exact hel _ (by decide) (h.ign_none (by decide)) (by decide)
  · subst hc; exact hel _ (by decide) (h.ign_none (by decide)) (by decide)
  · subst hc; exact hel _ (by decide) (h.ign_none (by decide)) (by decide)
  · rcases hc with rfl | rfl
    · exact hel _ (by decide) (h.ign_none (by decide)) (by decide)
    · exact hel _ (by decide) hi.2 (by decide)
theorem check_zero {T : Tab} (h1 : T.rule1 = true) (h2 : T.rule2 = true) (h3 : T.rule3 = true) (h4 : T.rule4 = true) (h5 : T.rule5 = true) (h6 : T.rule6 = true) (h7 : T.rule7 = true) (h8 : T.rule8 = true) (h9 : T.rule9 = true) : T.check = 0 := by
  unfold Tab.check
  rw [h1, h2, h3, h4, h5, h6, h7, h8, h9]; rfl
theorem Made.check (h : Made T) : T.check = 0 := check_zero h.rule1 h.rule2 h.rule3 h.rule4 h.rule5 h.rule6 h.rule7 h.rule8 h.rule9
end
end ND
/-
  The state of keep.maps' loop, and what keeps it.
-/
namespace Go.Proofs.YtneinkpfhkojgaaGreatDoor
open Go.RowKit ND

/-- The statuses from the k-th code point on. -/
def StRow (w : World) (sb k : Nat) (st : List Int) : Prop := ∃ cs, Blk w sb 3 cs ∧ ∀ j x, k ≤ j → st[j]? = some x → cs[j]? = some (.int .i64 x)

theorem Tryz.infoMap : (Tryz.prog.info? 49).map (fun i => (i.zero, i.size, i.bytes)) = some (some (.agg #[.int .i64 0, .slice none 0 0]), 2, 32) := by kernel_rfl

theorem Ints.veil_own {S : List Nat} {w : World} {base : Nat} {e : TypeId} {k : IntKind} {v : Value} {xs : List Int} (h : w.ownsRow base e 1 v xs.length (xs.map (Value.int k))) (hS : ∀ x ∈ S, x < base) : Ints (veil S w) (veil S w).heap.size k v xs := by
  obtain ⟨A, c, hv, h1, h2, h3, h4⟩ := Ints.of_own h
  refine ⟨A, c, hv, h1, h2, h3, fun i x hi => ?_⟩
  obtain ⟨ad, rfl, hb, c0⟩ := h4 i x hi
  have hob : base ≤ ad.block := by
    rcases h.2 with ⟨hv', _⟩ | ⟨g, cap, cur, hv', hbg, _⟩
    · rw [hv] at hv'; cases hv'
    · rw [hv] at hv'; cases hv'; exact hbg
  have hn : ad.block ∉ S := fun hx => by have := hS _ hx; omega
  exact ⟨ad, rfl, by rw [veil_size]; exact hb, by rw [cell_veil (by rw [block_of_add]; exact hn)]; exact c0⟩
theorem own_ne {W : World} {base g : Nat} {t e : TypeId} {size n : Nat} {v : Value} {xs : List Value} {cs : Array Value} (h : W.ownsRow base e size v n xs) (hb : Blk W g t cs) (hne : t ≠ e) : v.ownBlock ≠ some g := by
  rcases h.2 with ⟨rfl, _⟩ | ⟨g', cap, cur, rfl, _, hg, _⟩
  · intro h; cases h
  · intro he
    simp only [Value.ownBlock, Option.some.injEq] at he
    subst he
    rw [hb] at hg
    cases hg
    exact hne rfl

/-- A new block of integers is an own row. -/
theorem own_new (w : World) (e : TypeId) (ys : List Int) (hl : ys.length ≤ 1000000) :
    (w.alloc (.cells (ys.map (Value.int .i64)).toArray e)).ownsRow w.heap.size e 1 (.slice (some ⟨w.heap.size, 0, none⟩) ys.length ys.length) ys.length (ys.map (Value.int .i64)) :=
  ⟨by simp, .inr ⟨w.heap.size, ys.length, (ys.map (Value.int .i64)).toArray, rfl, Nat.le_refl _, heap_alloc_new w _, Nat.le_refl _, by unfold maxLen; omega, by simp, by simp [List.take_of_length_le]⟩⟩

/-- A mapping of the call's own: its block x, its sequence an own row from block B on. -/
def XAt (W : World) (x B : Nat) (c : Int) (sv : Value) (l : List Int) : Prop :=
  Blk W x 49 #[.int .i64 c, sv] ∧ W.ownsRow B 3 1 sv l.length (l.map (Value.int .i64))
theorem XAt.grown {W W' : World} {x B g : Nat} {c : Int} {sv : Value} {l : List Int} (h : XAt W x B c sv l) (hg : W.grownBy W' (some g)) (hx : g ≠ x) (hB : g < B) : XAt W' x B c sv l :=
  ⟨h.1.grown hg (by intro e; injection e with e; exact hx e.symm), own_grown h.2 hg hB⟩

theorem onlyIn.far {S : List Nat} {a w w' : World} {row : Option Nat} (h : onlyIn S a w) (hg : w.grownBy w' row) (hr : ∀ x, row = some x → a.heap.size ≤ x) : onlyIn S a w' :=
  ⟨hg.os.trans h.1, hg.tape.trans h.2.1, hg.output.trans h.2.2.1, Nat.le_trans h.2.2.2.1 hg.size, fun k hk hl => (hg.block k (Nat.lt_of_lt_of_le hl h.2.2.2.1) (fun e => by have := hr k e.symm; omega)).trans (h.2.2.2.2 k hk hl)⟩
theorem XAt.put1 {W : World} {x B : Nat} {c : Int} {sv sv' : Value} {l : List Int} (hb : Blk W x 49 #[.int .i64 c, sv]) (ho : W.ownsRow B 3 1 sv' l.length (l.map (Value.int .i64))) : XAt (W.setCell ⟨x, 1, none⟩ sv') x B c sv' l :=
  ⟨by simpa using hb.put 1 sv', ho.kept (grown_setCell (grown_refl W (some x)) 1 sv') (.inr (own_ne ho hb (by decide)))⟩

structure MSt (w : World) (g b sb n : Nat) (v c0 c1 c2 c3 c4 c6 c7 c9 c10 c11 : Value) (k : Nat) (v5 v8 : Value) (S : List Sp) (M : List Mp) (st : List Int) (wr : World) : Prop where
  blk : Blk wr b 26 #[c0, c1, c2, c3, c4, v5, c6, c7, v8, c9, c10, c11]
  sp : Spans (veil ([g, b, sb] ++ v8.ownBlock.toList) wr) wr.heap.size v5 S
  om : OwnM [g, b, sb] wr (w.heap.size + 1) v8 M
  src : Src wr g v n
  oi : onlyIn [g, b, sb] w wr
  pool : Blk wr w.heap.size 3 (poolL.map (Value.int .i64)).toArray
  row : StRow wr sb k st

section
variable {w : World} {g b sb n : Nat} {v c0 c1 c2 c3 c4 c6 c7 c9 c10 c11 : Value} {k : Nat} {v5 v8 : Value} {S : List Sp} {M : List Mp} {st : List Int} {wr w' : World}
theorem MSt.own (h : MSt w g b sb n v c0 c1 c2 c3 c4 c6 c7 c9 c10 c11 k v5 v8 S M st wr) : ∀ q, v8.ownBlock = some q → w.heap.size + 1 ≤ q ∧ q < wr.heap.size := fun q hq => by
  obtain ⟨ps, _, _, ho, _⟩ := h.om
  exact ho.lt q hq
theorem MSt.only (h : MSt w g b sb n v c0 c1 c2 c3 c4 c6 c7 c9 c10 c11 k v5 v8 S M st wr) (hgb : g < b) (hbs : b < sb) (hsb : sb < w.heap.size) (ho : onlyIn [g] wr w') (hs : Src w' g v n) :
    MSt w g b sb n v c0 c1 c2 c3 c4 c6 c7 c9 c10 c11 k v5 v8 S M st w' := by
  have ho3 : onlyIn [g, b, sb] wr w' := ho.more fun x hx => by simp at hx ⊢; exact .inl hx
  have hown := h.own
  refine ⟨ho.blk h.blk (by simp; omega), ?_, h.om.kept ho3 (fun q hq hx => by have := hown q hq; simp at hx; omega), hs, h.oi.trans ho3, ho.blk h.pool (by simp; omega), ?_⟩
  · exact (h.sp.reveil (onlyIn_reveil ho3 fun x hx => List.mem_append_left _ hx)).more ho.2.2.2.1
  · obtain ⟨cs, h1, h2⟩ := h.row
    exact ⟨cs, ho.blk h1 (by simp; omega), h2⟩
/-- One status is added; the rest stands. -/
theorem MSt.add (h : MSt w g b sb n v c0 c1 c2 c3 c4 c6 c7 c9 c10 c11 k v5 v8 S M st wr) (hgb : g < b) (hbs : b < sb) (hsb : sb < w.heap.size) {c x : Int} {e : Ending}
    (ret : RetAdd wr.drew b 5 26 #[c0, c1, c2, c3, c4, v5, c6, c7, v8, c9, c10, c11] v5 S c c x e w') :
    ∃ v5' S', e = .returned (.tuple #[]) ∧ MSt w g b sb n v c0 c1 c2 c3 c4 c6 c7 c9 c10 c11 k v5' v8 S' M st w' ∧ (x ≤ 0 → S' = S) ∧ (0 < x → S' = S ++ [(c, c, x)]) := by
  obtain ⟨v5', rfl, hb5, hg0, hz5, hp5⟩ := ret
  have hg5 := undrew hg0
  have ho5 : onlyIn [g, b, sb] wr w' := onlyIn.of_grown hg5 (by simp)
  have hsz := h.oi.2.2.2.1
  have hown := h.own
  have hP5 := h.pool.grown hg5 (by intro e; injection e; omega)
  have hT5 : StRow w' sb k st := by
    obtain ⟨cs, h1, h2⟩ := h.row
    exact ⟨cs, h1.grown hg5 (by intro e; injection e; omega), h2⟩
  have hs5 : Src w' g v n := by
    obtain ⟨i, h1, h2⟩ := h.src
    exact ⟨i, h1, h2.grown hg5 (by intro e; injection e; omega)⟩
  have hM5 := h.om.kept ho5 (fun q hq hx => by have := hown q hq; simp at hx; omega)
  by_cases h0 : x ≤ 0
  · refine ⟨v5', S, rfl, ⟨by simpa using hb5, ?_, hM5, hs5, h.oi.trans ho5, hP5, hT5⟩, fun _ => rfl, fun h => absurd h (by omega)⟩
    rw [hz5 h0]
    exact (h.sp.reveil (onlyIn_reveil ho5 fun x hx => List.mem_append_left _ hx)).more hg5.size
  · refine ⟨v5', S ++ [(c, c, x)], rfl, ⟨by simpa using hb5, ?_, hM5, hs5, h.oi.trans ho5, hP5, hT5⟩, fun h => absurd h h0, fun _ => rfl⟩
    have h' := hp5 (by omega) ([g, b, sb] ++ v8.ownBlock.toList) (fun q hq => by
      show q < wr.heap.size
      rcases List.mem_append.1 hq with hq | hq
      · simp at hq; omega
      · rw [Option.mem_toList] at hq; exact (hown q hq).2)
    rw [veil_size] at h'
    exact h'
theorem MSt.up (h : MSt w g b sb n v c0 c1 c2 c3 c4 c6 c7 c9 c10 c11 k v5 v8 S M st wr) {st' : List Int} (hst : ∀ j x, k + 1 ≤ j → st'[j]? = some x → st[j]? = some x) : MSt w g b sb n v c0 c1 c2 c3 c4 c6 c7 c9 c10 c11 (k + 1) v5 v8 S M st' wr :=
  ⟨h.blk, h.sp, h.om, h.src, h.oi, h.pool, by
    obtain ⟨cs, h1, h2⟩ := h.row
    exact ⟨cs, h1, fun j x hj hx => h2 j x (by omega) (hst j x hj hx)⟩⟩
/-- A mapping is appended to the own row. -/
theorem MSt.append (h : MSt w g b sb n v c0 c1 c2 c3 c4 c6 c7 c9 c10 c11 k v5 v8 S M st wr) (hgb : g < b) (hbs : b < sb) (hsb : sb < w.heap.size) {X : World} {v8' : Value} {M' : List Mp}
    (ho : onlyIn [] wr X) (hg : X.grownBy w' v8.ownBlock) (hr : ∀ q, v8'.ownBlock = some q → v8.ownBlock = some q ∨ q = X.heap.size) (hM : OwnM [g, b, sb] w' (w.heap.size + 1) v8' M') :
    MSt w g b sb n v c0 c1 c2 c3 c4 c6 c7 c9 c10 c11 k v5 v8' S M' st (w'.setCell ⟨b, 8, none⟩ v8') := by
  have hown := h.own
  have hsz := h.oi.2.2.2.1
  have hnot : ∀ q, q < w.heap.size + 1 → some q ≠ v8.ownBlock := fun q hq e => by have := hown q e.symm; omega
  have hbX : Blk X b 26 #[c0, c1, c2, c3, c4, v5, c6, c7, v8, c9, c10, c11] := ho.blk h.blk (by simp)
  have ho3 : onlyIn [g, b, sb] wr X := ho.more (by simp)
  have hset : onlyIn [g, b, sb] w' (w'.setCell ⟨b, 8, none⟩ v8') := onlyIn.of_grown (grown_setCell (grown_refl w' (some b)) 8 v8') (by simp)
  have hgs : w'.grownBy (w'.setCell ⟨b, 8, none⟩ v8') (some b) := grown_setCell (grown_refl w' (some b)) 8 v8'
  have hXs : wr.heap.size ≤ X.heap.size := ho.2.2.2.1
  refine ⟨?_, ?_, ?_, ?_, ?_, ?_, ?_⟩
  · simpa using (hbX.grown hg (hnot b (by omega))).put 8 v8'
  · exact (((((h.sp.reveil (onlyIn_reveil ho3 fun x hx => List.mem_append_left _ hx)).more hXs).reveil (grown_reveil (v' := v8') hg hr)).more hg.size).reveil (onlyIn_reveil hset fun x hx => List.mem_append_left _ hx)).more hset.2.2.2.1
  · exact hM.kept hset (fun q hq hx => by
      rcases hr q hq with e | e
      · have := hown q e; simp at hx; omega
      · simp at hx; omega)
  · obtain ⟨i, h1, h2⟩ := h.src
    exact ⟨i, h1, ((ho.blk h2 (by simp)).grown hg (hnot g (by omega))).far (by simp; omega) _⟩
  · have oX := h.oi.trans ho3
    refine onlyIn.trans ⟨hg.os.trans oX.1, hg.tape.trans oX.2.1, hg.output.trans oX.2.2.1, Nat.le_trans oX.2.2.2.1 hg.size, fun q hq hl => (hg.block q (by have := oX.2.2.2.1; omega) (hnot q (by omega))).trans (oX.2.2.2.2 q hq hl)⟩ hset
  · exact ((ho.blk h.pool (by simp)).grown hg (hnot _ (by omega))).far (by simp; omega) _
  · obtain ⟨cs, h1, h2⟩ := h.row
    exact ⟨cs, ((ho.blk h1 (by simp)).grown hg (hnot _ (by omega))).far (by simp; omega) _, h2⟩
theorem MSt.status (h : MSt w g b sb n v c0 c1 c2 c3 c4 c6 c7 c9 c10 c11 k v5 v8 S M st wr) (hgb : g < b) (hbs : b < sb) (hsb : sb < w.heap.size) (x : Int) :
    MSt w g b sb n v c0 c1 c2 c3 c4 c6 c7 c9 c10 c11 k v5 v8 S M (st.set k x) (wr.setCell ⟨sb, k, none⟩ (.int .i64 x)) := by
  have ho : onlyIn [g, b, sb] wr (wr.setCell ⟨sb, k, none⟩ (.int .i64 x)) := onlyIn.of_grown (grown_setCell (grown_refl wr (some sb)) k _) (by simp)
  have hown := h.own
  refine ⟨h.blk.far (by simp; omega) _, (h.sp.reveil (onlyIn_reveil ho fun x hx => List.mem_append_left _ hx)).more ho.2.2.2.1, h.om.kept ho (fun q hq hx => by have := hown q hq; simp at hx; omega), ?_, h.oi.trans ho, h.pool.far (by simp; omega) _, ?_⟩
  · obtain ⟨i, h1, h2⟩ := h.src
    exact ⟨i, h1, h2.far (by simp; omega) _⟩
  · obtain ⟨cs, h1, h2⟩ := h.row
    refine ⟨_, h1.put k _, fun j y hj hy => ?_⟩
    rw [Array.getElem?_setIfInBounds]
    by_cases hjk : k = j
    · subst hjk
      rw [List.getElem?_set] at hy
      simp only [if_true] at hy
      split at hy
      · cases hy
        have := h2 k _ (Nat.le_refl _) (List.getElem?_eq_getElem (by assumption))
        have := (Array.getElem?_eq_some_iff.1 this).1
        simp [this]
      · cases hy
    · rw [if_neg hjk]
      exact h2 j y hj (by rw [List.getElem?_set_ne hjk] at hy; exact hy)
end
end Go.Proofs.YtneinkpfhkojgaaGreatDoor
/-
  The state of keep.decomps' loop, and what keeps it.
-/
namespace Go.Proofs.YtneinkpfhkojgaaGreatDoor
open Go.RowKit ND

theorem OwnM.restrict {S S' : List Nat} {w : World} {base : Nat} {v : Value} {D : List Mp} (h : OwnM S w base v D) (hS : ∀ x ∈ S', x ∈ S) : OwnM S' w base v D := by
  obtain ⟨ps, hm, hlen, hown, hr⟩ := h
  refine ⟨ps, hm, hlen, hown, fun i p d hp hd => (hr i p d hp hd).reveil fun p x _ hn hx => ⟨fun h => hn ?_, hx⟩⟩
  rcases List.mem_append.1 h with h | h
  · exact List.mem_append_left _ (hS _ h)
  · exact List.mem_append_right _ h
theorem own_own {W : World} {base base' : Nat} {t e : TypeId} {size size' n n' : Nat} {v v' : Value} {xs xs' : List Value} (h : W.ownsRow base e size v n xs) (h' : W.ownsRow base' t size' v' n' xs') (hne : t ≠ e) : ∀ q, v.ownBlock = some q → v'.ownBlock ≠ some q := by
  intro q hq
  rcases h.2 with ⟨rfl, _⟩ | ⟨g', cap, cur, rfl, _, hg, _⟩
  · cases hq
  · simp only [Value.ownBlock, Option.some.injEq] at hq
    subst hq
    exact own_ne h' (show Blk W g' e cur from hg) (fun e => hne e.symm)

theorem Blk.drew {w : World} {g : Nat} {t : TypeId} {cs : Array Value} (h : Blk w g t cs) : Blk w.drew g t cs := h
theorem own_one {W : World} {B g : Nat} {e : TypeId} {u : Value} (h : W.ownsRow B e 1 (.slice (some ⟨g, 0, none⟩) 1 1) 1 [u]) : Blk W g e #[u] := by
  rcases h.2 with ⟨h, _⟩ | ⟨g', cap, cur, hv, _, hg, _, _, hs, ht⟩
  · cases h
  · cases hv
    have e1 : cur.toList = [u] := by rw [← ht, List.take_of_length_le (by rw [Array.length_toList, hs]; omega)]
    have e2 : cur = #[u] := by rw [← Array.toList_inj, e1]
    rw [← e2]; exact hg
theorem own_of_one {W : World} {B g : Nat} {e : TypeId} {u : Value} (h : Blk W g e #[u]) (hB : B ≤ g) : W.ownsRow B e 1 (.slice (some ⟨g, 0, none⟩) 1 1) 1 [u] :=
  ⟨rfl, .inr ⟨g, 1, #[u], rfl, hB, h, Nat.le_refl _, by decide, rfl, rfl⟩⟩

theorem Ints.veil_own' {S : List Nat} {w : World} {base : Nat} {e : TypeId} {k : IntKind} {v : Value} {xs : List Int} (h : w.ownsRow base e 1 v xs.length (xs.map (Value.int k))) (hS : ∀ q, v.ownBlock = some q → q ∉ S) : Ints (veil S w) w.heap.size k v xs := by
  obtain ⟨A, c, hv, h1, h2, h3, h4⟩ := Ints.of_own h
  refine ⟨A, c, hv, h1, h2, h3, fun i x hi => ?_⟩
  obtain ⟨ad, rfl, hb, c0⟩ := h4 i x hi
  have hn : ad.block ∉ S := hS ad.block (by rw [hv]; rfl)
  exact ⟨ad, rfl, hb, by rw [cell_veil (by rw [block_of_add]; exact hn)]; exact c0⟩
theorem XAt.below {W W' : World} {x B : Nat} {c : Int} {sv : Value} {l : List Int} (h : XAt W x B c sv l) (hb : Below W.heap.size W W') : XAt W' x B c sv l :=
  ⟨h.1.later hb, own_later h.2 hb⟩
theorem XAt.far {W W' : World} {x B : Nat} {row : Option Nat} {c : Int} {sv : Value} {l : List Int} (h : XAt W x B c sv l) (hg : W.grownBy W' row) (h1 : row ≠ some x) (h2 : ∀ q, sv.ownBlock = some q → row ≠ some q) : XAt W' x B c sv l :=
  ⟨h.1.grown hg (fun e => h1 e.symm), h.2.kept hg (by
    cases hv : sv.ownBlock with
    | none => exact .inl rfl
    | some q => exact .inr (fun e => h2 q hv e.symm))⟩
theorem Src.below {W W' : World} {g n : Nat} {v : Value} (h : Src W g v n) (hb : Below W.heap.size W W') : Src W' g v n := by
  obtain ⟨i, h1, h2⟩ := h
  exact ⟨i, h1, h2.later hb⟩
theorem take_ne {D : List Mp} {l : List Int} {j : Nat} {d : Mp} (hd : D[j]? = some d) (h : ∀ d ∈ D.take j, d.2 ≠ l) (hl : d.2 ≠ l) : ∀ d ∈ D.take (j + 1), d.2 ≠ l := by
  intro x hx
  rw [take_snoc_get hd] at hx
  rcases List.mem_append.1 hx with hx | hx
  · exact h x hx
  · rw [List.mem_singleton] at hx; subst hx; exact hl

structure DSt (w : World) (g b n : Nat) (v c0 c1 c2 c3 c4 c5 c6 c7 c8 c11 : Value) (v9 v10 : Value) (D : List Mp) (X : List Int) (wr : World) : Prop where
  blk : Blk wr b 26 #[c0, c1, c2, c3, c4, c5, c6, c7, c8, v9, v10, c11]
  om : OwnM (List.range w.heap.size ++ v10.ownBlock.toList) wr w.heap.size v9 D
  ox : wr.ownsRow w.heap.size 3 1 v10 X.length (X.map (Value.int .i64))
  src : Src wr g v n
  oi : onlyIn [g, b] w wr

section
variable {w : World} {g b n : Nat} {v c0 c1 c2 c3 c4 c5 c6 c7 c8 c11 : Value} {v9 v10 : Value} {D : List Mp} {X : List Int} {wr w' : World}
theorem DSt.own9 (h : DSt w g b n v c0 c1 c2 c3 c4 c5 c6 c7 c8 c11 v9 v10 D X wr) : ∀ q, v9.ownBlock = some q → w.heap.size ≤ q ∧ q < wr.heap.size := fun q hq => by
  obtain ⟨ps, _, _, ho, _⟩ := h.om
  exact ho.lt q hq
theorem DSt.own10 (h : DSt w g b n v c0 c1 c2 c3 c4 c5 c6 c7 c8 c11 v9 v10 D X wr) : ∀ q, v10.ownBlock = some q → w.heap.size ≤ q ∧ q < wr.heap.size := fun q hq => h.ox.lt q hq
theorem DSt.apart (h : DSt w g b n v c0 c1 c2 c3 c4 c5 c6 c7 c8 c11 v9 v10 D X wr) : ∀ q, v9.ownBlock = some q → v10.ownBlock ≠ some q := by
  obtain ⟨ps, _, _, ho, _⟩ := h.om
  exact own_own ho h.ox (by decide)
theorem DSt.only (h : DSt w g b n v c0 c1 c2 c3 c4 c5 c6 c7 c8 c11 v9 v10 D X wr) (hgb : g < b) (hb : b < w.heap.size) (ho : onlyIn [g] wr w') (hs : Src w' g v n) :
    DSt w g b n v c0 c1 c2 c3 c4 c5 c6 c7 c8 c11 v9 v10 D X w' := by
  have h9 := h.own9
  have h10 := h.own10
  refine ⟨ho.blk h.blk (by simp; omega), h.om.kept (ho.more fun x hx => List.mem_append_left _ (by simp at hx ⊢; omega)) (fun q hq hx => ?_), ?_, hs, h.oi.trans (ho.more fun x hx => by simp at hx ⊢; exact .inl hx)⟩
  · rcases List.mem_append.1 hx with hx | hx
    · have := h9 q hq; simp at hx; omega
    · rw [Option.mem_toList] at hx; exact h.apart q hq hx
  · refine ⟨h.ox.1, ?_⟩
    rcases h.ox.2 with hn | ⟨q, cap, cur, rfl, hq, hg, hrest⟩
    · exact .inl hn
    · exact .inr ⟨q, cap, cur, rfl, hq, ho.blk hg (by simp; omega), hrest⟩
/-- A mapping is appended to the own row. -/
theorem DSt.append (h : DSt w g b n v c0 c1 c2 c3 c4 c5 c6 c7 c8 c11 v9 v10 D X wr) (hgb : g < b) (hb : b < w.heap.size) {Y : World} {v9' : Value} {D' : List Mp}
    (ho : onlyIn [] wr Y) (hg : Y.grownBy w' v9.ownBlock) (hM : OwnM (List.range w.heap.size ++ v10.ownBlock.toList) w' w.heap.size v9' D') :
    DSt w g b n v c0 c1 c2 c3 c4 c5 c6 c7 c8 c11 v9' v10 D' X (w'.setCell ⟨b, 9, none⟩ v9') := by
  have h9 := h.own9
  have h10 := h.own10
  have hnot : ∀ q, q < w.heap.size → some q ≠ v9.ownBlock := fun q hq e => by have := h9 q e.symm; omega
  have hset : w'.grownBy (w'.setCell ⟨b, 9, none⟩ v9') (some b) := grown_setCell (grown_refl w' (some b)) 9 v9'
  have hox' : w'.ownsRow w.heap.size 3 1 v10 X.length (X.map (Value.int .i64)) := by
    refine ⟨h.ox.1, ?_⟩
    rcases h.ox.2 with hn | ⟨q, cap, cur, rfl, hq, hgq, hrest⟩
    · exact .inl hn
    · exact .inr ⟨q, cap, cur, rfl, hq, Blk.grown (show Blk Y q 3 cur from ho.blk hgq (by simp)) hg (fun e => h.apart q e.symm rfl), hrest⟩
  have hno9 : ∀ q, v9'.ownBlock = some q → w.heap.size ≤ q ∧ v10.ownBlock ≠ some q := fun q hq => by
    obtain ⟨ps, _, _, hown, _⟩ := hM
    exact ⟨(hown.lt q hq).1, own_own hown hox' (by decide) q hq⟩
  refine ⟨?_, ?_, ?_, ?_, ?_⟩
  · simpa using ((ho.blk h.blk (by simp)).grown hg (hnot b (by omega))).put 9 v9'
  · refine hM.kept (onlyIn.of_grown hset (List.mem_append_left _ (by simp; omega))) fun q hq hx => ?_
    rcases List.mem_append.1 hx with hx | hx
    · have := hno9 q hq; simp at hx; omega
    · rw [Option.mem_toList] at hx; exact (hno9 q hq).2 hx
  · exact hox'.kept hset (by
      cases hv : v10.ownBlock with
      | none => exact .inl rfl
      | some q => have := h10 q hv; refine .inr (fun e => ?_); injection e; omega)
  · obtain ⟨i, h1, h2⟩ := h.src
    exact ⟨i, h1, ((ho.blk h2 (by simp)).grown hg (hnot g (by omega))).far (by simp; omega) _⟩
  · have oX := h.oi.trans (ho.more (S' := [g, b]) (by simp))
    refine onlyIn.trans ⟨hg.os.trans oX.1, hg.tape.trans oX.2.1, hg.output.trans oX.2.2.1, Nat.le_trans oX.2.2.2.1 hg.size, fun q hq hl => (hg.block q (by have := oX.2.2.2.1; omega) (hnot q (by omega))).trans (oX.2.2.2.2 q hq hl)⟩ (onlyIn.of_grown hset (by simp))
/-- A code point is excluded. -/
theorem DSt.exclude (h : DSt w g b n v c0 c1 c2 c3 c4 c5 c6 c7 c8 c11 v9 v10 D X wr) (hgb : g < b) (hb : b < w.heap.size) {Y : World} {v10' : Value} {X' : List Int}
    (ho : onlyIn [] wr Y) (hg : Y.grownBy w' v10.ownBlock) (hr : ∀ q, v10'.ownBlock = some q → v10.ownBlock = some q ∨ q = Y.heap.size) (hX : w'.ownsRow w.heap.size 3 1 v10' X'.length (X'.map (Value.int .i64))) :
    DSt w g b n v c0 c1 c2 c3 c4 c5 c6 c7 c8 c11 v9 v10' D X' (w'.setCell ⟨b, 10, none⟩ v10') := by
  have h9 := h.own9
  have h10 := h.own10
  have hnot : ∀ q, q < w.heap.size → some q ≠ v10.ownBlock := fun q hq e => by have := h10 q e.symm; omega
  have hset : w'.grownBy (w'.setCell ⟨b, 10, none⟩ v10') (some b) := grown_setCell (grown_refl w' (some b)) 10 v10'
  have hYs : wr.heap.size ≤ Y.heap.size := ho.2.2.2.1
  refine ⟨?_, ?_, ?_, ?_, ?_⟩
  · simpa using ((ho.blk h.blk (by simp)).grown hg (hnot b (by omega))).put 10 v10'
  · have ho' : onlyIn (List.range w.heap.size ++ v10.ownBlock.toList) wr (w'.setCell ⟨b, 10, none⟩ v10') := by
      refine (ho.more (by simp)).trans ((onlyIn.of_own hg fun q hq => ?_).trans (onlyIn.of_grown hset (List.mem_append_left _ (by simp; omega))))
      exact List.mem_append_right _ (by rw [Option.mem_toList]; exact hq)
    have hk := h.om.kept ho' (fun q hq hx => by
      rcases List.mem_append.1 hx with hx | hx
      · have := h9 q hq; simp at hx; omega
      · rw [Option.mem_toList] at hx; exact h.apart q hq hx)
    obtain ⟨ps, hm, hlen, hown, hrd⟩ := h.om
    obtain ⟨ps0, hm0, hlen0, hown0, hrd0⟩ := hk
    have hsz : w'.heap.size ≤ (w'.setCell ⟨b, 10, none⟩ v10').heap.size := hset.size
    refine ⟨ps, hm, hlen, ?_, fun i p d hp hd => ?_⟩
    · refine ⟨hown.1, ?_⟩
      rcases hown.2 with hn | ⟨q, cap, cur, rfl, hb', hgq, hrest⟩
      · exact .inl hn
      · refine .inr ⟨q, cap, cur, rfl, hb', ?_, hrest⟩
        have hlt : q < wr.heap.size := (Array.getElem?_eq_some_iff.1 hgq).1
        have hqb := h9 q rfl
        exact ((Blk.grown (show Blk Y q 49 cur from ho.blk hgq (by simp)) hg (fun e => h.apart q rfl e.symm))).far (by simp; omega) _
    · refine (((hrd i p d hp hd).reveil (S' := List.range w.heap.size ++ v10'.ownBlock.toList ++ v9.ownBlock.toList) (w' := w'.setCell ⟨b, 10, none⟩ v10') fun pp x hpb hpn hpc => ?_)).more (Nat.le_trans hYs (Nat.le_trans hg.size hsz))
      simp only [List.mem_append, Option.mem_toList, not_or] at hpn ⊢
      obtain ⟨⟨hn1, hn2⟩, hn3⟩ := hpn
      refine ⟨⟨⟨hn1, fun e => ?_⟩, hn3⟩, ?_⟩
      · rcases hr _ e with e | e
        · exact hn2 e
        · omega
      · have e1 := ho.2.2.2.2 pp.block (by simp) hpb
        have e2 := hg.block pp.block (by omega) (fun e => hn2 e.symm)
        have e3 := hset.block pp.block (by have := hg.size; omega) (fun e => by injection e with e; rw [e] at hn1; simp at hn1; omega)
        unfold World.cell? at hpc ⊢
        rw [e3, e2, e1]; exact hpc
  · exact hX.kept hset (by
      cases hv : v10'.ownBlock with
      | none => exact .inl rfl
      | some q => have := (hX.lt q hv).1; refine .inr (fun e => ?_); injection e; omega)
  · obtain ⟨i, h1, h2⟩ := h.src
    exact ⟨i, h1, ((ho.blk h2 (by simp)).grown hg (hnot g (by omega))).far (by simp; omega) _⟩
  · have oX := h.oi.trans (ho.more (S' := [g, b]) (by simp))
    refine onlyIn.trans ⟨hg.os.trans oX.1, hg.tape.trans oX.2.1, hg.output.trans oX.2.2.1, Nat.le_trans oX.2.2.2.1 hg.size, fun q hq hl => (hg.block q (by have := oX.2.2.2.1; omega) (hnot q (by omega))).trans (oX.2.2.2.2 q hq hl)⟩ (onlyIn.of_grown hset (by simp))
end
end Go.Proofs.YtneinkpfhkojgaaGreatDoor
