/-
  Merged texts: lemmas and walks that the last text of this claim leans on.
-/
import Derived.Test.YtneinkpfhkojgaaDoorRows
import Derived.Test.YtneinkpfhkojgaaDoorMgF131
import Derived.LaidMore
import Derived.OpenShut
import Derived.Deep.DeepHandedRow
import Derived.ProofKit
import Derived.Deep.LoopGhost
import Derived.BigQuiet
import Derived.Shelf.Abstract
import Derived.Lib.QuietBelow
/-
  What the card's list gives: the variable table.blocks holds the reserved blocks; a world for the witness; an argument that is tables.
-/
namespace Go.Proofs.YtneinkpfhkojgaaDoor
open Go.ChangeShapes Go.WideShapes Go.ChangeAt Go.Deep Go.RowKit ND

/-- The variable blocks holds the reserved blocks. -/
def Glob (w : World) : Prop := ∃ v, w.cell? ⟨0, 0, none⟩ = some v ∧ Spans w w.heap.size v blocksL
theorem Glob.later {w w' : World} (h : Glob w) (hb : Below w.heap.size w w') : Glob w' := by
  obtain ⟨v, hc, hs⟩ := h
  exact ⟨v, (hb.cell (World.block_lt_of_cell? _ _ hc)).trans hc, hs.later hb⟩

theorem gBlocks : Tryd.prog.globalNamed "namedesk/table.blocks" = some 0 := by kernel_rfl
theorem tBlocks : (Tryd.prog.globals[0]?).map (·.type) = some 23 := by kernel_rfl
theorem door_met (os : Os) (args : Array Value) : laidMetH Tryd.prog [("namedesk/table.blocks", Rows.laid_namedesk_table_blocks)] ((World.doorLaid Tryd.prog 400 os).forCall (fun _ _ => 0) ⟨#[], args, []⟩).memory :=
  laidMetH_of_parts3 (fuel := 8) (laidMet_of_run' 8 (by kernel_rfl) (by kernel_rfl)) (by kernel_rfl) (by kernel_rfl)

section
variable {H : Type} {enc : TypeId × Value → H} {P : Program} {W : World}
theorem ints_trod {t e : TypeId} {k : IntKind} {v : Value} {y : DataW H × List MemPlace} {n : Nat} (ht : P.underlying t = some (.slice e)) (he : P.underlying e = some (.int k)) (hc : P.cellsOf e = 1)
    (h : DataW.trod enc P W 0 (fun _ => true) true n t [v] = some y) (hlt : ∀ x ∈ y.2, x.block < W.heap.size) : ∃ xs, Ints W W.heap.size k v xs := by
  rcases open_ints ht he hc h with ⟨hcs, hx⟩ | ⟨a, len, cap, zs, hcs, _, hl, hm, hz, hx, hcell, hwf⟩
  · obtain rfl : v = .slice none 0 0 := by simpa using hcs
    exact ⟨[], Ints.none_⟩
  · obtain rfl : v = .slice (some a) len cap := by simpa using hcs
    subst hx
    have hzl : zs.length = cap := by simpa using hz
    have hxl : (zs.take len).length = len := by simp; omega
    refine ⟨zs.take len, some a, cap, by rw [hxl], by omega, hm, (by intro h; cases h), fun i x hi => ⟨a, rfl, ?_, ?_⟩⟩
    · have hin : MemPlace.cell a.block (a.off + i) ∈ MemPlace.row a zs.length := by
        have := (List.getElem?_eq_some_iff.1 hi).1
        unfold MemPlace.row; simp; omega
      exact hlt _ hin
    · have hi' := (List.getElem?_eq_some_iff.1 hi).1
      rw [hcell i (by omega)]
      rw [List.getElem?_take] at hi
      split at hi
      · rw [List.getD_eq_getElem?_getD, hi]; rfl
      · cases hi
theorem spans_trod {t e ti : TypeId} {f0 f1 f2 : Field} {v : Value} {y : DataW H × List MemPlace} {n : Nat} (ht : P.underlying t = some (.slice e)) (he : P.underlying e = some (.struct #[f0, f1, f2]))
    (hone : oneCellFields P #[f0, f1, f2] = true) (hC : P.cellsOf e = 3) (t0 : f0.type = ti) (t1 : f1.type = ti) (t2 : f2.type = ti) (hti : P.underlying ti = some (.int .i64)) {held : Bool}
    (h : DataW.trod enc P W 0 (fun _ => true) held n t [v] = some y) (hlt : ∀ b off, MemPlace.cell b off ∈ y.2 → b < W.heap.size) :
    ∃ xs, Spans W W.heap.size v xs ∧ (∀ es sp, y.1 = .slice es sp → es = xs.map (fun x => .agg [.lit (.int .i64 x.1), .lit (.int .i64 x.2.1), .lit (.int .i64 x.2.2)])) ∧ (v = .slice none 0 0 → y.1 = .nil) := by
  rcases open_slice_fields ht he hone hC h with ⟨hcs, hx⟩ | ⟨a, len, cap, m, D, Pl, hcs, _, hl, hm, hmm, hx, hi⟩
  · obtain rfl : v = .slice none 0 0 := by simpa using hcs
    subst hx
    exact ⟨[], Spans.none_, (fun es sp h => by cases h), fun _ => rfl⟩
  · obtain rfl : v = .slice (some a) len cap := by simpa using hcs
    have hmc : m = cap := by simpa using hmm
    subst hmc
    subst hx
    have key : ∀ i : Nat, ∃ x : Int × Int × Int, i < m → W.cell? (a.add (i * 3)) = some (.int .i64 x.1) ∧ W.cell? (a.add (i * 3 + 1)) = some (.int .i64 x.2.1) ∧ W.cell? (a.add (i * 3 + 2)) = some (.int .i64 x.2.2) ∧
        D i = .agg [.lit (.int .i64 x.1), .lit (.int .i64 x.2.1), .lit (.int .i64 x.2.2)] := by
      intro i
      by_cases him : i < m
      · obtain ⟨ys, k, hD, _, hlen, hj⟩ := hi i him
        obtain ⟨v0, y0, c0, g0, r0⟩ := hj 0 f0 rfl
        obtain ⟨v1, y1, c1, g1, r1⟩ := hj 1 f1 rfl
        obtain ⟨v2, y2, c2, g2, r2⟩ := hj 2 f2 rfl
        rw [t0] at r0; rw [t1] at r1; rw [t2] at r2
        obtain ⟨z0, e0, d0, w0⟩ := DataW.trod_int hti r0
        obtain ⟨z1, e1, d1, w1⟩ := DataW.trod_int hti r1
        obtain ⟨z2, e2, d2, w2⟩ := DataW.trod_int hti r2
        simp at e0 e1 e2
        subst e0 e1 e2
        refine ⟨(z0, z1, z2), fun _ => ⟨c0, c1, c2, ?_⟩⟩
        match ys, hlen with
        | [u0, u1, u2], _ =>
          simp at g0 g1 g2
          subst g0 g1 g2
          subst d0 d1 d2
          rw [hD]; rfl
      · exact ⟨(0, 0, 0), fun h => absurd h him⟩
    let f : Nat → Int × Int × Int := fun i => (key i).choose
    have hfs := fun i => (key i).choose_spec
    refine ⟨(List.range len).map f, ⟨some a, m, by simp, by simpa using hl, hm, (by intro h; cases h), fun i x hxi => ⟨a, rfl, ?_, ?_⟩⟩, ?_, (by intro h; cases h)⟩
    · have hin : i < len := by simpa using (List.getElem?_eq_some_iff.1 hxi).1
      have hp : MemPlace.cell a.block (a.off + 0) ∈ MemPlace.row a (m * 3) := by
        unfold MemPlace.row; simp; omega
      exact hlt _ _ (List.mem_append_left _ hp)
    · have hin : i < len := by simpa using (List.getElem?_eq_some_iff.1 hxi).1
      have he : x = f i := by simpa [hin] using hxi.symm
      subst he
      obtain ⟨q0, q1, q2, _⟩ := hfs i (by omega)
      exact ⟨q0, q1, q2⟩
    · intro es sp hes
      simp only [DataW.slice.injEq] at hes
      rw [← hes.1, List.map_map]
      refine List.map_congr_left fun i hi' => ?_
      have hin : i < len := by simpa using hi'
      exact (hfs i (by omega)).2.2.2
theorem mapps_trod {t e ti ts : TypeId} {f0 f1 : Field} {v : Value} {y : DataW H × List MemPlace} {n : Nat} (ht : P.underlying t = some (.slice e)) (he : P.underlying e = some (.struct #[f0, f1]))
    (hone : oneCellFields P #[f0, f1] = true) (hC : P.cellsOf e = 2) (t0 : f0.type = ti) (t1 : f1.type = ts) (hti : P.underlying ti = some (.int .i64)) (hts : P.underlying ts = some (.slice ti)) (hc1 : P.cellsOf ti = 1)
    (h : DataW.trod enc P W 0 (fun _ => true) true n t [v] = some y) (hlt : ∀ x ∈ y.2, x.block < W.heap.size) : ∃ xs, Mapps W W.heap.size v xs := by
  rcases open_slice_fields ht he hone hC h with ⟨hcs, hx⟩ | ⟨a, len, cap, m, D, Pl, hcs, _, hl, hm, hmm, hx, hi⟩
  · obtain rfl : v = .slice none 0 0 := by simpa using hcs
    exact ⟨[], Mapps.none_⟩
  · obtain rfl : v = .slice (some a) len cap := by simpa using hcs
    have hmc : m = cap := by simpa using hmm
    subst hmc
    subst hx
    have key : ∀ i : Nat, ∃ x : Int × List Int, i < m → ∃ sv, W.cell? (a.add (i * 2)) = some (.int .i64 x.1) ∧ W.cell? (a.add (i * 2 + 1)) = some sv ∧ Ints W W.heap.size .i64 sv x.2 := by
      intro i
      by_cases him : i < m
      · obtain ⟨ys, k, _, hPl, hlen, hj⟩ := hi i him
        obtain ⟨v0, y0, c0, g0, r0⟩ := hj 0 f0 rfl
        obtain ⟨v1, y1, c1, g1, r1⟩ := hj 1 f1 rfl
        rw [t0] at r0; rw [t1] at r1
        obtain ⟨z0, e0, d0, w0⟩ := DataW.trod_int hti r0
        simp at e0
        subst e0
        obtain ⟨xs, hxs⟩ := ints_trod hts hti hc1 r1 (fun x hx => hlt x (by
          refine List.mem_append_right _ (List.mem_flatMap.2 ⟨i, by simpa using him, ?_⟩)
          rw [hPl]
          exact List.mem_flatMap.2 ⟨y1, List.mem_of_getElem? g1, hx⟩))
        exact ⟨(z0, xs), fun _ => ⟨v1, c0, c1, hxs⟩⟩
      · exact ⟨(0, []), fun h => absurd h him⟩
    let f : Nat → Int × List Int := fun i => (key i).choose
    have hfs := fun i => (key i).choose_spec
    refine ⟨(List.range len).map f, some a, m, by simp, by simpa using hl, hm, (by intro h; cases h), fun i x hxi => ?_⟩
    have hin : i < len := by simpa using (List.getElem?_eq_some_iff.1 hxi).1
    have he : x = f i := by simpa [hin] using hxi.symm
    subst he
    obtain ⟨sv, q0, q1, q2⟩ := hfs i (by omega)
    refine ⟨a, sv, rfl, ?_, q0, q1, q2⟩
    have hp : MemPlace.cell a.block (a.off + 0) ∈ MemPlace.row a (m * 2) := by
      unfold MemPlace.row; simp; omega
    exact hlt _ (List.mem_append_left _ hp)

set_option maxRecDepth 100000 in
theorem hone_tab {fs : Array Field} (hs : Tryd.prog.underlying 26 = some (.struct fs)) : oneCellFields Tryd.prog fs = true := by
  have h0 : ((Tryd.prog.underlying 26).elim false fun d => match d with | .struct fs => oneCellFields Tryd.prog fs | _ => true) = true := by kernel_rfl
  rw [hs] at h0
  exact h0
set_option maxRecDepth 100000 in
/-- An argument that is tables. -/
theorem open_tables {r : Reach} {b : Nat} {v : Value} {d : DataW H} {p : List MemPlace} (hv : Value.okWide Tryd.prog W r b 26 v) (h : DataW.Trod enc Tryd.prog W 0 (fun _ => true) true 26 v d p)
    (hlt : ∀ x ∈ p, x.block < W.heap.size) : ∃ t T, v = Tv.val t ∧ TabR W W.heap.size t T := by
  have hs := Tryd.underlying26
  obtain ⟨cs, rfl, hsz⟩ := okWide_struct hs hv
  obtain ⟨l⟩ := cs
  match l, hsz.trans (show Tryd.prog.cellsOf 26 = 12 by kernel_rfl) with
  | [c0, c1, c2, c3, c4, c5, c6, c7, c8, c9, c10, c11], _ =>
    obtain ⟨fuel, hf⟩ := h
    obtain ⟨xs, n, _, hx, _, hlen, hg⟩ := DataW.trod_struct hs hf
    have hlt' : ∀ y ∈ xs, ∀ x ∈ y.2, x.block < W.heap.size := fun y hy x hx' => hlt x (by
      simp only [Prod.mk.injEq] at hx
      rw [hx.2]
      exact List.mem_flatMap.2 ⟨y, hy, hx'⟩)
    have hone := hone_tab hs
    match xs, hlen, hlt' with
    | [y0, y1, y2, y3, y4, y5, y6, y7, y8, y9, y10, y11], _, hlt' =>
      have g0 := hg 0 _ rfl
      obtain ⟨o0, k0⟩ := hone_of hone 0 _ rfl
      rw [o0, k0] at g0
      have g1 := hg 1 _ rfl
      obtain ⟨o1, k1⟩ := hone_of hone 1 _ rfl
      rw [o1, k1] at g1
      have g2 := hg 2 _ rfl
      obtain ⟨o2, k2⟩ := hone_of hone 2 _ rfl
      rw [o2, k2] at g2
      have g3 := hg 3 _ rfl
      obtain ⟨o3, k3⟩ := hone_of hone 3 _ rfl
      rw [o3, k3] at g3
      have g4 := hg 4 _ rfl
      obtain ⟨o4, k4⟩ := hone_of hone 4 _ rfl
      rw [o4, k4] at g4
      have g5 := hg 5 _ rfl
      obtain ⟨o5, k5⟩ := hone_of hone 5 _ rfl
      rw [o5, k5] at g5
      have g6 := hg 6 _ rfl
      obtain ⟨o6, k6⟩ := hone_of hone 6 _ rfl
      rw [o6, k6] at g6
      have g7 := hg 7 _ rfl
      obtain ⟨o7, k7⟩ := hone_of hone 7 _ rfl
      rw [o7, k7] at g7
      have g8 := hg 8 _ rfl
      obtain ⟨o8, k8⟩ := hone_of hone 8 _ rfl
      rw [o8, k8] at g8
      have g9 := hg 9 _ rfl
      obtain ⟨o9, k9⟩ := hone_of hone 9 _ rfl
      rw [o9, k9] at g9
      have g10 := hg 10 _ rfl
      obtain ⟨o10, k10⟩ := hone_of hone 10 _ rfl
      rw [o10, k10] at g10
      have g11 := hg 11 _ rfl
      obtain ⟨o11, k11⟩ := hone_of hone 11 _ rfl
      rw [o11, k11] at g11
      have sp : ∀ {v : Value} {y : DataW H × List MemPlace}, DataW.trod enc Tryd.prog W 0 (fun _ => true) true n 23 [v] = some y → (∀ x ∈ y.2, x.block < W.heap.size) → ∃ xs, Spans W W.heap.size v xs := fun h hl => by
        obtain ⟨xs, hxs, _⟩ := spans_trod Tryd.underlying23 Tryd.underlying44 (by kernel_rfl) (by kernel_rfl) rfl rfl rfl Tryd.underlying3 h (fun b off hx => hl _ hx)
        exact ⟨xs, hxs⟩
      have mp : ∀ {v : Value} {y : DataW H × List MemPlace}, DataW.trod enc Tryd.prog W 0 (fun _ => true) true n 24 [v] = some y → (∀ x ∈ y.2, x.block < W.heap.size) → ∃ xs, Mapps W W.heap.size v xs := fun h hl =>
        mapps_trod Tryd.underlying24 Tryd.underlying46 (by kernel_rfl) (by kernel_rfl) rfl rfl Tryd.underlying3 Tryd.underlying22 (by kernel_rfl) h hl
      obtain ⟨s0, i0⟩ := sp (show DataW.trod enc Tryd.prog W 0 (fun _ => true) true n 23 [c0] = some y0 from g0) (hlt' y0 (by simp))
      obtain ⟨s1, i1⟩ := sp (show DataW.trod enc Tryd.prog W 0 (fun _ => true) true n 23 [c1] = some y1 from g1) (hlt' y1 (by simp))
      obtain ⟨s2, i2⟩ := sp (show DataW.trod enc Tryd.prog W 0 (fun _ => true) true n 23 [c2] = some y2 from g2) (hlt' y2 (by simp))
      obtain ⟨s3, i3⟩ := sp (show DataW.trod enc Tryd.prog W 0 (fun _ => true) true n 23 [c3] = some y3 from g3) (hlt' y3 (by simp))
      obtain ⟨s4, i4⟩ := sp (show DataW.trod enc Tryd.prog W 0 (fun _ => true) true n 23 [c4] = some y4 from g4) (hlt' y4 (by simp))
      obtain ⟨s5, i5⟩ := sp (show DataW.trod enc Tryd.prog W 0 (fun _ => true) true n 23 [c5] = some y5 from g5) (hlt' y5 (by simp))
      obtain ⟨s6, i6⟩ := sp (show DataW.trod enc Tryd.prog W 0 (fun _ => true) true n 23 [c6] = some y6 from g6) (hlt' y6 (by simp))
      obtain ⟨s7, i7⟩ := mp (show DataW.trod enc Tryd.prog W 0 (fun _ => true) true n 24 [c7] = some y7 from g7) (hlt' y7 (by simp))
      obtain ⟨s8, i8⟩ := mp (show DataW.trod enc Tryd.prog W 0 (fun _ => true) true n 24 [c8] = some y8 from g8) (hlt' y8 (by simp))
      obtain ⟨s9, i9⟩ := mp (show DataW.trod enc Tryd.prog W 0 (fun _ => true) true n 24 [c9] = some y9 from g9) (hlt' y9 (by simp))
      obtain ⟨s10, i10⟩ := ints_trod Tryd.underlying22 Tryd.underlying3 (by kernel_rfl) (show DataW.trod enc Tryd.prog W 0 (fun _ => true) true n 22 [c10] = some y10 from g10) (hlt' y10 (by simp))
      obtain ⟨s11, i11⟩ := mp (show DataW.trod enc Tryd.prog W 0 (fun _ => true) true n 24 [c11] = some y11 from g11) (hlt' y11 (by simp))
      exact ⟨⟨c0, c1, c2, c3, c4, c5, c6, c7, c8, c9, c10, c11⟩, ⟨s0, s1, s2, s3, s4, s5, s6, s7, s8, s9, s10, s11⟩, rfl, ⟨i0, i1, i2, i3, i4, i5, i6, i7, i8, i9, i10, i11⟩⟩
end

theorem glob_laid {W : World} (h : laidMetH Tryd.prog [("namedesk/table.blocks", Rows.laid_namedesk_table_blocks)] W) : Glob W := by
  rw [MakeChecks.laidMetH_plain _ _ _ (by kernel_rfl)] at h
  obtain ⟨ps, ⟨g0, t0, cs0, f0, p0, q0, hg0, ht0, hv0, hd0, _, rfl⟩, _, hfr⟩ := h
  obtain rfl := Option.some.inj (gBlocks.symm.trans hg0)
  obtain rfl := Option.some.inj (tBlocks.symm.trans ht0)
  have hlt : ∀ b off, MemPlace.cell b off ∈ p0 → b < W.heap.size := by
    intro b off hx
    obtain ⟨⟨c, t, hb⟩, _⟩ := hfr b off (List.mem_append_left _ (List.mem_append_right _ hx))
    exact (Array.getElem?_eq_some_iff.1 hb).1
  obtain ⟨v, hcs⟩ : ∃ v, cs0.toList = [v] := by
    rcases open_slice_fields Tryd.underlying23 Tryd.underlying44 (by kernel_rfl) (by kernel_rfl) hd0 with ⟨hcs, _⟩ | ⟨a, len, cap, m, D, Pl, hcs, _⟩
    · exact ⟨_, hcs⟩
    · exact ⟨_, hcs⟩
  rw [hcs] at hd0
  obtain ⟨xs, hxs, hes, hnil⟩ := spans_trod Tryd.underlying23 Tryd.underlying44 (by kernel_rfl) (by kernel_rfl) rfl rfl rfl Tryd.underlying3 hd0 hlt
  have he := hes _ _ rfl
  have hxb : xs = blocksL := by
    have h6 : xs.length = 6 := by have := congrArg List.length he; simpa using this.symm
    match xs, h6 with
    | [x0, x1, x2, x3, x4, x5], _ =>
      obtain ⟨x00, x01, x02⟩ := x0
      obtain ⟨x10, x11, x12⟩ := x1
      obtain ⟨x20, x21, x22⟩ := x2
      obtain ⟨x30, x31, x32⟩ := x3
      obtain ⟨x40, x41, x42⟩ := x4
      obtain ⟨x50, x51, x52⟩ := x5
      simp at he
      unfold blocksL
      simp
      omega
  subst hxb
  refine ⟨v, ?_, hxs⟩
  have := World.var?_cell hg0 hv0 0
  rw [this]
  cases cs0
  simp at hcs
  subst hcs
  rfl
end Go.Proofs.YtneinkpfhkojgaaDoor
/-
  A witness for a row that lists the variable table.blocks: the heap that the door's own run leaves.
-/
namespace Go.Proofs.YtneinkpfhkojgaaDoor
open Go.ChangeShapes Go.WideShapes Go.ChangeAt Go.RowKit

theorem witness_door {H : Type} {enc : TypeId × Value → H} {C : Checked} {os : Os} {f : FuncId} {fn : Func} {s : OpenSpec} {conds : List PathCond} {apart : Bool} {laid : List (String × DataW Unit)} (w0 : World) (args : Array Value) (hos : w0.os = os)
    (hsh : (w0.forCall (fun _ _ => 0) ⟨#[], args, []⟩).Shaped C.prog)
    (hok : Input.okWideB C.prog (w0.forCall (fun _ _ => 0) ⟨#[], args, []⟩) f ⟨#[], args, []⟩ = true)
    (hrow : s.preRow enc C.prog fn conds apart laid (w0.forCall (fun _ _ => 0) ⟨#[], args, []⟩).memory args) :
    ∃ (w : World) (tape : Tape) (i : Input), w.os = os ∧ (w.forCall tape i).Shaped C.prog ∧ i.vars = [] ∧ Input.okWide C.prog (w.forCall tape i) .any w.heap.size f i ∧
      s.preRow enc C.prog fn conds apart laid (w.forCall tape i).memory i.args ∧ ({ modest := false } : Assume).holds C.prog (lone (Frame.enter C.prog f i.args .normal) [] (w.forCall tape i)) :=
  ⟨w0, fun _ _ => 0, ⟨#[], args, []⟩, hos, hsh, (Input.okWide_of_okWideB (base := 0) hok).1, (Input.okWide_of_okWideB hok).2, hrow, by
    simp only [Assume.holds]
    exact ⟨by simp, by simp, fun _ => Modest.zero, by simp, by simp⟩⟩
end Go.Proofs.YtneinkpfhkojgaaDoor
/-
  The walks through table.columns, table.mappings and the reference's spans and mappings.
-/
namespace Go.Proofs.YtneinkpfhkojgaaDoor
open Go.RowKit ND

/-- A row of columns from address ad on: the spans, the least value, the greatest value. -/
def ColAt (W : World) (B : Nat) (ad : Addr) (T : Tab) : Prop :=
  ad.block < B ∧ ∀ k c, T.cols[k]? = some c → ∃ v, W.cell? (ad.add (k * 3)) = some v ∧ W.cell? (ad.add (k * 3 + 1)) = some (.int .i64 c.2.1) ∧ W.cell? (ad.add (k * 3 + 2)) = some (.int .i64 c.2.2) ∧ Spans W B v c.1
/-- A row of lists of mappings. -/
def MpsAt (W : World) (B : Nat) (ad : Addr) (T : Tab) : Prop :=
  ad.block < B ∧ ∀ k c, T.mps[k]? = some c → ∃ v, W.cell? (ad.add k) = some v ∧ Mapps W B v c
/-- A row of lists of spans. -/
def LstAt (W : World) (B : Nat) (ad : Addr) (T : Tab) : Prop :=
  ad.block < B ∧ ∀ k c, T.cols[k]? = some c → ∃ v, W.cell? (ad.add k) = some v ∧ Spans W B v c.1
def mostL : List Int := [8, 254, 5, 11, 60, 4, 1]
def MstAt (W : World) (B : Nat) (ad : Addr) : Prop := ad.block < B ∧ ∀ (k : Nat) (m : Int), mostL[k]? = some m → W.cell? (ad.add k) = some (.int .i64 m)

def RetCols (T : Tab) (w : World) (e : Ending) (w' : World) : Prop := ∃ ad, e = .returned (.slice (some ad) 7 7) ∧ ColAt w' w'.heap.size ad T ∧ Below w.heap.size w w'
def RetMps (T : Tab) (w : World) (e : Ending) (w' : World) : Prop := ∃ ad, e = .returned (.slice (some ad) 4 4) ∧ MpsAt w' w'.heap.size ad T ∧ Below w.heap.size w w'
def RetLst (T : Tab) (w : World) (e : Ending) (w' : World) : Prop := ∃ ad am, e = .returned (.tuple #[.slice (some ad) 7 7, .slice (some am) 7 7]) ∧ LstAt w' w'.heap.size ad T ∧ MstAt w' w'.heap.size am ∧ Below w.heap.size w w'

theorem cols_of_block {w0 w : World} {t : Tv} {T : Tab} {e : TypeId} (ht : TabR w0 w0.heap.size t T) (hb : Below w0.heap.size w0 w) {h : Nat} (hh : w.heap.size = h) :
    ColAt (w.alloc (.cells #[t.c0, .int .i64 0, .int .i64 8, t.c1, .int .i64 1, .int .i64 254, t.c2, .int .i64 0, .int .i64 5, t.c3, .int .i64 0, .int .i64 11, t.c4, .int .i64 0, .int .i64 60, t.c5, .int .i64 0, .int .i64 4, t.c6, .int .i64 1, .int .i64 1] e))
      (w.alloc (.cells #[t.c0, .int .i64 0, .int .i64 8, t.c1, .int .i64 1, .int .i64 254, t.c2, .int .i64 0, .int .i64 5, t.c3, .int .i64 0, .int .i64 11, t.c4, .int .i64 0, .int .i64 60, t.c5, .int .i64 0, .int .i64 4, t.c6, .int .i64 1, .int .i64 1] e)).heap.size ⟨h, 0, none⟩ T := by
  subst hh
  have hc := cells_new w [t.c0, .int .i64 0, .int .i64 8, t.c1, .int .i64 1, .int .i64 254, t.c2, .int .i64 0, .int .i64 5, t.c3, .int .i64 0, .int .i64 11, t.c4, .int .i64 0, .int .i64 60, t.c5, .int .i64 0, .int .i64 4, t.c6, .int .i64 1, .int .i64 1] e
  have hr := ht.later (hb.alloc hb.size (.cells #[t.c0, .int .i64 0, .int .i64 8, t.c1, .int .i64 1, .int .i64 254, t.c2, .int .i64 0, .int .i64 5, t.c3, .int .i64 0, .int .i64 11, t.c4, .int .i64 0, .int .i64 60, t.c5, .int .i64 0, .int .i64 4, t.c6, .int .i64 1, .int .i64 1] e))
  refine ⟨by simp, fun k c hk => ?_⟩
  have hk7 : k < 7 := (List.getElem?_eq_some_iff.1 hk).1
  have h7 : k = 0 ∨ k = 1 ∨ k = 2 ∨ k = 3 ∨ k = 4 ∨ k = 5 ∨ k = 6 := by omega
  rcases h7 with rfl | rfl | rfl | rfl | rfl | rfl | rfl <;> cases hk
  · exact ⟨_, hc 0 _ rfl, hc 1 _ rfl, hc 2 _ rfl, hr.r0⟩
  · exact ⟨_, hc 3 _ rfl, hc 4 _ rfl, hc 5 _ rfl, hr.r1⟩
  · exact ⟨_, hc 6 _ rfl, hc 7 _ rfl, hc 8 _ rfl, hr.r2⟩
  · exact ⟨_, hc 9 _ rfl, hc 10 _ rfl, hc 11 _ rfl, hr.r3⟩
  · exact ⟨_, hc 12 _ rfl, hc 13 _ rfl, hc 14 _ rfl, hr.r4⟩
  · exact ⟨_, hc 15 _ rfl, hc 16 _ rfl, hc 17 _ rfl, hr.r5⟩
  · exact ⟨_, hc 18 _ rfl, hc 19 _ rfl, hc 20 _ rfl, hr.r6⟩
theorem mps_of_block {w0 w : World} {t : Tv} {T : Tab} {e : TypeId} (ht : TabR w0 w0.heap.size t T) (hb : Below w0.heap.size w0 w) {h : Nat} (hh : w.heap.size = h) :
    MpsAt (w.alloc (.cells #[t.c7, t.c8, t.c9, t.c11] e)) (w.alloc (.cells #[t.c7, t.c8, t.c9, t.c11] e)).heap.size ⟨h, 0, none⟩ T := by
  subst hh
  have hc := cells_new w [t.c7, t.c8, t.c9, t.c11] e
  have hr := ht.later (hb.alloc hb.size (.cells #[t.c7, t.c8, t.c9, t.c11] e))
  refine ⟨by simp, fun k c hk => ?_⟩
  have hk7 : k < 4 := (List.getElem?_eq_some_iff.1 hk).1
  have h7 : k = 0 ∨ k = 1 ∨ k = 2 ∨ k = 3 := by omega
  rcases h7 with rfl | rfl | rfl | rfl <;> cases hk
  · exact ⟨_, hc 0 _ rfl, hr.r7⟩
  · exact ⟨_, hc 1 _ rfl, hr.r8⟩
  · exact ⟨_, hc 2 _ rfl, hr.r9⟩
  · exact ⟨_, hc 3 _ rfl, hr.r11⟩
theorem lst_of_block {w0 w : World} {t : Tv} {T : Tab} {e : TypeId} (ht : TabR w0 w0.heap.size t T) (hb : Below w0.heap.size w0 w) {h : Nat} (hh : w.heap.size = h) :
    LstAt (w.alloc (.cells #[t.c0, t.c1, t.c2, t.c3, t.c4, t.c5, t.c6] e)) (w.alloc (.cells #[t.c0, t.c1, t.c2, t.c3, t.c4, t.c5, t.c6] e)).heap.size ⟨h, 0, none⟩ T := by
  subst hh
  have hc := cells_new w [t.c0, t.c1, t.c2, t.c3, t.c4, t.c5, t.c6] e
  have hr := ht.later (hb.alloc hb.size (.cells #[t.c0, t.c1, t.c2, t.c3, t.c4, t.c5, t.c6] e))
  refine ⟨by simp, fun k c hk => ?_⟩
  have hk7 : k < 7 := (List.getElem?_eq_some_iff.1 hk).1
  have h7 : k = 0 ∨ k = 1 ∨ k = 2 ∨ k = 3 ∨ k = 4 ∨ k = 5 ∨ k = 6 := by omega
  rcases h7 with rfl | rfl | rfl | rfl | rfl | rfl | rfl <;> cases hk
  · exact ⟨_, hc 0 _ rfl, hr.r0⟩
  · exact ⟨_, hc 1 _ rfl, hr.r1⟩
  · exact ⟨_, hc 2 _ rfl, hr.r2⟩
  · exact ⟨_, hc 3 _ rfl, hr.r3⟩
  · exact ⟨_, hc 4 _ rfl, hr.r4⟩
  · exact ⟨_, hc 5 _ rfl, hr.r5⟩
  · exact ⟨_, hc 6 _ rfl, hr.r6⟩
theorem LstAt.later {w w' : World} {ad : Addr} {T : Tab} (h : LstAt w w.heap.size ad T) (hb : Below w.heap.size w w') : LstAt w' w'.heap.size ad T :=
  ⟨Nat.lt_of_lt_of_le h.1 hb.size, fun k c hk => by
    obtain ⟨v, h1, h2⟩ := h.2 k c hk
    exact ⟨v, (hb.cell (p := ad.add k) (by rw [block_of_add]; exact h.1)).trans h1, h2.later hb⟩⟩
theorem mst_of_block (w : World) (e : TypeId) {h : Nat} (hh : w.heap.size = h) : MstAt (w.alloc (.cells #[.int .i64 8, .int .i64 254, .int .i64 5, .int .i64 11, .int .i64 60, .int .i64 4, .int .i64 1] e)) (w.alloc (.cells #[.int .i64 8, .int .i64 254, .int .i64 5, .int .i64 11, .int .i64 60, .int .i64 4, .int .i64 1] e)).heap.size ⟨h, 0, none⟩ := by
  subst hh
  refine ⟨by simp, fun k m hk => ?_⟩
  refine cells_new w (mostL.map (Value.int .i64)) e k _ ?_
  rw [List.getElem?_map, hk]; rfl

theorem TabR.shape {w : World} {B : Nat} {t : Tv} {T : Tab} (h : TabR w B t T) : ∃ (A0 A1 A2 A3 A4 A5 A6 A7 A8 A9 A10 A11 : Option Addr) (k0 k1 k2 k3 k4 k5 k6 k7 k8 k9 k10 k11 : Nat),
    t = ⟨.slice A0 T.category.length k0, .slice A1 T.cls.length k1, .slice A2 T.joining.length k2, .slice A3 T.bidi.length k3, .slice A4 T.script.length k4, .slice A5 T.status.length k5, .slice A6 T.ignorable.length k6,
      .slice A7 T.extensions.length k7, .slice A8 T.maps.length k8, .slice A9 T.decomps.length k9, .slice A10 T.excluded.length k10, .slice A11 T.prototypes.length k11⟩ := by
  obtain ⟨c0, c1, c2, c3, c4, c5, c6, c7, c8, c9, c10, c11⟩ := t
  obtain ⟨A0, k0, h0, _⟩ := h.r0
  obtain ⟨A1, k1, h1, _⟩ := h.r1
  obtain ⟨A2, k2, h2, _⟩ := h.r2
  obtain ⟨A3, k3, h3, _⟩ := h.r3
  obtain ⟨A4, k4, h4, _⟩ := h.r4
  obtain ⟨A5, k5, h5, _⟩ := h.r5
  obtain ⟨A6, k6, h6, _⟩ := h.r6
  obtain ⟨A7, k7, h7, _⟩ := h.r7
  obtain ⟨A8, k8, h8, _⟩ := h.r8
  obtain ⟨A9, k9, h9, _⟩ := h.r9
  obtain ⟨A10, k10, h10, _⟩ := h.r10
  obtain ⟨A11, k11, h11, _⟩ := h.r11
  simp only at h0 h1 h2 h3 h4 h5 h6 h7 h8 h9 h10 h11
  subst h0 h1 h2 h3 h4 h5 h6 h7 h8 h9 h10 h11
  exact ⟨A0, A1, A2, A3, A4, A5, A6, A7, A8, A9, A10, A11, k0, k1, k2, k3, k4, k5, k6, k7, k8, k9, k10, k11, rfl⟩

set_option maxRecDepth 100000 in
set_option maxHeartbeats 400000 in
theorem columns_any (t : Tv) (T : Tab) (w : World) (ht : TabR w w.heap.size t T) : Calls Tryd.prog 86 #[t.val] w (RetCols T w) := by
  obtain ⟨A0, A1, A2, A3, A4, A5, A6, A7, A8, A9, A10, A11, k0, k1, k2, k3, k4, k5, k6, k7, k8, k9, k10, k11, rfl⟩ := ht.shape
  have HT := Lib.hid ht; clear ht
  go_enter Tryd.func86, Tryd.ntmps86
  go_wp2_with fail
  go_ret
  refine ⟨_, rfl, cols_of_block HT.out ?_ (by simp), ?_⟩
  all_goals
    repeat (first | exact Below.refl _ _ | refine Below.setCell ?_ (by simp) _ | refine Below.alloc ?_ (by simp <;> omega) _)
set_option maxRecDepth 100000 in
set_option maxHeartbeats 400000 in
theorem mappings_any (t : Tv) (T : Tab) (w : World) (ht : TabR w w.heap.size t T) : Calls Tryd.prog 87 #[t.val] w (RetMps T w) := by
  obtain ⟨A0, A1, A2, A3, A4, A5, A6, A7, A8, A9, A10, A11, k0, k1, k2, k3, k4, k5, k6, k7, k8, k9, k10, k11, rfl⟩ := ht.shape
  have HT := Lib.hid ht; clear ht
  go_enter Tryd.func87, Tryd.ntmps87
  go_wp2_with fail
  go_ret
  refine ⟨_, rfl, mps_of_block HT.out ?_ (by simp), ?_⟩
  all_goals
    repeat (first | exact Below.refl _ _ | refine Below.setCell ?_ (by simp) _ | refine Below.alloc ?_ (by simp <;> omega) _)
set_option maxRecDepth 100000 in
set_option maxHeartbeats 400000 in
theorem refMappings_any (t : Tv) (T : Tab) (w : World) (ht : TabR w w.heap.size t T) : Calls Tryd.prog 111 #[t.val] w (RetMps T w) := by
  obtain ⟨A0, A1, A2, A3, A4, A5, A6, A7, A8, A9, A10, A11, k0, k1, k2, k3, k4, k5, k6, k7, k8, k9, k10, k11, rfl⟩ := ht.shape
  have HT := Lib.hid ht; clear ht
  go_enter Tryd.func111, Tryd.ntmps111
  go_wp2_with fail
  go_ret
  refine ⟨_, rfl, mps_of_block HT.out ?_ (by simp), ?_⟩
  all_goals
    repeat (first | exact Below.refl _ _ | refine Below.setCell ?_ (by simp) _ | refine Below.alloc ?_ (by simp <;> omega) _)
set_option maxRecDepth 100000 in
set_option maxHeartbeats 400000 in
theorem refSpans_any (t : Tv) (T : Tab) (w : World) (ht : TabR w w.heap.size t T) : Calls Tryd.prog 110 #[t.val] w (RetLst T w) := by
  obtain ⟨A0, A1, A2, A3, A4, A5, A6, A7, A8, A9, A10, A11, k0, k1, k2, k3, k4, k5, k6, k7, k8, k9, k10, k11, rfl⟩ := ht.shape
  have HT := Lib.hid ht; clear ht
  go_enter Tryd.func110, Tryd.ntmps110
  go_wp2_with fail
  go_ret2
  refine ⟨_, _, rfl, (lst_of_block HT.out ?_ (by simp)).later ((Below.refl _ _).alloc (Nat.le_refl _) _), mst_of_block _ _ (by simp), ?_⟩
  all_goals
    repeat (first | exact Below.refl _ _ | refine Below.setCell ?_ (by simp) _ | refine Below.alloc ?_ (by simp <;> omega) _)
end Go.Proofs.YtneinkpfhkojgaaDoor
/-
  The walks through table.rows and the reference's small: rule 1.
-/
namespace Go.Proofs.YtneinkpfhkojgaaDoor
open Go.RowKit ND

theorem Blk.tab {w : World} {g : Nat} {e : TypeId} {c0 c1 c2 c3 c4 c5 c6 c7 c8 c9 c10 c11 : Value} (h : Blk w g e #[c0, c1, c2, c3, c4, c5, c6, c7, c8, c9, c10, c11]) : w.cell? ⟨g, 0, none⟩ = some c0 ∧ w.cell? ⟨g, 1, none⟩ = some c1 ∧ w.cell? ⟨g, 2, none⟩ = some c2 ∧ w.cell? ⟨g, 3, none⟩ = some c3 ∧ w.cell? ⟨g, 4, none⟩ = some c4 ∧ w.cell? ⟨g, 5, none⟩ = some c5 ∧
    w.cell? ⟨g, 6, none⟩ = some c6 ∧ w.cell? ⟨g, 7, none⟩ = some c7 ∧ w.cell? ⟨g, 8, none⟩ = some c8 ∧ w.cell? ⟨g, 9, none⟩ = some c9 ∧ w.cell? ⟨g, 10, none⟩ = some c10 ∧ w.cell? ⟨g, 11, none⟩ = some c11 :=
  ⟨h.at_ rfl, h.at_ rfl, h.at_ rfl, h.at_ rfl, h.at_ rfl, h.at_ rfl, h.at_ rfl, h.at_ rfl, h.at_ rfl, h.at_ rfl, h.at_ rfl, h.at_ rfl⟩
/-- The step of a conjunction over a list. -/
theorem all_go {α : Type} {f : α → Bool} {xs : List α} {k : Nat} {x : α} {b R : Bool} (hx : xs[k]? = some x) (h : (b && (xs.drop k).all f) = R) {r : Bool} (hr : f x = r) : ((b && r) && (xs.drop (k + 1)).all f) = R := by
  rw [← h, drop_of_get hx, List.all_cons, hr, Bool.and_assoc]
theorem all_done {α : Type} {f : α → Bool} {xs : List α} {k : Nat} {b R : Bool} (hk : xs.length ≤ k) (h : (b && (xs.drop k).all f) = R) : b = R := by
  rw [List.drop_eq_nil_of_le hk] at h; simpa using h
/-- The step of a loop that leaves at the first one that fails. -/
theorem each_go {α : Type} {f : α → Bool} {xs : List α} {k : Nat} {x : α} {R : Bool} (hx : xs[k]? = some x) (h : (xs.drop k).all f = R) (hf : f x = true) : (xs.drop (k + 1)).all f = R := by
  rw [← h, drop_of_get hx, List.all_cons, hf, Bool.true_and]
theorem each_no {α : Type} {f : α → Bool} {xs : List α} {k : Nat} {x : α} {R : Bool} (hx : xs[k]? = some x) (h : (xs.drop k).all f = R) (hf : f x = false) : R = false := by
  rw [← h, drop_of_get hx, List.all_cons, hf, Bool.false_and]
theorem each_end {α : Type} {f : α → Bool} {xs : List α} {k : Nat} {R : Bool} (hk : xs.length ≤ k) (h : (xs.drop k).all f = R) : R = true := by
  rw [← h, List.drop_eq_nil_of_le hk]; rfl

theorem cast_le (n : Nat) : decide ((n : Int) ≤ 256) = decide (n ≤ 256) := by
  by_cases h : n ≤ 256
  · rw [decide_eq_true h, decide_eq_true (by omega)]
  · rw [decide_eq_false h, decide_eq_false (by omega)]
def lenC_ (c : List Sp × Int × Int) : Bool := decide ((c.1.length : Int) ≤ 256)
def lenM_ (c : List Mp) : Bool := decide ((c.length : Int) ≤ 256)
theorem rule1_cast (T : Tab) : T.rule1 = (decide ((T.excluded.length : Int) ≤ 256) && (T.cols.all lenC_ && T.mps.all lenM_)) := by
  have h1 : lenC_ = fun c : List Sp × Int × Int => decide (c.1.length ≤ 256) := funext fun c => cast_le _
  have h2 : lenM_ = fun c : List Mp => decide (c.length ≤ 256) := funext fun c => cast_le _
  rw [h1, h2, cast_le]; rfl

set_option maxRecDepth 100000 in
set_option maxHeartbeats 1000000 in
theorem rows_any (t : Tv) (T : Tab) (w : World) (ht : TabR w w.heap.size t T) :
    Calls Tryd.prog 68 #[t.val] w fun e w' => e = .returned (.bool T.rule1) ∧ Below w.heap.size w w' := by
  obtain ⟨A0, A1, A2, A3, A4, A5, A6, A7, A8, A9, A10, A11, k0, k1, k2, k3, k4, k5, k6, k7, k8, k9, k10, k11, rfl⟩ := ht.shape
  have HR := Lib.hid (fun o : Obj => ht.later ((Below.refl _ _).alloc (Nat.le_refl _) o))
  clear ht
  obtain ⟨R, hR⟩ : ∃ R, R = T.rule1 := ⟨_, rfl⟩
  rw [← hR]
  obtain ⟨R1, hR1⟩ : ∃ R1, R1 = (decide ((T.excluded.length : Int) ≤ 256) && T.cols.all lenC_) := ⟨_, rfl⟩
  have HR1 : Hid ((decide ((T.excluded.length : Int) ≤ 256) && (T.cols.drop 0).all lenC_) = R1) := Lib.hid hR1.symm
  have HRR : Hid ((R1 && (T.mps.drop 0).all lenM_) = R) := Lib.hid (by rw [hR, hR1, rule1_cast, Bool.and_assoc]; rfl)
  clear hR hR1
  go_enter Tryd.func68, Tryd.ntmps68
  go_wp2_with fail
  refine (columns_any _ T _ (HR.out _)).mono ?_
  rintro e w1 ⟨ad, rfl, hc, b1⟩
  have HC := Lib.hid hc.2
  have hca := hc.1
  have HB := Lib.hid ((Blk.new w 26 _).later b1)
  have HT := Lib.hid ((HR.out _).later b1)
  have hbel1 := below_next ((Below.refl _ _).alloc (Nat.le_refl _) _) b1
  clear hc b1 HR
  go_wp2_with fail
  go_loopw [3, 15] (fun o i wr => ∃ (k : Nat) (b : Bool), k ≤ 7 ∧ i = .int .i64 k ∧ o = .bool b ∧ Hid ((b && (T.cols.drop k).all lenC_) = R1) ∧ Below w1.heap.size w1 wr) (fun _ i _ => 7 - (intOf i).toNat)
  case atStart => exact ⟨0, _, by omega, rfl, rfl, HR1, Below.refl _ _⟩
  case round =>
    obtain ⟨k, b, hk, rfl, rfl, HS, hbel⟩ := hrel
    clear HR1
    by_cases hlt : k < 7
    · obtain ⟨⟨l, lo, hi⟩, hxk, _⟩ := get_el (xs := T.cols) (k := k) hlt
      obtain ⟨v, d0, d1, d2, A, c, rfl, _⟩ := HC.out k _ hxk
      simp only at d0 d1 d2
      obtain ⟨e0, e1, e2⟩ := span_cells hbel hca d0 d1 d2
      have HX := Lib.hid hxk
      clear d0 d1 d2 hxk
      have k0 : (0 : Int) ≤ (k : Int) := by omega
      have k1 : (k : Int) < (7 : Int) := by omega
      have HN := Lib.hid (all_go (r := decide ((l.length : Int) ≤ 256)) HX.out HS.out rfl)
      cases b
      all_goals
        go_wp2_with fail
        go_roundw
        case rel => exact ⟨k + 1, _, by omega, by go_num, rfl, HN, hbel.alloc hbel.size _⟩
        case measure => simp [intOf]; omega
    · have HN := Lib.hid (all_done (by show 7 ≤ k; omega) HS.out)
      obtain ⟨x0, x1, x2, x3, x4, x5, x6, x7, x8, x9, x10, x11⟩ := (HB.out.later hbel).tab
      have HT2 := Lib.hid (HT.out.later hbel)
      clear HT HB HC hca HS
      go_wp2_with fail
      refine (mappings_any _ T _ HT2.out).mono ?_
      rintro e w2 ⟨am, rfl, hm, b2⟩
      have HM := Lib.hid hm.2
      have hma := hm.1
      have hbel2 := below_next hbel1 (below_next hbel b2)
      clear hm HT2 hbel hbel1 b2 x0 x1 x2 x3 x4 x5 x6 x7 x8 x9 x10 x11
      have HRR2 : Hid ((b && (T.mps.drop 0).all lenM_) = R) := Lib.hid (by rw [HN.out]; exact HRR.out)
      clear HRR HN
      go_wp2_with fail
      go_loop [3, 30] (fun o i => ∃ (k : Nat) (b : Bool), k ≤ 4 ∧ i = .int .i64 k ∧ o = .bool b ∧ Hid ((b && (T.mps.drop k).all lenM_) = R)) (fun _ i => 4 - (intOf i).toNat)
      case atStart => exact ⟨0, _, by omega, rfl, rfl, HRR2⟩
      case round =>
        obtain ⟨k, b, hk, rfl, rfl, HS⟩ := hrel
        clear HRR2
        by_cases hlt : k < 4
        · obtain ⟨l, hxk, _⟩ := get_el (xs := T.mps) (k := k) hlt
          obtain ⟨v, d0, A, c, rfl, _⟩ := HM.out k _ hxk
          have HX := Lib.hid hxk
          clear hxk
          have k0 : (0 : Int) ≤ (k : Int) := by omega
          have k1 : (k : Int) < (4 : Int) := by omega
          have HN := Lib.hid (all_go (r := decide ((l.length : Int) ≤ 256)) HX.out HS.out rfl)
          cases b
          all_goals
            go_wp2_with fail
            go_round
            case rel => exact ⟨k + 1, _, by omega, by go_num, rfl, HN⟩
            case measure => simp [intOf]; omega
        · have HN := Lib.hid (all_done (by show 4 ≤ k; omega) HS.out)
          go_wp2_with fail
          go_ret
          rw [HN.out]
          exact ⟨rfl, hbel2⟩
end Go.Proofs.YtneinkpfhkojgaaDoor
/-
  The walk through sort.Search, over whatever closure.
-/
namespace Go.Proofs.YtneinkpfhkojgaaDoor
open Go.RowKit

/-- What a search hands back: the first place at which p holds. -/
def RetSearch (w : World) (n : Nat) (p : Nat → Bool) (e : Ending) (w' : World) : Prop :=
  ∃ k : Nat, e = .returned (.int .i64 k) ∧ k ≤ n ∧ (∀ i, i < k → p i = false) ∧ (k < n → p k = true) ∧ Below w.heap.size w w'
/-- A closure, called in whatever later world, says p. -/
def Says (P : Program) (w : World) (g : FuncId) (cb : Array Value) (n : Nat) (p : Nat → Bool) : Prop :=
  ∀ (W : World) (i : Nat), Below w.heap.size w W → i < n → Calls P g (#[.int .i64 i] ++ cb) W fun e W' => e = .returned (.bool (p i)) ∧ Below W.heap.size W W'

set_option maxRecDepth 100000 in
set_option maxHeartbeats 1000000 in
theorem search_any (g : Nat) (cb : Array Value) (n : Nat) (p : Nat → Bool) (w : World) (eg : ∀ args w, (callFunc g args).run Tryd.prog w = .ok (.enter g args) w) (hsz : n < 4611686018427387904)
    (hf : Says Tryd.prog w g cb n p) (hmono : ∀ a b, a ≤ b → b < n → p a = true → p b = true) :
    Calls Tryd.prog 79 #[.int .i64 n, .func (.func g) #[] cb] w (RetSearch w n p) := by
  have HF := Lib.hid hf
  have HM := Lib.hid hmono
  clear hf hmono
  go_enter Tryd.func79, Tryd.ntmps79
  go_wp2_with fail
  go_loopw [5, 6] (fun s5 s6 wr => ∃ (lo hi : Nat), s5 = .int .i64 lo ∧ s6 = .int .i64 hi ∧ lo ≤ hi ∧ hi ≤ n ∧ Below w.heap.size w wr ∧ Hid ((∀ t, t < lo → p t = false) ∧ (∀ t, hi ≤ t → t < n → p t = true))) (fun s5 s6 _ => (intOf s6).toNat - (intOf s5).toNat)
  case atStart => exact ⟨0, n, rfl, rfl, Nat.zero_le _, Nat.le_refl _, Below.refl _ _, Lib.hid ⟨fun t ht => absurd ht (Nat.not_lt_zero _), fun t h1 h2 => by omega⟩⟩
  case round =>
    obtain ⟨lo, hi, rfl, rfl, hlh, hin, hbel, HI⟩ := hrel
    by_cases hlt : lo < hi
    · have hc := HF.out wr ((lo + hi) / 2) hbel (by omega)
      rw [show (((lo + hi) / 2 : Nat) : Int) = ((lo : Int) + (hi : Int)) / 2 by omega] at hc
      cases hp : p ((lo + hi) / 2) <;> rw [hp] at hc
      · have HC := Lib.hid hc
        have HI2 : Hid ((∀ t, t < (lo + hi) / 2 + 1 → p t = false) ∧ (∀ t, hi ≤ t → t < n → p t = true)) := Lib.hid ⟨fun t ht => (by
            cases h : p t with
            | false => rfl
            | true => have := HM.out t ((lo + hi) / 2) (by omega) (by omega) h; rw [hp] at this; cases this), HI.out.2⟩
        clear hp hc HI
        go_wp2_with fail
        refine HC.out.mono ?_
        rintro e w1 ⟨rfl, b1⟩
        clear HC
        go_wp2_with fail
        have hbel2 := below_next hbel b1
        go_roundw
        case rel => exact ⟨(lo + hi) / 2 + 1, hi, by rw [show ((lo : Int) + (hi : Int)) / 2 + 1 = (((lo + hi) / 2 + 1 : Nat) : Int) by omega], rfl, by omega, hin, hbel2, HI2⟩
        case measure => simp [intOf]; omega
      · have HC := Lib.hid hc
        have HI2 : Hid ((∀ t, t < lo → p t = false) ∧ (∀ t, (lo + hi) / 2 ≤ t → t < n → p t = true)) := Lib.hid ⟨HI.out.1, fun t ht htn => HM.out ((lo + hi) / 2) t ht htn hp⟩
        clear hp hc HI
        go_wp2_with fail
        refine HC.out.mono ?_
        rintro e w1 ⟨rfl, b1⟩
        clear HC
        go_wp2_with fail
        have hbel2 := below_next hbel b1
        go_roundw
        case rel => exact ⟨lo, (lo + hi) / 2, rfl, by rw [show ((lo : Int) + (hi : Int)) / 2 = (((lo + hi) / 2 : Nat) : Int) by omega], by omega, by omega, hbel2, HI2⟩
        case measure => simp [intOf]; omega
    · obtain rfl : hi = lo := by omega
      go_wp2_with fail
      go_ret
      exact ⟨hi, rfl, hin, HI.out.1, fun h => HI.out.2 hi (Nat.le_refl _) h, hbel⟩
end Go.Proofs.YtneinkpfhkojgaaDoor
/-
  The walks through table.value and table.find: binary searches over lists in order.
-/
namespace Go.Proofs.YtneinkpfhkojgaaDoor
open Go.RowKit ND

/-- What the closure of value says of a place. -/
def pV (xs : List Sp) (c : Int) (i : Nat) : Bool := match xs[i]? with | some a => decide (c ≤ a.2.1) | none => true
theorem pV_some {xs : List Sp} {c : Int} {i : Nat} {a : Sp} (h : xs[i]? = some a) : pV xs c i = decide (c ≤ a.2.1) := by unfold pV; rw [h]
theorem pV_mono {xs : List Sp} {c lo hi : Int} (hs : okS lo hi (-1) xs = true) (a b : Nat) (hab : a ≤ b) (hb : b < xs.length) (h : pV xs c a = true) : pV xs c b = true := by
  rcases Nat.lt_or_ge a b with hlt | hge
  · have ha : xs[a]? = some (xs[a]'(by omega)) := List.getElem?_eq_getElem (by omega)
    have hb' : xs[b]? = some xs[b] := List.getElem?_eq_getElem hb
    rw [pV_some ha, decide_eq_true_eq] at h
    rw [pV_some hb', decide_eq_true_eq]
    have := okS_at hs hlt ha hb'
    have := okS_el hs hb'
    omega
  · obtain rfl : a = b := by omega
    exact h

theorem cell_new1 (W : World) (v : Value) (t : TypeId) : (W.alloc (.cells #[v] t)).cell? ⟨W.heap.size, 0, none⟩ = some v := by
  rw [cell_of_row _ _ _ _ _ _ (heap_alloc_new W _)]; rfl

set_option maxRecDepth 100000 in
set_option maxHeartbeats 400000 in
theorem valueClos (bl bc : Nat) (A : Option Addr) (cap : Nat) (xs : List Sp) (c : Int) (W : World) (i : Nat) (hi : i < xs.length) (hbl : W.cell? ⟨bl, 0, none⟩ = some (.slice A xs.length cap)) (hbc : W.cell? ⟨bc, 0, none⟩ = some (.int .i64 c)) (hv : Spans W W.heap.size (.slice A xs.length cap) xs) :
    Calls Tryd.prog 80 #[.int .i64 i, .pointer (some ⟨bl, 0, none⟩), .pointer (some ⟨bc, 0, none⟩)] W fun e W' => e = .returned (.bool (pV xs c i)) ∧ Below W.heap.size W W' := by
  obtain ⟨A', c', hA, _, _, _, hcell⟩ := hv
  cases hA
  obtain ⟨⟨f, t, x⟩, hxi, _⟩ := get_el hi
  obtain ⟨ad, rfl, ha, d0, d1, d2⟩ := hcell i _ hxi
  obtain ⟨e0, e1, e2⟩ := span_cells (Below.refl _ _) ha d0 d1 d2
  rw [pV_some hxi]
  simp only at e0 e1 e2 ⊢
  clear d0 d1 d2 hcell hxi e0 e2
  have k0 : (0 : Int) ≤ (i : Int) := by omega
  have k1 : (i : Int) < (xs.length : Int) := by omega
  go_enter Tryd.func80, Tryd.ntmps80
  go_wp2_with fail
  go_quiet (fail)
  go_wp2_with fail
  go_ret
  exact ⟨rfl, below_drewN (Below.refl _ _) nq⟩

set_option maxRecDepth 100000 in
set_option maxHeartbeats 1000000 in
theorem value_any (v : Value) (xs : List Sp) (c lo hi : Int) (w : World) (hv : Spans w w.heap.size v xs) (hs : okS lo hi (-1) xs = true) (hlen : xs.length ≤ 256) :
    Calls Tryd.prog 60 #[v, .int .i64 c] w fun e w' => e = .returned (.int .i64 (valueL xs c)) ∧ Below w.heap.size w w' := by
  have eg := enters_of Tryd.func80 (by kernel_rfl) rfl
  have HV := Lib.hid hv
  obtain ⟨A, cap, rfl, _, _, _, _⟩ := hv
  have hbw : Below w.heap.size w ((w.alloc (.cells #[.slice A xs.length cap] 23)).alloc (.cells #[.int .i64 c] 3)) := ((Below.refl _ _).alloc (Nat.le_refl _) _).alloc (by simp) _
  have hboxes : ∀ W, Below ((w.alloc (.cells #[.slice A xs.length cap] 23)).alloc (.cells #[.int .i64 c] 3)).heap.size ((w.alloc (.cells #[.slice A xs.length cap] 23)).alloc (.cells #[.int .i64 c] 3)) W →
      W.cell? ⟨w.heap.size, 0, none⟩ = some (.slice A xs.length cap) ∧ W.cell? ⟨w.heap.size + 1, 0, none⟩ = some (.int .i64 c) := by
    intro W hb
    have hsz : (w.alloc (.cells #[.slice A xs.length cap] 23)).heap.size = w.heap.size + 1 := by simp
    have h1 := cell_new1 w (.slice A xs.length cap) 23
    have h2 := cell_new1 (w.alloc (.cells #[.slice A xs.length cap] 23)) (.int .i64 c) 3
    rw [hsz] at h2
    have h1' := (World.cell?_alloc_lt (w.alloc (.cells #[.slice A xs.length cap] 23)) (.cells #[.int .i64 c] 3) ⟨w.heap.size, 0, none⟩ (by simp)).trans h1
    exact ⟨(hb.cell (p := ⟨w.heap.size, 0, none⟩) (by simp; omega)).trans h1', (hb.cell (p := ⟨w.heap.size + 1, 0, none⟩) (by simp)).trans h2⟩
  have HB := Lib.hid hboxes
  have HBW := Lib.hid hbw
  clear hboxes hbw
  have HSR := Lib.hid (search_any 80 #[.pointer (some ⟨w.heap.size, 0, none⟩), .pointer (some ⟨w.heap.size + 1, 0, none⟩)] xs.length (pV xs c) ((w.alloc (.cells #[.slice A xs.length cap] 23)).alloc (.cells #[.int .i64 c] 3)) eg (by omega) (by
    intro W i hb hi
    exact valueClos _ _ A cap xs c W i hi (HB.out W hb).1 (HB.out W hb).2 ((HV.out.later HBW.out).later hb)) (pV_mono hs))
  go_enter Tryd.func60, Tryd.ntmps60
  go_wp2_with fail
  refine HSR.out.mono ?_
  rintro e w2 ⟨k, rfl, hk, hlow, hhigh, b2⟩
  obtain ⟨q0, q1⟩ := HB.out w2 b2
  have hv2 := (HV.out.later HBW.out).later b2
  have hbel := HBW.out.trans (b2.mono HBW.out.size)
  have HL : Hid (∀ i a, i < k → xs[i]? = some a → a.2.1 < c) := Lib.hid (fun i a hi ha => by
    have := hlow i hi
    rw [pV_some ha, decide_eq_false_iff_not] at this
    omega)
  clear HSR HB HBW HV b2 hlow eg
  by_cases hkn : k < xs.length
  · obtain ⟨⟨f, t, x⟩, hxk, _⟩ := get_el hkn
    have hct := hhigh hkn
    rw [pV_some hxk, decide_eq_true_eq] at hct
    obtain ⟨A', c', hA, _, _, _, hcell⟩ := hv2
    cases hA
    obtain ⟨ad, rfl, ha, d0, d1, d2⟩ := hcell k _ hxk
    obtain ⟨e0, e1, e2⟩ := span_cells (Below.refl _ w2) ha d0 d1 d2
    simp only at e0 e1 e2 hct
    have HX := Lib.hid hxk
    clear d0 d1 d2 hcell hxk hhigh e1
    have k0 : (0 : Int) ≤ (k : Int) := by omega
    have k1 : (k : Int) < (xs.length : Int) := by omega
    have hb0 : ((k : Int) == (xs.length : Int)) = false := by rw [beq_eq_false_iff_ne]; omega
    by_cases hfc : f ≤ c
    · have hd : decide (c < f) = false := by rw [decide_eq_false_iff_not]; omega
      have HR := Lib.hid (valueL_at HL.out HX.out hfc hct)
      clear hfc hct
      go_wp2_with fail
      go_quiet (fail)
      go_wp2_with fail
      go_ret
      rw [HR.out]
      exact ⟨rfl, below_drewN hbel nq⟩
    · have hd : decide (c < f) = true := by rw [decide_eq_true_iff]; omega
      have HR := Lib.hid (valueL_miss hs HL.out (fun a ha => by rw [HX.out] at ha; cases ha; simp only; omega))
      clear hfc hct
      go_wp2_with fail
      go_quiet (fail)
      go_wp2_with fail
      go_ret
      rw [HR.out]
      exact ⟨rfl, below_drewN hbel nq⟩
  · have hb0 : ((k : Int) == (xs.length : Int)) = true := by rw [beq_iff_eq]; omega
    have HR := Lib.hid (valueL_miss hs HL.out (fun a ha => by have := (List.getElem?_eq_some_iff.1 ha).1; omega))
    clear hhigh hv2
    go_wp2_with fail
    go_quiet (fail)
    go_wp2_with fail
    go_ret
    rw [HR.out]
    exact ⟨rfl, below_drewN hbel nq⟩
end Go.Proofs.YtneinkpfhkojgaaDoor
/-
  The walks through table.find and sort.SearchInts: binary searches over lists in order.
-/
namespace Go.Proofs.YtneinkpfhkojgaaDoor
open Go.RowKit ND

/-- What the closure of find says of a place. -/
def pF (xs : List Mp) (c : Int) (i : Nat) : Bool := match xs[i]? with | some a => decide (c ≤ a.1) | none => true
theorem pF_some {xs : List Mp} {c : Int} {i : Nat} {a : Mp} (h : xs[i]? = some a) : pF xs c i = decide (c ≤ a.1) := by unfold pF; rw [h]
theorem pF_mono {xs : List Mp} {c : Int} (hs : sortM xs) (a b : Nat) (hab : a ≤ b) (hb : b < xs.length) (h : pF xs c a = true) : pF xs c b = true := by
  rcases Nat.lt_or_ge a b with hlt | hge
  · have ha : xs[a]? = some (xs[a]'(by omega)) := List.getElem?_eq_getElem (by omega)
    have hb' : xs[b]? = some xs[b] := List.getElem?_eq_getElem hb
    rw [pF_some ha, decide_eq_true_eq] at h
    rw [pF_some hb', decide_eq_true_eq]
    have := hs a b _ _ hlt ha hb'
    omega
  · obtain rfl : a = b := by omega
    exact h
/-- A sequence comes back: nil, if it is empty. -/
def RetSeq (w : World) (ys : List Int) (e : Ending) (w' : World) : Prop :=
  ∃ v, e = .returned v ∧ Ints w' w'.heap.size .i64 v ys ∧ (ys = [] → v = .slice none 0 0) ∧ Below w.heap.size w w'

set_option maxRecDepth 100000 in
set_option maxHeartbeats 400000 in
theorem findClos (bl bc : Nat) (A : Option Addr) (cap : Nat) (xs : List Mp) (c : Int) (W : World) (i : Nat) (hi : i < xs.length) (hbl : W.cell? ⟨bl, 0, none⟩ = some (.slice A xs.length cap)) (hbc : W.cell? ⟨bc, 0, none⟩ = some (.int .i64 c)) (hv : Mapps W W.heap.size (.slice A xs.length cap) xs) :
    Calls Tryd.prog 83 #[.int .i64 i, .pointer (some ⟨bl, 0, none⟩), .pointer (some ⟨bc, 0, none⟩)] W fun e W' => e = .returned (.bool (pF xs c i)) ∧ Below W.heap.size W W' := by
  obtain ⟨A', c', hA, _, _, _, hcell⟩ := hv
  cases hA
  obtain ⟨⟨f, ys⟩, hxi, _⟩ := get_el hi
  obtain ⟨ad, sv, rfl, ha, d0, d1, _⟩ := hcell i _ hxi
  obtain ⟨e0, e1⟩ := map_cells (Below.refl _ _) ha d0 d1
  rw [pF_some hxi]
  simp only at e0 e1 ⊢
  clear d0 d1 hcell hxi e1
  have k0 : (0 : Int) ≤ (i : Int) := by omega
  have k1 : (i : Int) < (xs.length : Int) := by omega
  go_enter Tryd.func83, Tryd.ntmps83
  go_wp2_with fail
  go_quiet (fail)
  go_wp2_with fail
  go_ret
  exact ⟨rfl, below_drewN (Below.refl _ _) nq⟩

set_option maxRecDepth 100000 in
set_option maxHeartbeats 1000000 in
theorem find_any (v : Value) (xs : List Mp) (c : Int) (w : World) (hv : Mapps w w.heap.size v xs) (hs : sortM xs) (hne : ∀ m ∈ xs, m.2 ≠ []) (hlen : xs.length ≤ 256) :
    Calls Tryd.prog 64 #[v, .int .i64 c] w (RetSeq w (findL xs c)) := by
  have eg := enters_of Tryd.func83 (by kernel_rfl) rfl
  have HV := Lib.hid hv
  obtain ⟨A, cap, rfl, _, _, _, _⟩ := hv
  have hbw : Below w.heap.size w ((w.alloc (.cells #[.slice A xs.length cap] 24)).alloc (.cells #[.int .i64 c] 3)) := ((Below.refl _ _).alloc (Nat.le_refl _) _).alloc (by simp) _
  have hboxes : ∀ W, Below ((w.alloc (.cells #[.slice A xs.length cap] 24)).alloc (.cells #[.int .i64 c] 3)).heap.size ((w.alloc (.cells #[.slice A xs.length cap] 24)).alloc (.cells #[.int .i64 c] 3)) W →
      W.cell? ⟨w.heap.size, 0, none⟩ = some (.slice A xs.length cap) ∧ W.cell? ⟨w.heap.size + 1, 0, none⟩ = some (.int .i64 c) := by
    intro W hb
    have hsz : (w.alloc (.cells #[.slice A xs.length cap] 24)).heap.size = w.heap.size + 1 := by simp
    have h1 := cell_new1 w (.slice A xs.length cap) 24
    have h2 := cell_new1 (w.alloc (.cells #[.slice A xs.length cap] 24)) (.int .i64 c) 3
    rw [hsz] at h2
    have h1' := (World.cell?_alloc_lt (w.alloc (.cells #[.slice A xs.length cap] 24)) (.cells #[.int .i64 c] 3) ⟨w.heap.size, 0, none⟩ (by simp)).trans h1
    exact ⟨(hb.cell (p := ⟨w.heap.size, 0, none⟩) (by simp; omega)).trans h1', (hb.cell (p := ⟨w.heap.size + 1, 0, none⟩) (by simp)).trans h2⟩
  have HB := Lib.hid hboxes
  have HBW := Lib.hid hbw
  clear hboxes hbw
  have HSR := Lib.hid (search_any 83 #[.pointer (some ⟨w.heap.size, 0, none⟩), .pointer (some ⟨w.heap.size + 1, 0, none⟩)] xs.length (pF xs c) ((w.alloc (.cells #[.slice A xs.length cap] 24)).alloc (.cells #[.int .i64 c] 3)) eg (by omega) (by
    intro W i hb hi
    exact findClos _ _ A cap xs c W i hi (HB.out W hb).1 (HB.out W hb).2 ((HV.out.later HBW.out).later hb)) (pF_mono hs))
  go_enter Tryd.func64, Tryd.ntmps64
  go_wp2_with fail
  refine HSR.out.mono ?_
  rintro e w2 ⟨k, rfl, hk, hlow, hhigh, b2⟩
  obtain ⟨q0, q1⟩ := HB.out w2 b2
  have hv2 := (HV.out.later HBW.out).later b2
  have hbel := HBW.out.trans (b2.mono HBW.out.size)
  have HL : Hid (∀ i a, i < k → xs[i]? = some a → a.1 < c) := Lib.hid (fun i a hi ha => by
    have := hlow i hi
    rw [pF_some ha, decide_eq_false_iff_not] at this
    omega)
  clear HSR HB HBW HV b2 hlow eg
  have HS := Lib.hid hs
  clear hs
  by_cases hkn : k < xs.length
  · obtain ⟨⟨f, ys⟩, hxk, hxm⟩ := get_el hkn
    have hct := hhigh hkn
    rw [pF_some hxk, decide_eq_true_eq] at hct
    have hysne := hne _ hxm
    obtain ⟨A', c', hA, _, _, _, hcell⟩ := hv2
    cases hA
    obtain ⟨ad, sv, rfl, ha, d0, d1, hsv⟩ := hcell k _ hxk
    obtain ⟨e0, e1⟩ := map_cells (Below.refl _ w2) ha d0 d1
    simp only at e0 e1 hct hysne hsv
    have HX := Lib.hid hxk
    have HSV := Lib.hid hsv
    have HNE := Lib.hid hysne
    clear d0 d1 hcell hxk hhigh hne hxm hysne hsv
    have k0 : (0 : Int) ≤ (k : Int) := by omega
    have k1 : (k : Int) < (xs.length : Int) := by omega
    have hb0 : ((k : Int) == (xs.length : Int)) = false := by rw [beq_eq_false_iff_ne]; omega
    by_cases hfc : f = c
    · have hd : (f != c) = false := by rw [hfc]; simp
      have HR := Lib.hid (findL_at HL.out HX.out hfc)
      clear hfc hct
      go_wp2_with fail
      go_quiet (fail)
      go_wp2_with fail
      go_ret
      rw [HR.out]
      exact ⟨_, rfl, (HSV.out.below (below_drewN (Below.refl _ w2) nq)).more (Nat.le_refl _), fun h => absurd h HNE.out, below_drewN hbel nq⟩
    · have hd : (f != c) = true := by rw [bne_iff_ne]; exact hfc
      have HR := Lib.hid (findL_miss HS.out HL.out (fun a ha => by rw [HX.out] at ha; cases ha; simp only; omega))
      clear hfc hct
      go_wp2_with fail
      go_quiet (fail)
      go_wp2_with fail
      go_ret
      rw [HR.out]
      exact ⟨_, rfl, Ints.none_, fun _ => rfl, below_drewN hbel nq⟩
  · have hb0 : ((k : Int) == (xs.length : Int)) = true := by rw [beq_iff_eq]; omega
    have HR := Lib.hid (findL_miss HS.out HL.out (fun a ha => by have := (List.getElem?_eq_some_iff.1 ha).1; omega))
    clear hhigh hv2
    go_wp2_with fail
    go_quiet (fail)
    go_wp2_with fail
    go_ret
    rw [HR.out]
    exact ⟨_, rfl, Ints.none_, fun _ => rfl, below_drewN hbel nq⟩
end Go.Proofs.YtneinkpfhkojgaaDoor
/-
  The walks through the small functions on code points, of table and of its reference.
-/
namespace Go.Proofs.YtneinkpfhkojgaaDoor
open Go.RowKit ND

set_option maxHeartbeats 400000 in
theorem syl_any (c : Int) (w : World) : Calls Tryd.prog 93 #[.int .i64 c] w fun e w' => e = .returned (.bool (sylB c)) ∧ w = w' := by
  go_enter Tryd.func93, Tryd.ntmps93
  go_wp2
  all_goals go_ret
  all_goals refine ⟨ret_bool (bool_eq ?_), rfl⟩
  all_goals rw [sylB_iff]
  all_goals simp
  all_goals omega
set_option maxHeartbeats 400000 in
theorem jamo_any (c : Int) (w : World) : Calls Tryd.prog 94 #[.int .i64 c] w fun e w' => e = .returned (.bool (jamoB c)) ∧ w = w' := by
  go_enter Tryd.func94, Tryd.ntmps94
  go_wp2
  all_goals go_ret
  all_goals refine ⟨ret_bool (bool_eq ?_), rfl⟩
  all_goals rw [jamoB_iff]
  all_goals simp
  all_goals omega
set_option maxHeartbeats 400000 in
theorem sur_any (c : Int) (w : World) : Calls Tryd.prog 98 #[.int .i64 c] w fun e w' => e = .returned (.bool (surB c)) ∧ w = w' := by
  go_enter Tryd.func98, Tryd.ntmps98
  go_wp2
  all_goals go_ret
  all_goals refine ⟨ret_bool (bool_eq ?_), rfl⟩
  all_goals rw [surB_iff]
  all_goals simp
  all_goals omega
set_option maxHeartbeats 400000 in
theorem name_any (c : Int) (w : World) : Calls Tryd.prog 91 #[.int .i64 c] w fun e w' => e = .returned (.bool (nameB c)) ∧ w = w' := by
  go_enter Tryd.func91, Tryd.ntmps91
  go_wp2
  all_goals go_ret
  all_goals refine ⟨ret_bool (bool_eq ?_), rfl⟩
  all_goals rw [nameB_iff]
  all_goals simp
  all_goals omega
set_option maxHeartbeats 400000 in
theorem refSyl_any (c : Int) (w : World) : Calls Tryd.prog 50 #[.int .i64 c] w fun e w' => e = .returned (.bool (sylB c)) ∧ w = w' := by
  go_enter Tryd.func50, Tryd.ntmps50
  go_wp2
  all_goals go_ret
  all_goals refine ⟨ret_bool (bool_eq ?_), rfl⟩
  all_goals rw [sylB_iff]
  all_goals simp
  all_goals omega
set_option maxHeartbeats 400000 in
theorem refJamo_any (c : Int) (w : World) : Calls Tryd.prog 115 #[.int .i64 c] w fun e w' => e = .returned (.bool (jamoB c)) ∧ w = w' := by
  go_enter Tryd.func115, Tryd.ntmps115
  go_wp2
  all_goals go_ret
  all_goals refine ⟨ret_bool (bool_eq ?_), rfl⟩
  all_goals rw [jamoB_iff]
  all_goals simp
  all_goals omega
set_option maxHeartbeats 400000 in
theorem latin_any (c : Int) (w : World) : Calls Tryd.prog 49 #[.int .i64 c] w fun e w' => e = .returned (.bool (nameB c)) ∧ w = w' := by
  go_enter Tryd.func49, Tryd.ntmps49
  go_wp2
  all_goals go_ret
  all_goals refine ⟨ret_bool (bool_eq ?_), rfl⟩
  all_goals rw [nameB_iff]
  all_goals simp
  all_goals omega

theorem resB_parts {c : Int} {a b d : Bool} (h1 : surB c = a) (h2 : sylB c = b) (h3 : jamoB c = d) : resB c = (decide (0 ≤ c ∧ c ≤ 127) || a || b || d) := by
  subst h1 h2 h3
  rw [Bool.eq_iff_iff, resB_iff]
  simp only [Bool.or_eq_true, decide_eq_true_eq, surB_iff, sylB_iff, jamoB_iff]
  omega

set_option maxHeartbeats 400000 in
theorem reserved_any (c : Int) (w : World) : Calls Tryd.prog 81 #[.int .i64 c] w fun e w' => e = .returned (.bool (resB c)) ∧ w = w' := by
  have h1 := Lib.hid (fun W => sur_any c W)
  have h2 := Lib.hid (fun W => syl_any c W)
  have h3 := Lib.hid (fun W => jamo_any c W)
  rw [resB_parts rfl rfl rfl]
  generalize surB c = b1 at *
  generalize sylB c = b2 at *
  generalize jamoB c = b3 at *
  rcases show (0 ≤ c ∧ c ≤ 127) ∨ ((c < 0 ∨ 127 < c) ∧ ¬(0 ≤ c ∧ c ≤ 127)) by omega with h | ⟨h, h'⟩
  · have hd : decide (0 ≤ c ∧ c ≤ 127) = true := decide_eq_true h
    rw [hd]
    obtain ⟨y0, y1⟩ := h
    go_enter Tryd.func81, Tryd.ntmps81
    go_wp2_with fail
    go_ret
    exact ⟨by simp, rfl⟩
  · have hd : decide (0 ≤ c ∧ c ≤ 127) = false := decide_eq_false h'
    rw [hd]
    clear h' hd
    rcases h with h | h
    all_goals
      cases b1
      · cases b2
        · go_enter Tryd.func81, Tryd.ntmps81
          go_wp2_with fail
          refine (h1.out _).mono ?_
          rintro e w' ⟨rfl, rfl⟩
          go_wp2_with fail
          refine (h2.out _).mono ?_
          rintro e w' ⟨rfl, rfl⟩
          go_wp2_with fail
          refine (h3.out _).mono ?_
          rintro e w' ⟨rfl, rfl⟩
          go_wp2_with fail
          go_ret
          exact ⟨by simp; try (intro h; omega), rfl⟩
        · go_enter Tryd.func81, Tryd.ntmps81
          go_wp2_with fail
          refine (h1.out _).mono ?_
          rintro e w' ⟨rfl, rfl⟩
          go_wp2_with fail
          refine (h2.out _).mono ?_
          rintro e w' ⟨rfl, rfl⟩
          go_wp2_with fail
          go_ret
          exact ⟨by simp, rfl⟩
      · go_enter Tryd.func81, Tryd.ntmps81
        go_wp2_with fail
        refine (h1.out _).mono ?_
        rintro e w' ⟨rfl, rfl⟩
        go_wp2_with fail
        go_ret
        exact ⟨by simp, rfl⟩

set_option maxHeartbeats 400000 in
theorem refReserved_any (c : Int) (w : World) : Calls Tryd.prog 114 #[.int .i64 c] w fun e w' => e = .returned (.bool (resB c)) ∧ w = w' := by
  have h2 := Lib.hid (fun W => refSyl_any c W)
  have h3 := Lib.hid (fun W => refJamo_any c W)
  rw [resB_parts rfl rfl rfl]
  generalize hb1 : surB c = b1
  generalize sylB c = b2 at *
  generalize jamoB c = b3 at *
  have hs : (b1 = true ∧ 55296 ≤ c ∧ c ≤ 57343) ∨ (b1 = false ∧ (c < 55296 ∨ 57343 < c)) := by
    subst hb1
    unfold surB
    by_cases h : 55296 ≤ c ∧ c ≤ 57343
    · exact .inl ⟨decide_eq_true h, h⟩
    · exact .inr ⟨decide_eq_false h, by omega⟩
  clear hb1
  rcases show (0 ≤ c ∧ c ≤ 127) ∨ ((c < 0 ∨ 127 < c) ∧ ¬(0 ≤ c ∧ c ≤ 127)) by omega with h | ⟨h, h'⟩
  · have hd : decide (0 ≤ c ∧ c ≤ 127) = true := decide_eq_true h
    rw [hd]
    obtain ⟨y0, y1⟩ := h
    go_enter Tryd.func114, Tryd.ntmps114
    go_wp2_with fail
    go_ret
    exact ⟨by simp, rfl⟩
  · have hd : decide (0 ≤ c ∧ c ≤ 127) = false := decide_eq_false h'
    rw [hd]
    clear h' hd
    rcases hs with ⟨rfl, y0, y1⟩ | ⟨rfl, hs⟩
    · have h1 : 127 < c := by omega
      clear h
      go_enter Tryd.func114, Tryd.ntmps114
      go_wp2_with fail
      go_ret
      exact ⟨by simp; try omega, rfl⟩
    · have hw : c < 0 ∨ (127 < c ∧ c < 55296) ∨ 57343 < c := by omega
      clear h hs
      rcases hw with h | ⟨h, hs⟩ | h
      all_goals
        cases b2
        · go_enter Tryd.func114, Tryd.ntmps114
          go_wp2_with fail
          refine (h2.out _).mono ?_
          rintro e w' ⟨rfl, rfl⟩
          go_wp2_with fail
          refine (h3.out _).mono ?_
          rintro e w' ⟨rfl, rfl⟩
          go_wp2_with fail
          go_ret
          exact ⟨by simp; try omega, rfl⟩
        · go_enter Tryd.func114, Tryd.ntmps114
          go_wp2_with fail
          refine (h2.out _).mono ?_
          rintro e w' ⟨rfl, rfl⟩
          go_wp2_with fail
          go_ret
          exact ⟨by simp; try omega, rfl⟩

/-- What a key may be behind another one. -/
def pointB (last c : Int) : Bool := decide (last < c ∧ c ≤ 1114111) && !resB c
set_option maxHeartbeats 400000 in
theorem point_any (last c : Int) (w : World) : Calls Tryd.prog 90 #[.int .i64 last, .int .i64 c] w fun e w' => e = .returned (.bool (pointB last c)) ∧ w = w' := by
  have h1 := Lib.hid (fun W => reserved_any c W)
  unfold pointB
  generalize resB c = b1 at *
  rcases show (last < c ∧ c ≤ 1114111) ∨ (c ≤ last ∧ ¬(last < c ∧ c ≤ 1114111)) ∨ (last < c ∧ 1114111 < c ∧ ¬(last < c ∧ c ≤ 1114111)) by omega with h | ⟨h, h'⟩ | ⟨h, h0, h'⟩
  · have hd : decide (last < c ∧ c ≤ 1114111) = true := decide_eq_true h
    rw [hd]
    clear hd
    obtain ⟨y0, y1⟩ := h
    go_enter Tryd.func90, Tryd.ntmps90
    go_wp2_with fail
    refine (h1.out _).mono ?_
    rintro e w' ⟨rfl, rfl⟩
    go_wp2_with fail
    go_ret
    exact ⟨by simp, rfl⟩
  · have hd : decide (last < c ∧ c ≤ 1114111) = false := decide_eq_false h'
    rw [hd]
    clear hd h'
    go_enter Tryd.func90, Tryd.ntmps90
    go_wp2_with fail
    go_ret
    exact ⟨by simp, rfl⟩
  · have hd : decide (last < c ∧ c ≤ 1114111) = false := decide_eq_false h'
    rw [hd]
    clear hd h'
    go_enter Tryd.func90, Tryd.ntmps90
    go_wp2_with fail
    go_ret
    exact ⟨by simp, rfl⟩
end Go.Proofs.YtneinkpfhkojgaaDoor
/-
  Contracts as a region that draws its order asks for them, where callees make memory and hand back plain values.
-/
namespace Go.Proofs.YtneinkpfhkojgaaDoor
open Go.RowKit

theorem quiet_b {P : Program} {f : FuncId} {args : Array Value} {w : World} {d : Nat} {os : Array Obj} {v : Value} (h : ∀ W, Calls P f args W fun e w' => e = .returned v ∧ Below W.heap.size W w') :
    Calls P f args (Go.Sort.grow (redrawn w d) os) fun e w'' => e = .returned v ∧ ∃ p : Regrown, w'' = Go.Sort.grow (redrawn w p.d) p.os := Calls.regrown_of (h _)
theorem quiet_s {P : Program} {f : FuncId} {args : Array Value} {w : World} {d : Nat} {os : Array Obj} {v : Value} (h : ∀ W, Calls P f args W fun e w' => e = .returned v ∧ W = w') :
    Calls P f args (Go.Sort.grow (redrawn w d) os) fun e w'' => e = .returned v ∧ ∃ p : Regrown, w'' = Go.Sort.grow (redrawn w p.d) p.os :=
  (h _).mono fun _ _ ⟨he, hw⟩ => ⟨he, ⟨⟨d, os⟩, hw.symm⟩⟩
end Go.Proofs.YtneinkpfhkojgaaDoor
/-
  The walks through utf.scalar and utf.Length.
-/
namespace Go.Proofs.YtneinkpfhkojgaaDoor
open Go.RowKit ND

set_option maxHeartbeats 400000 in
theorem scalar_any (c : Int) (w : World) : Calls Tryd.prog 78 #[.int .i64 c] w fun e w' => e = .returned (.bool (scalarB c)) ∧ w = w' := by
  go_enter Tryd.func78, Tryd.ntmps78
  go_wp2
  all_goals go_ret
  all_goals refine ⟨ret_bool (bool_eq ?_), rfl⟩
  all_goals rw [scalarB_iff]
  all_goals simp
  all_goals omega
theorem lenC_no {c : Int} (h : scalarB c = false) : lenC c = 0 := by unfold lenC; rw [h]; rfl
theorem lenC_yes {c : Int} (h : scalarB c = true) : lenC c = if c ≤ 127 then 1 else if c ≤ 2047 then 2 else if c ≤ 65535 then 3 else 4 := by unfold lenC; rw [if_pos h]
set_option maxHeartbeats 400000 in
theorem length_any (c : Int) (w : World) : Calls Tryd.prog 59 #[.int .i64 c] w fun e w' => e = .returned (.int .i64 (lenC c : Int)) ∧ w = w' := by
  cases h : scalarB c
  · have hc := Lib.hid (fun w => scalar_any c w)
    rw [h] at hc
    rw [lenC_no h]
    clear h
    go_enter Tryd.func59, Tryd.ntmps59
    go_wp2_with (go_at_call 78; refine (hc.out _).mono ?_; rintro e w' ⟨rfl, rfl⟩)
    go_ret
    exact ⟨rfl, rfl⟩
  · have hc := Lib.hid (fun w => scalar_any c w)
    rw [h] at hc
    rw [lenC_yes h]
    clear h
    go_enter Tryd.func59, Tryd.ntmps59
    go_wp2_with (go_at_call 78; refine (hc.out _).mono ?_; rintro e w' ⟨rfl, rfl⟩)
    all_goals go_ret
    all_goals refine ⟨ret_int ?_, rfl⟩
    all_goals (repeat (first | rfl | rw [if_pos (by omega)] | rw [if_neg (by omega)]))
end Go.Proofs.YtneinkpfhkojgaaDoor
/-
  The walks through table.fixed, table.pick and the properties of a code point.
-/
namespace Go.Proofs.YtneinkpfhkojgaaDoor
open Go.RowKit ND

def fixV (q : Int × Int × Int × Int) : Value := .agg #[.int .i64 q.1, .int .i64 q.2.1, .int .i64 q.2.2.1, .int .i64 q.2.2.2]

/-- The ways through fixed at a reserved code point. -/
theorem fix_ways (c : Int) (h : resB c = true) :
    (97 ≤ c ∧ c ≤ 122 ∧ fixC c = (1, 0, 3, 1)) ∨ (65 ≤ c ∧ c ≤ 90 ∧ fixC c = (1, 0, 3, 3)) ∨ (48 ≤ c ∧ c ≤ 57 ∧ fixC c = (3, 4, 1, 1)) ∨ (c = 45 ∧ fixC c = (5, 5, 1, 1)) ∨ (c = 46 ∧ fixC c = (5, 6, 1, 1)) ∨ (c = 32 ∧ fixC c = (7, 11, 1, 0)) ∨
    (0 ≤ c ∧ c < 32 ∧ fixC c = (8, 11, 1, 0)) ∨ (c = 127 ∧ fixC c = (8, 11, 1, 0)) ∨
    (c < 127 ∧ 32 < c ∧ (c == 45) = false ∧ (c == 46) = false ∧ (c < 48 ∨ 57 < c ∧ c < 65 ∨ 90 < c ∧ c < 97 ∨ 122 < c) ∧ fixC c = (5, 8, 1, 0)) ∨
    (44032 ≤ c ∧ sylB c = true ∧ fixC c = (1, 0, 9, 1)) ∨ (128 ≤ c ∧ sylB c = false ∧ jamoB c = true ∧ fixC c = (1, 0, 9, 0)) ∨ (55296 ≤ c ∧ sylB c = false ∧ jamoB c = false ∧ fixC c = (0, 0, 0, 0)) := by
  have h' := (resB_iff c).1 h
  have e1 : (sylB c = true ↔ 44032 ≤ c ∧ c ≤ 55203) := sylB_iff c
  have e2 := jamoB_iff c
  have e1' : sylB c = false ↔ ¬(44032 ≤ c ∧ c ≤ 55203) := by rw [← e1]; simp
  have e2' : jamoB c = false ↔ ¬(4352 ≤ c ∧ c ≤ 4370 ∨ 4449 ≤ c ∧ c ≤ 4469 ∨ 4520 ≤ c ∧ c ≤ 4546) := by rw [← e2]; simp
  rw [e1, e1', e2, e2', beq_eq_false_iff_ne, beq_eq_false_iff_ne]
  unfold fixC
  by_cases a1 : 97 ≤ c ∧ c ≤ 122
  · exact .inl ⟨a1.1, a1.2, if_pos a1⟩
  rw [if_neg a1]
  by_cases a2 : 65 ≤ c ∧ c ≤ 90
  · exact .inr (.inl ⟨a2.1, a2.2, if_pos a2⟩)
  rw [if_neg a2]
  by_cases a3 : 48 ≤ c ∧ c ≤ 57
  · exact .inr (.inr (.inl ⟨a3.1, a3.2, if_pos a3⟩))
  rw [if_neg a3]
  by_cases a4 : c = 45
  · exact .inr (.inr (.inr (.inl ⟨a4, if_pos a4⟩)))
  rw [if_neg a4]
  by_cases a5 : c = 46
  · exact .inr (.inr (.inr (.inr (.inl ⟨a5, if_pos a5⟩))))
  rw [if_neg a5]
  by_cases a6 : c = 32
  · exact .inr (.inr (.inr (.inr (.inr (.inl ⟨a6, if_pos a6⟩)))))
  rw [if_neg a6]
  by_cases a7 : c < 32 ∨ c = 127
  · rw [if_pos a7]
    rcases a7 with a7 | a7
    · exact .inr (.inr (.inr (.inr (.inr (.inr (.inl ⟨by omega, a7, rfl⟩))))))
    · exact .inr (.inr (.inr (.inr (.inr (.inr (.inr (.inl ⟨a7, rfl⟩)))))))
  rw [if_neg a7]
  by_cases a8 : c < 127
  · rw [if_pos a8]
    exact .inr (.inr (.inr (.inr (.inr (.inr (.inr (.inr (.inl ⟨a8, by omega, a4, a5, by omega, rfl⟩))))))))
  rw [if_neg a8]
  by_cases a9 : 44032 ≤ c ∧ c ≤ 55203
  · rw [if_pos a9]
    exact .inr (.inr (.inr (.inr (.inr (.inr (.inr (.inr (.inr (.inl ⟨a9.1, a9, rfl⟩)))))))))
  rw [if_neg a9]
  by_cases a10 : 4352 ≤ c ∧ c ≤ 4370 ∨ 4449 ≤ c ∧ c ≤ 4469 ∨ 4520 ≤ c ∧ c ≤ 4546
  · rw [if_pos a10]
    exact .inr (.inr (.inr (.inr (.inr (.inr (.inr (.inr (.inr (.inr (.inl ⟨by omega, a9, a10, rfl⟩))))))))))
  rw [if_neg a10]
  exact .inr (.inr (.inr (.inr (.inr (.inr (.inr (.inr (.inr (.inr (.inr ⟨by omega, a9, a10, rfl⟩))))))))))

set_option maxRecDepth 100000 in
set_option maxHeartbeats 1000000 in
theorem fixed_any (c : Int) (h : resB c = true) (w : World) : Calls Tryd.prog 82 #[.int .i64 c] w fun e w' => e = .returned (fixV (fixC c)) ∧ Below w.heap.size w w' := by
  have h1 := Lib.hid (fun W => syl_any c W)
  have h2 := Lib.hid (fun W => jamo_any c W)
  have hb := ((Below.refl w.heap.size w).alloc (Nat.le_refl _) (.cells #[.int .i64 0, .int .i64 0, .int .i64 0, .int .i64 0] 78))
  rcases fix_ways c h with ⟨y0, y1, hf⟩ | ⟨y0, y1, hf⟩ | ⟨y0, y1, hf⟩ | ⟨rfl, hf⟩ | ⟨rfl, hf⟩ | ⟨rfl, hf⟩ | ⟨y0, y1, hf⟩ | ⟨rfl, hf⟩ | ⟨y0, y1, y2, y3, y4, hf⟩ | ⟨y0, y1, hf⟩ | ⟨y0, y1, y2, hf⟩ | ⟨y0, y1, y2, hf⟩
  · rw [hf]
    clear hf h
    go_enter Tryd.func82, Tryd.ntmps82
    go_wp2_with fail
    refine bodyPost_ret (v := .agg #[.int .i64 1, .int .i64 0, .int .i64 3, .int .i64 1]) (by simp [results, Tryd.results82, go_sem]) rfl ⟨rfl, ?_⟩
    repeat (first | exact Below.refl _ _ | refine Below.setCell ?_ (by simp) _ | refine Below.alloc ?_ (by simp) _)
  · rw [hf]
    clear hf h
    go_enter Tryd.func82, Tryd.ntmps82
    go_wp2_with fail
    refine bodyPost_ret (v := .agg #[.int .i64 1, .int .i64 0, .int .i64 3, .int .i64 3]) (by simp [results, Tryd.results82, go_sem]) rfl ⟨rfl, ?_⟩
    repeat (first | exact Below.refl _ _ | refine Below.setCell ?_ (by simp) _ | refine Below.alloc ?_ (by simp) _)
  · rw [hf]
    clear hf h
    go_enter Tryd.func82, Tryd.ntmps82
    go_wp2_with fail
    refine bodyPost_ret (v := .agg #[.int .i64 3, .int .i64 4, .int .i64 1, .int .i64 1]) (by simp [results, Tryd.results82, go_sem]) rfl ⟨rfl, ?_⟩
    repeat (first | exact Below.refl _ _ | refine Below.setCell ?_ (by simp) _ | refine Below.alloc ?_ (by simp) _)
  · rw [hf]
    clear hf h
    go_enter Tryd.func82, Tryd.ntmps82
    go_wp2_with fail
    refine bodyPost_ret (v := .agg #[.int .i64 5, .int .i64 5, .int .i64 1, .int .i64 1]) (by simp [results, Tryd.results82, go_sem]) rfl ⟨rfl, ?_⟩
    repeat (first | exact Below.refl _ _ | refine Below.setCell ?_ (by simp) _ | refine Below.alloc ?_ (by simp) _)
  · rw [hf]
    clear hf h
    go_enter Tryd.func82, Tryd.ntmps82
    go_wp2_with fail
    refine bodyPost_ret (v := .agg #[.int .i64 5, .int .i64 6, .int .i64 1, .int .i64 1]) (by simp [results, Tryd.results82, go_sem]) rfl ⟨rfl, ?_⟩
    repeat (first | exact Below.refl _ _ | refine Below.setCell ?_ (by simp) _ | refine Below.alloc ?_ (by simp) _)
  · rw [hf]
    clear hf h
    go_enter Tryd.func82, Tryd.ntmps82
    go_wp2_with fail
    refine bodyPost_ret (v := .agg #[.int .i64 7, .int .i64 11, .int .i64 1, .int .i64 0]) (by simp [results, Tryd.results82, go_sem]) rfl ⟨rfl, ?_⟩
    repeat (first | exact Below.refl _ _ | refine Below.setCell ?_ (by simp) _ | refine Below.alloc ?_ (by simp) _)
  · rw [hf]
    clear hf h
    go_enter Tryd.func82, Tryd.ntmps82
    go_wp2_with fail
    refine bodyPost_ret (v := .agg #[.int .i64 8, .int .i64 11, .int .i64 1, .int .i64 0]) (by simp [results, Tryd.results82, go_sem]) rfl ⟨rfl, ?_⟩
    repeat (first | exact Below.refl _ _ | refine Below.setCell ?_ (by simp) _ | refine Below.alloc ?_ (by simp) _)
  · rw [hf]
    clear hf h
    go_enter Tryd.func82, Tryd.ntmps82
    go_wp2_with fail
    refine bodyPost_ret (v := .agg #[.int .i64 8, .int .i64 11, .int .i64 1, .int .i64 0]) (by simp [results, Tryd.results82, go_sem]) rfl ⟨rfl, ?_⟩
    repeat (first | exact Below.refl _ _ | refine Below.setCell ?_ (by simp) _ | refine Below.alloc ?_ (by simp) _)
  · rw [hf]
    clear hf h
    have q3 : (c == 32) = false := by rw [beq_eq_false_iff_ne]; omega
    have q4 : (c == 127) = false := by rw [beq_eq_false_iff_ne]; omega
    rcases y4 with y4 | ⟨y4, y5⟩ | ⟨y4, y5⟩ | y4
    all_goals
      go_enter Tryd.func82, Tryd.ntmps82
      go_wp2_with fail
      refine bodyPost_ret (v := .agg #[.int .i64 5, .int .i64 8, .int .i64 1, .int .i64 0]) (by simp [results, Tryd.results82, go_sem]) rfl ⟨rfl, ?_⟩
      repeat (first | exact Below.refl _ _ | refine Below.setCell ?_ (by simp) _ | refine Below.alloc ?_ (by simp) _)
  · rw [hf]
    clear hf h
    have q1 : (c == 45) = false := by rw [beq_eq_false_iff_ne]; omega
    have q2 : (c == 46) = false := by rw [beq_eq_false_iff_ne]; omega
    have q3 : (c == 32) = false := by rw [beq_eq_false_iff_ne]; omega
    have q4 : (c == 127) = false := by rw [beq_eq_false_iff_ne]; omega
    have h1' := Lib.hid h1.out
    rw [y1] at h1'
    clear y1
    go_enter Tryd.func82, Tryd.ntmps82
    go_wp2_with fail
    refine (h1'.out _).mono ?_
    rintro e w' ⟨rfl, rfl⟩
    go_wp2_with fail
    refine bodyPost_ret (v := .agg #[.int .i64 1, .int .i64 0, .int .i64 9, .int .i64 1]) (by simp [results, Tryd.results82, go_sem]) rfl ⟨rfl, ?_⟩
    repeat (first | exact Below.refl _ _ | refine Below.setCell ?_ (by simp) _ | refine Below.alloc ?_ (by simp) _)
  · rw [hf]
    clear hf h
    have q1 : (c == 45) = false := by rw [beq_eq_false_iff_ne]; omega
    have q2 : (c == 46) = false := by rw [beq_eq_false_iff_ne]; omega
    have q3 : (c == 32) = false := by rw [beq_eq_false_iff_ne]; omega
    have q4 : (c == 127) = false := by rw [beq_eq_false_iff_ne]; omega
    have h1' := Lib.hid h1.out
    rw [y1] at h1'
    have h2' := Lib.hid h2.out
    rw [y2] at h2'
    clear y1 y2
    go_enter Tryd.func82, Tryd.ntmps82
    go_wp2_with fail
    refine (h1'.out _).mono ?_
    rintro e w' ⟨rfl, rfl⟩
    go_wp2_with fail
    refine (h2'.out _).mono ?_
    rintro e w' ⟨rfl, rfl⟩
    go_wp2_with fail
    refine bodyPost_ret (v := .agg #[.int .i64 1, .int .i64 0, .int .i64 9, .int .i64 0]) (by simp [results, Tryd.results82, go_sem]) rfl ⟨rfl, ?_⟩
    repeat (first | exact Below.refl _ _ | refine Below.setCell ?_ (by simp) _ | refine Below.alloc ?_ (by simp) _)
  · rw [hf]
    clear hf h
    have q1 : (c == 45) = false := by rw [beq_eq_false_iff_ne]; omega
    have q2 : (c == 46) = false := by rw [beq_eq_false_iff_ne]; omega
    have q3 : (c == 32) = false := by rw [beq_eq_false_iff_ne]; omega
    have q4 : (c == 127) = false := by rw [beq_eq_false_iff_ne]; omega
    have h1' := Lib.hid h1.out
    rw [y1] at h1'
    have h2' := Lib.hid h2.out
    rw [y2] at h2'
    clear y1 y2
    go_enter Tryd.func82, Tryd.ntmps82
    go_wp2_with fail
    refine (h1'.out _).mono ?_
    rintro e w' ⟨rfl, rfl⟩
    go_wp2_with fail
    refine (h2'.out _).mono ?_
    rintro e w' ⟨rfl, rfl⟩
    go_wp2_with fail
    refine bodyPost_ret (v := .agg #[.int .i64 0, .int .i64 0, .int .i64 0, .int .i64 0]) (by simp [results, Tryd.results82, go_sem]) rfl ⟨rfl, ?_⟩
    repeat (first | exact Below.refl _ _ | refine Below.setCell ?_ (by simp) _ | refine Below.alloc ?_ (by simp) _)
end Go.Proofs.YtneinkpfhkojgaaDoor
/-
  Properties out of a list of spans: the walk through table.pick.
-/
namespace Go.Proofs.YtneinkpfhkojgaaDoor
open Go.RowKit ND

theorem propL_zero {l : List Sp} {own c : Int} (h : lenC c = 0) : propL l own c = 0 := by unfold propL; rw [if_pos h]
theorem propL_own {l : List Sp} {own c : Int} (h : lenC c ≠ 0) (h2 : resB c = true) : propL l own c = own := by unfold propL; rw [if_neg h, if_pos h2]
theorem propL_list {l : List Sp} {own c : Int} (h : lenC c ≠ 0) (h2 : resB c = false) : propL l own c = valueL l c := by unfold propL; rw [if_neg h, if_neg (by rw [h2]; simp)]

set_option maxRecDepth 100000 in
set_option maxHeartbeats 1000000 in
theorem pick_prop (g : Nat) (sel : Int × Int × Int × Int → Int) (v : Value) (xs : List Sp) (c lo hi : Int) (w : World) (eg : ∀ args w, (callFunc g args).run Tryd.prog w = .ok (.enter g args) w)
    (hown : ∀ W q, Calls Tryd.prog g #[fixV q] W fun e W' => e = .returned (.int .i64 (sel q)) ∧ Below W.heap.size W W')
    (hv : Spans w w.heap.size v xs) (hs : okS lo hi (-1) xs = true) (hlen : xs.length ≤ 256) :
    Calls Tryd.prog 61 #[v, .int .i64 c, .func (.func g) #[] #[]] w fun e w' => e = .returned (.int .i64 (propL xs (sel (fixC c)) c)) ∧ Below w.heap.size w w' := by
  have HL := Lib.hid (fun W => length_any c W)
  have HRS := Lib.hid (fun W => reserved_any c W)
  have HO := Lib.hid hown
  have HV := Lib.hid (fun W (h : Spans W W.heap.size v xs) => value_any v xs c lo hi W h hs hlen)
  have HW := Lib.hid hv
  clear hown hv hs hlen
  obtain ⟨n, hn⟩ : ∃ n, n = lenC c := ⟨_, rfl⟩
  rw [← hn] at HL
  by_cases h0 : n = 0
  · rw [propL_zero (hn.symm.trans h0)]
    have hb : ((n : Int) == 0) = true := by rw [beq_iff_eq]; omega
    clear hn h0 HO HV HW HRS eg
    go_enter Tryd.func61, Tryd.ntmps61
    go_wp2_with fail
    refine (HL.out _).mono ?_
    rintro e w1 ⟨rfl, rfl⟩
    go_wp2_with fail
    go_ret
    exact ⟨rfl, Below.refl _ _⟩
  · have hb : ((n : Int) == 0) = false := by rw [beq_eq_false_iff_ne]; omega
    have hn0 : lenC c ≠ 0 := by rw [← hn]; exact h0
    clear hn h0
    cases hr : resB c
    · rw [propL_list hn0 hr]
      rw [hr] at HRS
      clear hn0 hr HO eg
      go_enter Tryd.func61, Tryd.ntmps61
      go_wp2_with fail
      refine (HL.out _).mono ?_
      rintro e w1 ⟨rfl, rfl⟩
      go_wp2_with fail
      refine (HRS.out _).mono ?_
      rintro e w1 ⟨rfl, rfl⟩
      go_wp2_with fail
      refine (HV.out _ HW.out).mono ?_
      rintro e w1 ⟨rfl, b1⟩
      go_wp2_with fail
      go_ret
      exact ⟨rfl, b1⟩
    · rw [propL_own hn0 hr]
      have HF := Lib.hid (fun W => fixed_any c hr W)
      rw [hr] at HRS
      generalize fixC c = q at *
      clear hn0 hr HV HW
      go_enter Tryd.func61, Tryd.ntmps61
      go_wp2_with fail
      refine (HL.out _).mono ?_
      rintro e w1 ⟨rfl, rfl⟩
      go_wp2_with fail
      refine (HRS.out _).mono ?_
      rintro e w1 ⟨rfl, rfl⟩
      go_wp2_with fail
      refine (HF.out _).mono ?_
      rintro e w1 ⟨rfl, b1⟩
      have hq : fixV q = fixV q := rfl
      clear hq
      go_wp2_with fail
      refine (HO.out w1 q).mono ?_
      rintro e w2 ⟨rfl, b2⟩
      go_wp2_with fail
      go_ret
      exact ⟨rfl, below_next b1 b2⟩
end Go.Proofs.YtneinkpfhkojgaaDoor
/-
  The walks through the reference's value, find, Class, Joining, Ignorable, Status, Excluded, and through table.Excluded.
-/
namespace Go.Proofs.YtneinkpfhkojgaaDoor
open Go.RowKit ND

theorem value_go {l : List Sp} {k : Nat} {s : Sp} {c R : Int} (hx : l[k]? = some s) (h : valueL (l.drop k) c = R) (h1 : ¬(s.1 ≤ c ∧ c ≤ s.2.1)) : valueL (l.drop (k + 1)) c = R := by
  rw [drop_of_get hx, valueL, if_neg h1] at h; exact h
theorem value_hit {l : List Sp} {k : Nat} {s : Sp} {c R : Int} (hx : l[k]? = some s) (h : valueL (l.drop k) c = R) (h1 : s.1 ≤ c ∧ c ≤ s.2.1) : R = s.2.2 := by
  rw [drop_of_get hx, valueL, if_pos h1] at h; exact h.symm
theorem value_end {l : List Sp} {k : Nat} {c R : Int} (hk : l.length ≤ k) (h : valueL (l.drop k) c = R) : R = 0 := by
  rw [List.drop_eq_nil_of_le hk] at h; exact h.symm

set_option maxRecDepth 100000 in
set_option maxHeartbeats 1000000 in
theorem refValue_any (v : Value) (xs : List Sp) (c : Int) (w : World) (hv : Spans w w.heap.size v xs) :
    Calls Tryd.prog 41 #[v, .int .i64 c] w fun e w' => e = .returned (.int .i64 (valueL xs c)) ∧ Below w.heap.size w w' := by
  obtain ⟨A, cp, rfl, hc1, hc2, _, hcell⟩ := hv
  have HC := Lib.hid hcell
  have hlm : xs.length ≤ 9223372036854775807 := by unfold maxLen at hc2; omega
  clear hcell hc1 hc2
  obtain ⟨R, hR⟩ : ∃ R, R = valueL xs c := ⟨_, rfl⟩
  rw [← hR]
  have HR : Hid (valueL (xs.drop 0) c = R) := Lib.hid hR.symm
  clear hR
  go_enter Tryd.func41, Tryd.ntmps41
  go_wp2_with fail
  go_loopw [9] (fun i wr => ∃ (j : Nat), j ≤ xs.length ∧ i = .int .i64 j ∧ Hid (valueL (xs.drop j) c = R) ∧ Below w.heap.size w wr) (fun i _ => xs.length - (intOf i).toNat)
  case atStart => exact ⟨0, by omega, rfl, HR, Below.refl _ _⟩
  case round =>
    obtain ⟨j, hj, rfl, HS, hbel⟩ := hrel
    clear HR
    by_cases hjl : j < xs.length
    · obtain ⟨⟨f, t, x⟩, hxj, _⟩ := get_el hjl
      obtain ⟨aj, rfl, ha, d0, d1, d2⟩ := HC.out j _ hxj
      simp only at d0 d1 d2
      obtain ⟨e0, e1, e2⟩ := span_cells hbel ha d0 d1 d2
      have HX := Lib.hid hxj
      clear d0 d1 d2 hxj ha
      have r0 : (0 : Int) ≤ (j : Int) := by omega
      have r1 : (j : Int) < (xs.length : Int) := by omega
      by_cases h1 : f ≤ c
      · by_cases h2 : c ≤ t
        · have HN := Lib.hid (value_hit HX.out HS.out ⟨h1, h2⟩)
          go_wp2_with fail
          go_ret
          rw [HN.out]
          exact ⟨rfl, hbel.alloc hbel.size _⟩
        · have HN := Lib.hid (value_go HX.out HS.out (fun h => h2 h.2))
          have p1 : decide (c ≤ t) = false := decide_eq_false h2
          clear h2
          go_wp2_with fail
          go_roundw
          case rel => exact ⟨j + 1, by omega, by go_num, HN, hbel.alloc hbel.size _⟩
          case measure => simp [intOf]; omega
      · have HN := Lib.hid (value_go HX.out HS.out (fun h => h1 h.1))
        have p1 : decide (f ≤ c) = false := decide_eq_false h1
        clear h1
        go_wp2_with fail
        go_roundw
        case rel => exact ⟨j + 1, by omega, by go_num, HN, hbel.alloc hbel.size _⟩
        case measure => simp [intOf]; omega
    · have HN := Lib.hid (value_end (by omega) HS.out)
      go_wp2_with fail
      go_ret
      rw [HN.out]
      exact ⟨rfl, hbel⟩

theorem find_go {l : List Mp} {k : Nat} {m : Mp} {c : Int} {R : List Int} (hx : l[k]? = some m) (h : findL (l.drop k) c = R) (h1 : m.1 ≠ c) : findL (l.drop (k + 1)) c = R := by
  rw [drop_of_get hx, findL, if_neg h1] at h; exact h
theorem find_hit {l : List Mp} {k : Nat} {m : Mp} {c : Int} {R : List Int} (hx : l[k]? = some m) (h : findL (l.drop k) c = R) (h1 : m.1 = c) : R = m.2 := by
  rw [drop_of_get hx, findL, if_pos h1] at h; exact h.symm
theorem find_end {l : List Mp} {k : Nat} {c : Int} {R : List Int} (hk : l.length ≤ k) (h : findL (l.drop k) c = R) : R = [] := by
  rw [List.drop_eq_nil_of_le hk] at h; exact h.symm
/-- A sequence comes back. -/
def RetInts (w : World) (ys : List Int) (e : Ending) (w' : World) : Prop := ∃ v, e = .returned v ∧ Ints w' w'.heap.size .i64 v ys ∧ Below w.heap.size w w'

set_option maxRecDepth 100000 in
set_option maxHeartbeats 1000000 in
theorem refFind_any (v : Value) (xs : List Mp) (c : Int) (w : World) (hv : Mapps w w.heap.size v xs) :
    Calls Tryd.prog 105 #[v, .int .i64 c] w (RetInts w (findL xs c)) := by
  obtain ⟨A, cp, rfl, hc1, hc2, _, hcell⟩ := hv
  have HC := Lib.hid hcell
  have hlm : xs.length ≤ 9223372036854775807 := by unfold maxLen at hc2; omega
  clear hcell hc1 hc2
  obtain ⟨R, hR⟩ : ∃ R, R = findL xs c := ⟨_, rfl⟩
  rw [← hR]
  have HR : Hid (findL (xs.drop 0) c = R) := Lib.hid hR.symm
  clear hR
  go_enter Tryd.func105, Tryd.ntmps105
  go_wp2_with fail
  go_loopw [9] (fun i wr => ∃ (j : Nat), j ≤ xs.length ∧ i = .int .i64 j ∧ Hid (findL (xs.drop j) c = R) ∧ Below w.heap.size w wr) (fun i _ => xs.length - (intOf i).toNat)
  case atStart => exact ⟨0, by omega, rfl, HR, Below.refl _ _⟩
  case round =>
    obtain ⟨j, hj, rfl, HS, hbel⟩ := hrel
    clear HR
    by_cases hjl : j < xs.length
    · obtain ⟨⟨f, tg⟩, hxj, _⟩ := get_el hjl
      obtain ⟨aj, sv, rfl, ha, d0, d1, hto⟩ := HC.out j _ hxj
      simp only at d0 d1 hto
      obtain ⟨A', c', rfl, _⟩ := id hto
      obtain ⟨e0, e1⟩ := map_cells hbel ha d0 d1
      have HX := Lib.hid hxj
      have HTO := Lib.hid (((hto.below hbel).more hbel.size).later ((Below.refl _ _).alloc (Nat.le_refl _) (.cells #[.int .i64 f, .slice A' tg.length c'] 46)))
      clear d0 d1 hxj ha hto
      have r0 : (0 : Int) ≤ (j : Int) := by omega
      have r1 : (j : Int) < (xs.length : Int) := by omega
      by_cases h1 : f = c
      · have HN := Lib.hid (find_hit HX.out HS.out h1)
        have p1 : (f == c) = true := by rw [beq_iff_eq]; exact h1
        clear h1
        go_wp2_with fail
        go_ret
        rw [HN.out]
        exact ⟨_, rfl, HTO.out, hbel.alloc hbel.size _⟩
      · have HN := Lib.hid (find_go HX.out HS.out h1)
        have p1 : (f == c) = false := by rw [beq_eq_false_iff_ne]; exact h1
        clear h1 HTO
        go_wp2_with fail
        go_roundw
        case rel => exact ⟨j + 1, by omega, by go_num, HN, hbel.alloc hbel.size _⟩
        case measure => simp [intOf]; omega
    · have HN := Lib.hid (find_end (by omega) HS.out)
      go_wp2_with fail
      go_ret
      rw [HN.out]
      exact ⟨_, rfl, Ints.none_, hbel⟩

set_option maxRecDepth 100000 in
set_option maxHeartbeats 400000 in
theorem refClass_any (t : Tv) (T : Tab) (c : Int) (w : World) (ht : TabR w w.heap.size t T) :
    Calls Tryd.prog 18 #[t.val, .int .i64 c] w fun e w' => e = .returned (.int .i64 (T.classOf c)) ∧ Below w.heap.size w w' := by
  have HR := Lib.hid (fun o : Obj => ht.r1.later ((Below.refl _ _).alloc (Nat.le_refl _) o))
  clear ht
  go_enter Tryd.func18, Tryd.ntmps18
  go_wp2_with fail
  refine (refValue_any t.c1 T.cls c _ (HR.out _)).mono ?_
  rintro e w1 ⟨rfl, b1⟩
  go_wp2_with fail
  go_ret
  exact ⟨rfl, below_next ((Below.refl _ _).alloc (Nat.le_refl _) _) b1⟩

set_option maxRecDepth 100000 in
set_option maxHeartbeats 400000 in
theorem refIgnorable_any (t : Tv) (T : Tab) (c : Int) (w : World) (ht : TabR w w.heap.size t T) :
    Calls Tryd.prog 55 #[t.val, .int .i64 c] w fun e w' => e = .returned (.bool (T.ignB c)) ∧ Below w.heap.size w w' := by
  have HR := Lib.hid (fun o : Obj => ht.r6.later ((Below.refl _ _).alloc (Nat.le_refl _) o))
  clear ht
  go_enter Tryd.func55, Tryd.ntmps55
  go_wp2_with fail
  refine (refValue_any t.c6 T.ignorable c _ (HR.out _)).mono ?_
  rintro e w1 ⟨rfl, b1⟩
  go_wp2_with fail
  go_ret
  exact ⟨rfl, below_next ((Below.refl _ _).alloc (Nat.le_refl _) _) b1⟩

theorem status_ref {T : Tab} (h : GoodS T.status) (c : Int) : T.statusOf c = if nameB c = true ∨ c = 46 ∨ sylB c = true then 1 else if 65 ≤ c ∧ c ≤ 90 then 3 else valueL T.status c := by
  unfold Tab.statusOf
  rw [propL_ref h.1 h.2.2]
  simp only [nameB_iff, sylB_iff]
  have hz : resB c = true → valueL T.status c = 0 := value_res h.2.2
  by_cases hr : resB c = true ∧ surB c = false
  · rw [if_pos hr]
    have h0 := hz hr.1
    obtain ⟨h1, h2⟩ := hr
    rw [resB_iff] at h1
    have h2' : ¬(55296 ≤ c ∧ c ≤ 57343) := by unfold surB at h2; rw [decide_eq_false_iff_not] at h2; exact h2
    clear hz h2
    unfold fixC
    repeat' split
    all_goals try simp only [h0]
    all_goals omega
  · rw [if_neg hr]
    have h1 : ¬(97 ≤ c ∧ c ≤ 122 ∨ 48 ≤ c ∧ c ≤ 57 ∨ c = 45) ∧ c ≠ 46 ∧ ¬(44032 ≤ c ∧ c ≤ 55203) ∧ ¬(65 ≤ c ∧ c ≤ 90) := by
      by_cases hs : surB c = false
      · have hr' : resB c = false := by
          cases hh : resB c
          · rfl
          · exact absurd ⟨hh, hs⟩ hr
        rw [resB_not] at hr'
        omega
      · have hs' : surB c = true := by simpa using hs
        rw [surB_iff] at hs'
        omega
    rw [if_neg (by omega), if_neg h1.2.2.2]

set_option maxRecDepth 100000 in
set_option maxHeartbeats 1000000 in
theorem refStatus_any (t : Tv) (T : Tab) (c : Int) (w : World) (ht : TabR w w.heap.size t T) (hg : GoodS T.status) :
    Calls Tryd.prog 26 #[t.val, .int .i64 c] w fun e w' => e = .returned (.int .i64 (T.statusOf c)) ∧ Below w.heap.size w w' := by
  have HR := Lib.hid (fun o : Obj => ht.r5.later ((Below.refl _ _).alloc (Nat.le_refl _) o))
  have HN := Lib.hid (fun W => latin_any c W)
  have HS := Lib.hid (fun W => refSyl_any c W)
  rw [status_ref hg]
  clear ht hg
  cases hn : nameB c
  · rw [hn] at HN
    by_cases h46 : c = 46
    · subst h46
      rw [if_pos (.inr (.inl rfl))]
      clear hn
      go_enter Tryd.func26, Tryd.ntmps26
      go_wp2_with fail
      refine (HN.out _).mono ?_
      rintro e w1 ⟨rfl, rfl⟩
      go_wp2_with fail
      go_ret
      exact ⟨rfl, (Below.refl _ _).alloc (Nat.le_refl _) _⟩
    · have hb : (c == 46) = false := by rw [beq_eq_false_iff_ne]; exact h46
      cases hs : sylB c
      · rw [hs] at HS
        rw [if_neg (by
          rintro (h | h | h)
          · cases h
          · exact h46 h
          · cases h)]
        by_cases hA : 65 ≤ c ∧ c ≤ 90
        · rw [if_pos hA]
          obtain ⟨a1, a2⟩ := hA
          clear hn hs h46
          go_enter Tryd.func26, Tryd.ntmps26
          go_wp2_with fail
          refine (HN.out _).mono ?_
          rintro e w1 ⟨rfl, rfl⟩
          go_wp2_with fail
          refine (HS.out _).mono ?_
          rintro e w1 ⟨rfl, rfl⟩
          go_wp2_with fail
          go_ret
          exact ⟨rfl, (Below.refl _ _).alloc (Nat.le_refl _) _⟩
        · rw [if_neg hA]
          rcases show c < 65 ∨ (65 ≤ c ∧ 90 < c) by omega with a1 | ⟨a1, a2⟩
          all_goals
            clear hn hs h46 hA
            go_enter Tryd.func26, Tryd.ntmps26
            go_wp2_with fail
            refine (HN.out _).mono ?_
            rintro e w1 ⟨rfl, rfl⟩
            go_wp2_with fail
            refine (HS.out _).mono ?_
            rintro e w1 ⟨rfl, rfl⟩
            go_wp2_with fail
            refine (refValue_any t.c5 T.status c _ (HR.out _)).mono ?_
            rintro e w1 ⟨rfl, b1⟩
            go_wp2_with fail
            go_ret
            exact ⟨rfl, below_next ((Below.refl _ _).alloc (Nat.le_refl _) _) b1⟩
      · rw [hs] at HS
        rw [if_pos (.inr (.inr rfl))]
        clear hn hs h46
        go_enter Tryd.func26, Tryd.ntmps26
        go_wp2_with fail
        refine (HN.out _).mono ?_
        rintro e w1 ⟨rfl, rfl⟩
        go_wp2_with fail
        refine (HS.out _).mono ?_
        rintro e w1 ⟨rfl, rfl⟩
        go_wp2_with fail
        go_ret
        exact ⟨rfl, (Below.refl _ _).alloc (Nat.le_refl _) _⟩
  · rw [hn] at HN
    rw [if_pos (.inl rfl)]
    clear hn
    go_enter Tryd.func26, Tryd.ntmps26
    go_wp2_with fail
    refine (HN.out _).mono ?_
    rintro e w1 ⟨rfl, rfl⟩
    go_wp2_with fail
    go_ret
    exact ⟨rfl, (Below.refl _ _).alloc (Nat.le_refl _) _⟩

theorem mem_go {xs : List Int} {k : Nat} {x c : Int} {R : Bool} (hx : xs[k]? = some x) (h : decide (c ∈ xs.drop k) = R) (h1 : x ≠ c) : decide (c ∈ xs.drop (k + 1)) = R := by
  rw [drop_of_get hx] at h
  rw [← h, decide_eq_decide, List.mem_cons]
  exact ⟨.inr, fun h => h.resolve_left (fun e => h1 e.symm)⟩
theorem mem_hit {xs : List Int} {k : Nat} {x c : Int} {R : Bool} (hx : xs[k]? = some x) (h : decide (c ∈ xs.drop k) = R) (h1 : x = c) : R = true := by
  rw [drop_of_get hx] at h
  rw [← h, decide_eq_true_eq, h1]; exact List.mem_cons_self
theorem mem_end {xs : List Int} {k : Nat} {c : Int} {R : Bool} (hk : xs.length ≤ k) (h : decide (c ∈ xs.drop k) = R) : R = false := by
  rw [List.drop_eq_nil_of_le hk] at h; rw [← h]; rfl

set_option maxRecDepth 100000 in
set_option maxHeartbeats 1000000 in
theorem refExcluded_any (t : Tv) (T : Tab) (c : Int) (w : World) (ht : TabR w w.heap.size t T) :
    Calls Tryd.prog 117 #[t.val, .int .i64 c] w fun e w' => e = .returned (.bool (T.excB c)) ∧ Below w.heap.size w w' := by
  obtain ⟨A0, A1, A2, A3, A4, A5, A6, A7, A8, A9, A10, A11, k0, k1, k2, k3, k4, k5, k6, k7, k8, k9, k10, k11, rfl⟩ := ht.shape
  obtain ⟨A, cp, hA, hc1, hc2, _, hcell⟩ := ht.r10
  cases hA
  have HC := Lib.hid hcell
  have hlm : T.excluded.length ≤ 9223372036854775807 := by unfold maxLen at hc2; omega
  clear hcell hc1 hc2 ht
  obtain ⟨R, hR⟩ : ∃ R, R = T.excB c := ⟨_, rfl⟩
  rw [← hR]
  have HR : Hid (decide (c ∈ T.excluded.drop 0) = R) := Lib.hid hR.symm
  clear hR
  go_enter Tryd.func117, Tryd.ntmps117
  go_wp2_with fail
  go_loop [10] (fun i => ∃ (j : Nat), j ≤ T.excluded.length ∧ i = .int .i64 j ∧ Hid (decide (c ∈ T.excluded.drop j) = R)) (fun i => T.excluded.length - (intOf i).toNat)
  case atStart => exact ⟨0, by omega, rfl, HR⟩
  case round =>
    obtain ⟨j, hj, rfl, HS⟩ := hrel
    clear HR
    by_cases hjl : j < T.excluded.length
    · obtain ⟨x, hxj, _⟩ := get_el hjl
      obtain ⟨aj, rfl, ha, d0⟩ := HC.out j _ hxj
      have e0 := fun o : Obj => (World.cell?_alloc_lt w o (aj.add j) (World.block_lt_of_cell? _ _ d0)).trans d0
      have HX := Lib.hid hxj
      clear hxj ha d0
      have r0 : (0 : Int) ≤ (j : Int) := by omega
      have r1 : (j : Int) < (T.excluded.length : Int) := by omega
      by_cases h1 : x = c
      · have HN := Lib.hid (mem_hit HX.out HS.out h1)
        have p1 : (x == c) = true := by rw [beq_iff_eq]; exact h1
        clear h1
        go_wp2_with fail
        go_ret
        rw [HN.out]
        exact ⟨rfl, (Below.refl _ _).alloc (Nat.le_refl _) _⟩
      · have HN := Lib.hid (mem_go HX.out HS.out h1)
        have p1 : (x == c) = false := by rw [beq_eq_false_iff_ne]; exact h1
        clear h1
        go_wp2_with fail
        go_round
        case rel => exact ⟨j + 1, by omega, by go_num, HN⟩
        case measure => simp [intOf]; omega
    · have HN := Lib.hid (mem_end (by omega) HS.out)
      go_wp2_with fail
      go_ret
      rw [HN.out]
      exact ⟨rfl, (Below.refl _ _).alloc (Nat.le_refl _) _⟩
end Go.Proofs.YtneinkpfhkojgaaDoor
/-
  The walk through one property of table.
-/
namespace Go.Proofs.YtneinkpfhkojgaaDoor
open Go.RowKit ND

set_option maxRecDepth 100000 in
set_option maxHeartbeats 400000 in
theorem ownStatus (W : World) (q : Int × Int × Int × Int) : Calls Tryd.prog 62 #[fixV q] W fun e W' => e = .returned (.int .i64 (q.2.2.2)) ∧ Below W.heap.size W W' := by
  unfold fixV
  go_enter Tryd.func62, Tryd.ntmps62
  go_wp2_with fail
  go_ret
  exact ⟨rfl, (Below.refl _ _).alloc (Nat.le_refl _) _⟩

set_option maxRecDepth 100000 in
set_option maxHeartbeats 400000 in
theorem status_any (t : Tv) (T : Tab) (c lo hi : Int) (w : World) (ht : TabR w w.heap.size t T) (hs : okS lo hi (-1) T.status = true) (hlen : T.status.length ≤ 256) :
    Calls Tryd.prog 46 #[t.val, .int .i64 c] w fun e w' => e = .returned (.int .i64 (T.statusOf c)) ∧ Below w.heap.size w w' := by
  have HP := Lib.hid (fun W (h : Spans W W.heap.size t.c5 T.status) => pick_prop 62 (fun q => q.2.2.2) t.c5 T.status c lo hi W (enters_of Tryd.func62 (by kernel_rfl) rfl) ownStatus h hs hlen)
  have hr := ht.r5
  have HR := Lib.hid (fun o : Obj => hr.later ((Below.refl _ _).alloc (Nat.le_refl _) o))
  clear hr ht hs hlen
  go_enter Tryd.func46, Tryd.ntmps46
  go_wp2_with fail
  refine (HP.out _ (HR.out _)).mono ?_
  rintro e w1 ⟨rfl, b1⟩
  go_wp2_with fail
  go_ret
  exact ⟨rfl, below_next ((Below.refl _ _).alloc (Nat.le_refl _) _) b1⟩
end Go.Proofs.YtneinkpfhkojgaaDoor
/-
  The walks through table.mapped and the reference's mapped: rule 5.
-/
namespace Go.Proofs.YtneinkpfhkojgaaDoor
open Go.RowKit ND

theorem count_go {l : List Sp} {k : Nat} {s : Sp} {n R : Int} (hx : l[k]? = some s) (h : n + mapCount (l.drop k) = R) : (s.2.2 = 3 → n + (s.2.1 - s.1 + 1) + mapCount (l.drop (k + 1)) = R) ∧ (s.2.2 ≠ 3 → n + mapCount (l.drop (k + 1)) = R) := by
  rw [drop_of_get hx, mapCount] at h
  constructor
  · intro h3; rw [if_pos h3] at h; omega
  · intro h3; rw [if_neg h3] at h; omega
theorem count_end {l : List Sp} {k : Nat} {n R : Int} (hk : l.length ≤ k) (h : n + mapCount (l.drop k) = R) : R = n := by
  rw [List.drop_eq_nil_of_le hk] at h; unfold mapCount at h; omega
def elOk (T : Tab) (c : Int) : Bool := okStat (T.statusOf c)
theorem mapOk_no {T : Tab} {c : Int} {tg : List Int} (h : T.statusOf c ≠ 3) : T.mapOk (c, tg) = false := by unfold Tab.mapOk; rw [decide_eq_false h]; rfl
theorem mapOk_yes {T : Tab} {c : Int} {tg : List Int} (h : T.statusOf c = 3) : T.mapOk (c, tg) = tg.all (elOk T) := by unfold Tab.mapOk; rw [decide_eq_true h]; rfl
theorem stat_ways (s : Int) : (okStat s = true ∧ (s != 1) = false) ∨ (okStat s = true ∧ (s != 1) = true ∧ (s != 4) = false) ∨ (okStat s = false ∧ (s != 1) = true ∧ (s != 4) = true) := by
  unfold okStat
  simp only [decide_eq_true_eq, decide_eq_false_iff_not, bne_iff_ne, ne_eq, bne_eq_false_iff_eq]
  omega

set_option maxRecDepth 100000 in
set_option maxHeartbeats 4000000 in
theorem mapped_any (t : Tv) (T : Tab) (w : World) (ht : TabR w w.heap.size t T) (hg : GoodS T.status) :
    Calls Tryd.prog 72 #[t.val] w fun e w' => e = .returned (.bool T.rule5) ∧ Below w.heap.size w w' := by
  obtain ⟨tc, htc⟩ : ∃ tc, tc = t.cells := ⟨_, rfl⟩
  have HST := Lib.hid (fun c W (h : TabR W W.heap.size t T) => status_any t T c 0 1114111 W h hg.1 hg.2.1)
  have HT := Lib.hid (fun W (h : Below w.heap.size w W) => ht.later h)
  have hsp := ht.r5
  have hmp := ht.r8
  obtain ⟨A0, A1, A2, A3, A4, A5, A6, A7, A8, A9, A10, A11, k0, k1, k2, k3, k4, k5, k6, k7, k8, k9, k10, k11, rfl⟩ := ht.shape
  clear ht
  have HTC := Lib.hid htc
  clear htc
  obtain ⟨A, cp, hA, hc1, hc2, _, hcell⟩ := hsp
  cases hA
  have HC := Lib.hid hcell
  have hlm : T.status.length ≤ 256 := hg.2.1
  obtain ⟨B, cq, hB, hd1, hd2, _, hcell2⟩ := hmp
  cases hB
  have HM := Lib.hid hcell2
  have hln : T.maps.length ≤ 9223372036854775807 := by unfold maxLen at hd2; omega
  have HEL := Lib.hid (fun i a (h : T.status[i]? = some a) => okS_el hg.1 h)
  clear hcell hc1 hc2 hcell2 hd1 hd2 hg
  obtain ⟨R, hR⟩ : ∃ R, R = T.rule5 := ⟨_, rfl⟩
  rw [← hR]
  obtain ⟨N, hN⟩ : ∃ N, N = mapCount T.status := ⟨_, rfl⟩
  obtain ⟨Rm, hRm⟩ : ∃ Rm, Rm = T.maps.all T.mapOk := ⟨_, rfl⟩
  have HN0 : Hid (0 + mapCount (T.status.drop 0) = N) := Lib.hid (by rw [hN, Int.zero_add]; rfl)
  have HM0 : Hid ((T.maps.drop 0).all T.mapOk = Rm) := Lib.hid hRm.symm
  have HRR : Hid (R = (decide (N = (T.maps.length : Int)) && Rm)) := Lib.hid (by rw [hR, hN, hRm]; rfl)
  clear hR hN hRm
  go_enter Tryd.func72, Tryd.ntmps72
  go_wp2_with fail
  go_loopw [3, 14] (fun n i wr => ∃ (j : Nat) (m : Int), j ≤ T.status.length ∧ i = .int .i64 j ∧ n = .int .i64 m ∧ 0 ≤ m ∧ m ≤ 1114112 * (j : Int) ∧ Hid (m + mapCount (T.status.drop j) = N) ∧ Below w.heap.size w wr ∧ Hid (Blk wr w.heap.size 26 tc)) (fun _ i _ => T.status.length - (intOf i).toNat)
  case atStart => exact ⟨0, 0, by omega, rfl, rfl, by omega, by omega, HN0, (Below.refl _ _).alloc (Nat.le_refl _) _, Lib.hid (by rw [HTC.out]; exact Blk.new _ _ _)⟩
  case round =>
    obtain ⟨j, m, hj, rfl, rfl, hm0, hm1, HS, hbel, HB⟩ := hrel
    clear HN0
    by_cases hjl : j < T.status.length
    · obtain ⟨⟨f, t, x⟩, hxj, _⟩ := get_el hjl
      obtain ⟨aj, rfl, ha, d0, d1, d2⟩ := HC.out j _ hxj
      simp only at d0 d1 d2
      obtain ⟨e0, e1, e2⟩ := span_cells hbel ha d0 d1 d2
      have hel := HEL.out j _ hxj
      simp only at hel
      have hcg := count_go hxj HS.out
      simp only at hcg
      have HCG := Lib.hid hcg
      have HB' := Lib.hid (HB.out.alloc (.cells #[.int .i64 f, .int .i64 t, .int .i64 x] 44))
      clear d0 d1 d2 hxj ha hcg HB
      have r0 : (0 : Int) ≤ (j : Int) := by omega
      have r1 : (j : Int) < (T.status.length : Int) := by omega
      by_cases hx3 : x = 3
      · have HNX := Lib.hid (HCG.out.1 hx3)
        have p1 : (x == 3) = true := by rw [beq_iff_eq]; exact hx3
        clear hx3 HCG
        go_wp2_with fail
        go_roundw
        case rel => exact ⟨j + 1, m + (t - f + 1), by omega, by go_num, rfl, by omega, by omega, HNX, hbel.alloc hbel.size _, HB'⟩
        case measure => simp [intOf]; omega
      · have HNX := Lib.hid (HCG.out.2 hx3)
        have p1 : (x == 3) = false := by rw [beq_eq_false_iff_ne]; exact hx3
        clear hx3 HCG
        go_wp2_with fail
        go_roundw
        case rel => exact ⟨j + 1, m, by omega, by go_num, rfl, by omega, by omega, HNX, hbel.alloc hbel.size _, HB'⟩
        case measure => simp [intOf]; omega
    · have hNm := count_end (by omega) HS.out
      obtain ⟨x0, x1, x2, x3, x4, x5, x6, x7, x8, x9, x10, x11⟩ := (show Blk _ _ _ #[_, _, _, _, _, _, _, _, _, _, _, _] from by have h := HB.out; rw [HTC.out] at h; exact h).tab
      have HBT := Lib.hid HB.out
      clear HS HC HEL HB
      by_cases hne : m = (T.maps.length : Int)
      · have p1 : (m != (T.maps.length : Int)) = false := by rw [bne_eq_false_iff_eq]; exact hne
        have HR2 : Hid (R = Rm) := Lib.hid (by rw [HRR.out, hNm, decide_eq_true hne, Bool.true_and])
        clear hne hNm HRR
        go_wp2_with fail
        clear x0 x1 x2 x3 x4 x5 x6 x7 x8 x9 x10 x11
        go_loopw [38] (fun i wr => ∃ (j : Nat), j ≤ T.maps.length ∧ i = .int .i64 j ∧ Hid ((T.maps.drop j).all T.mapOk = Rm) ∧ Below w.heap.size w wr ∧ Hid (Blk wr w.heap.size 26 tc)) (fun i _ => T.maps.length - (intOf i).toNat)
        case atStart => exact ⟨0, by omega, rfl, HM0, hbel, HBT⟩
        case round =>
          obtain ⟨j, hj, rfl, HS, hbel, HB⟩ := hrel
          clear HM0 HBT
          by_cases hjl : j < T.maps.length
          · obtain ⟨⟨cc, tg⟩, hxj, _⟩ := get_el hjl
            obtain ⟨aj, sv, rfl, ha, d0, d1, hto⟩ := HM.out j _ hxj
            simp only at d0 d1 hto
            obtain ⟨A', c', rfl, he1, he2, _, hcl⟩ := id hto
            have HTO := Lib.hid hcl
            have hlt : tg.length ≤ 9223372036854775807 := by unfold maxLen at he2; omega
            obtain ⟨e0, e1⟩ := map_cells hbel ha d0 d1
            have HX := Lib.hid hxj
            have HTR := Lib.hid (fun o => HT.out _ (hbel.alloc hbel.size o))
            have HB' := Lib.hid (HB.out.alloc (.cells #[.int .i64 cc, .slice A' tg.length c'] 46))
            obtain ⟨x0, x1, x2, x3, x4, x5, x6, x7, x8, x9, x10, x11⟩ := (show Blk _ _ _ #[_, _, _, _, _, _, _, _, _, _, _, _] from by have h := HB'.out; rw [HTC.out] at h; exact h).tab
            clear d0 d1 hxj ha hto hcl he1 he2 HB
            have r0 : (0 : Int) ≤ (j : Int) := by omega
            have r1 : (j : Int) < (T.maps.length : Int) := by omega
            have HS1 := Lib.hid (HST.out cc)
            by_cases hs3 : T.statusOf cc = 3
            · have HOK := Lib.hid (mapOk_yes (T := T) (tg := tg) hs3)
              have p2 : (T.statusOf cc != 3) = false := by rw [bne_eq_false_iff_eq]; exact hs3
              obtain ⟨Rt, hRt⟩ : ∃ Rt, Rt = tg.all (elOk T) := ⟨_, rfl⟩
              have HO : Hid ((tg.drop 0).all (elOk T) = Rt) := Lib.hid hRt.symm
              have HOK2 : Hid (T.mapOk (cc, tg) = Rt) := Lib.hid (HOK.out.trans hRt.symm)
              clear hs3 HOK hRt
              go_wp2_with fail
              refine (HS1.out _ (HTR.out _)).mono ?_
              rintro e w2 ⟨rfl, b2⟩
              have hbel2 := below_next (hbel.alloc hbel.size (.cells #[.int .i64 cc, .slice A' tg.length c'] 46)) b2
              have HB2 := Lib.hid (HB'.out.later b2)
              have d1 := ((Blk.new wr 46 #[.int .i64 cc, .slice A' tg.length c']).later b2).at_ (i := 1) (u := .slice A' tg.length c') rfl
              clear HB' b2 hbel e0 e1 x0 x1 x2 x3 x4 x5 x6 x7 x8 x9 x10 x11
              go_wp2_with fail
              clear d1
              go_loopw [50] (fun i wr => ∃ (q : Nat), q ≤ tg.length ∧ i = .int .i64 q ∧ Hid ((tg.drop q).all (elOk T) = Rt) ∧ Below w.heap.size w wr ∧ Hid (Blk wr w.heap.size 26 tc)) (fun i _ => tg.length - (intOf i).toNat)
              case atStart => exact ⟨0, by omega, rfl, HO, hbel2, HB2⟩
              case round =>
                obtain ⟨q, hq, rfl, HSq, hbelq, HBq⟩ := hrel
                clear HO HB2 hbel2
                by_cases hql : q < tg.length
                · obtain ⟨y, hyq, _⟩ := get_el hql
                  obtain ⟨ay, rfl, hay, d0⟩ := HTO.out q _ hyq
                  have e0 := (hbelq.cell (p := ay.add q) (by rw [block_of_add]; exact hay)).trans d0
                  have HXq := Lib.hid hyq
                  obtain ⟨x0, x1, x2, x3, x4, x5, x6, x7, x8, x9, x10, x11⟩ := (show Blk _ _ _ #[_, _, _, _, _, _, _, _, _, _, _, _] from by have h := HBq.out; rw [HTC.out] at h; exact h).tab
                  clear d0 hyq hay
                  have s0 : (0 : Int) ≤ (q : Int) := by omega
                  have s1 : (q : Int) < (tg.length : Int) := by omega
                  have HS2 := Lib.hid (HST.out y)
                  have HTq := Lib.hid (HT.out _ hbelq)
                  rcases stat_ways (T.statusOf y) with ⟨ho, u0⟩ | ⟨ho, u0, u1⟩ | ⟨ho, u0, u1⟩
                  · have HNX := Lib.hid (each_go HXq.out HSq.out ho)
                    clear ho
                    go_wp2_with fail
                    refine (HS2.out _ HTq.out).mono ?_
                    rintro e w2 ⟨rfl, b2⟩
                    have HB3 := Lib.hid (HBq.out.later b2)
                    clear HBq x0 x1 x2 x3 x4 x5 x6 x7 x8 x9 x10 x11 e0
                    go_wp2_with fail
                    go_roundw
                    case rel => exact ⟨q + 1, by omega, by go_num, HNX, below_next hbelq b2, HB3⟩
                    case measure => simp [intOf]; omega
                  · have HNX := Lib.hid (each_go HXq.out HSq.out ho)
                    clear ho
                    go_wp2_with fail
                    refine (HS2.out _ HTq.out).mono ?_
                    rintro e w2 ⟨rfl, b2⟩
                    have HB3 := Lib.hid (HBq.out.later b2)
                    clear HBq x0 x1 x2 x3 x4 x5 x6 x7 x8 x9 x10 x11 e0
                    go_wp2_with fail
                    go_roundw
                    case rel => exact ⟨q + 1, by omega, by go_num, HNX, below_next hbelq b2, HB3⟩
                    case measure => simp [intOf]; omega
                  · have HNX := Lib.hid (each_no HXq.out HSq.out ho)
                    clear ho
                    go_wp2_with fail
                    refine (HS2.out _ HTq.out).mono ?_
                    rintro e w2 ⟨rfl, b2⟩
                    clear HBq x0 x1 x2 x3 x4 x5 x6 x7 x8 x9 x10 x11 e0
                    go_wp2_with fail
                    go_ret
                    rw [HR2.out, each_no HX.out HS.out (HOK2.out.trans HNX.out)]
                    exact ⟨rfl, below_next hbelq b2⟩
                · have HNX := Lib.hid (each_go HX.out HS.out (HOK2.out.trans (each_end (by omega) HSq.out)))
                  go_wp2_with fail
                  go_roundw
                  case rel => exact ⟨j + 1, by omega, by go_num, HNX, hbelq, HBq⟩
                  case measure => simp [intOf]; omega
            · have HNX := Lib.hid (each_no HX.out HS.out (mapOk_no (tg := tg) hs3))
              have p2 : (T.statusOf cc != 3) = true := by rw [bne_iff_ne]; exact hs3
              clear hs3
              go_wp2_with fail
              refine (HS1.out _ (HTR.out _)).mono ?_
              rintro e w2 ⟨rfl, b2⟩
              clear x0 x1 x2 x3 x4 x5 x6 x7 x8 x9 x10 x11 e0 e1
              go_wp2_with fail
              go_ret
              rw [HR2.out, HNX.out]
              exact ⟨rfl, below_next (hbel.alloc hbel.size _) b2⟩
          · have HNX := Lib.hid (each_end (by omega) HS.out)
            go_wp2_with fail
            go_ret
            rw [HR2.out, HNX.out]
            exact ⟨rfl, hbel⟩
      · have p1 : (m != (T.maps.length : Int)) = true := by rw [bne_iff_ne]; exact hne
        have HR2 : Hid (R = false) := Lib.hid (by rw [HRR.out, hNm, decide_eq_false hne, Bool.false_and])
        clear hne hNm HRR
        go_wp2_with fail
        go_ret
        rw [HR2.out]
        exact ⟨rfl, hbel⟩

set_option maxRecDepth 100000 in
set_option maxHeartbeats 4000000 in
theorem refMapped_any (t : Tv) (T : Tab) (w : World) (ht : TabR w w.heap.size t T) (hg : GoodS T.status) :
    Calls Tryd.prog 103 #[t.val] w fun e w' => e = .returned (.bool T.rule5) ∧ Below w.heap.size w w' := by
  obtain ⟨tc, htc⟩ : ∃ tc, tc = t.cells := ⟨_, rfl⟩
  have HST := Lib.hid (fun c W (h : TabR W W.heap.size t T) => refStatus_any t T c W h hg)
  have HT := Lib.hid (fun W (h : Below w.heap.size w W) => ht.later h)
  have hsp := ht.r5
  have hmp := ht.r8
  obtain ⟨A0, A1, A2, A3, A4, A5, A6, A7, A8, A9, A10, A11, k0, k1, k2, k3, k4, k5, k6, k7, k8, k9, k10, k11, rfl⟩ := ht.shape
  clear ht
  have HTC := Lib.hid htc
  clear htc
  obtain ⟨A, cp, hA, hc1, hc2, _, hcell⟩ := hsp
  cases hA
  have HC := Lib.hid hcell
  have hlm : T.status.length ≤ 256 := hg.2.1
  obtain ⟨B, cq, hB, hd1, hd2, _, hcell2⟩ := hmp
  cases hB
  have HM := Lib.hid hcell2
  have hln : T.maps.length ≤ 9223372036854775807 := by unfold maxLen at hd2; omega
  have HEL := Lib.hid (fun i a (h : T.status[i]? = some a) => okS_el hg.1 h)
  clear hcell hc1 hc2 hcell2 hd1 hd2 hg
  obtain ⟨R, hR⟩ : ∃ R, R = T.rule5 := ⟨_, rfl⟩
  rw [← hR]
  obtain ⟨N, hN⟩ : ∃ N, N = mapCount T.status := ⟨_, rfl⟩
  obtain ⟨Rm, hRm⟩ : ∃ Rm, Rm = T.maps.all T.mapOk := ⟨_, rfl⟩
  have HN0 : Hid (0 + mapCount (T.status.drop 0) = N) := Lib.hid (by rw [hN, Int.zero_add]; rfl)
  have HM0 : Hid ((T.maps.drop 0).all T.mapOk = Rm) := Lib.hid hRm.symm
  have HRR : Hid (R = (decide (N = (T.maps.length : Int)) && Rm)) := Lib.hid (by rw [hR, hN, hRm]; rfl)
  clear hR hN hRm
  go_enter Tryd.func103, Tryd.ntmps103
  go_wp2_with fail
  go_loopw [3, 14] (fun n i wr => ∃ (j : Nat) (m : Int), j ≤ T.status.length ∧ i = .int .i64 j ∧ n = .int .i64 m ∧ 0 ≤ m ∧ m ≤ 1114112 * (j : Int) ∧ Hid (m + mapCount (T.status.drop j) = N) ∧ Below w.heap.size w wr ∧ Hid (Blk wr w.heap.size 26 tc)) (fun _ i _ => T.status.length - (intOf i).toNat)
  case atStart => exact ⟨0, 0, by omega, rfl, rfl, by omega, by omega, HN0, (Below.refl _ _).alloc (Nat.le_refl _) _, Lib.hid (by rw [HTC.out]; exact Blk.new _ _ _)⟩
  case round =>
    obtain ⟨j, m, hj, rfl, rfl, hm0, hm1, HS, hbel, HB⟩ := hrel
    clear HN0
    by_cases hjl : j < T.status.length
    · obtain ⟨⟨f, t, x⟩, hxj, _⟩ := get_el hjl
      obtain ⟨aj, rfl, ha, d0, d1, d2⟩ := HC.out j _ hxj
      simp only at d0 d1 d2
      obtain ⟨e0, e1, e2⟩ := span_cells hbel ha d0 d1 d2
      have hel := HEL.out j _ hxj
      simp only at hel
      have hcg := count_go hxj HS.out
      simp only at hcg
      have HCG := Lib.hid hcg
      have HB' := Lib.hid (HB.out.alloc (.cells #[.int .i64 f, .int .i64 t, .int .i64 x] 44))
      clear d0 d1 d2 hxj ha hcg HB
      have r0 : (0 : Int) ≤ (j : Int) := by omega
      have r1 : (j : Int) < (T.status.length : Int) := by omega
      by_cases hx3 : x = 3
      · have HNX := Lib.hid (HCG.out.1 hx3)
        have p1 : (x == 3) = true := by rw [beq_iff_eq]; exact hx3
        clear hx3 HCG
        go_wp2_with fail
        go_roundw
        case rel => exact ⟨j + 1, m + (t - f + 1), by omega, by go_num, rfl, by omega, by omega, HNX, hbel.alloc hbel.size _, HB'⟩
        case measure => simp [intOf]; omega
      · have HNX := Lib.hid (HCG.out.2 hx3)
        have p1 : (x == 3) = false := by rw [beq_eq_false_iff_ne]; exact hx3
        clear hx3 HCG
        go_wp2_with fail
        go_roundw
        case rel => exact ⟨j + 1, m, by omega, by go_num, rfl, by omega, by omega, HNX, hbel.alloc hbel.size _, HB'⟩
        case measure => simp [intOf]; omega
    · have hNm := count_end (by omega) HS.out
      obtain ⟨x0, x1, x2, x3, x4, x5, x6, x7, x8, x9, x10, x11⟩ := (show Blk _ _ _ #[_, _, _, _, _, _, _, _, _, _, _, _] from by have h := HB.out; rw [HTC.out] at h; exact h).tab
      have HBT := Lib.hid HB.out
      clear HS HC HEL HB
      by_cases hne : m = (T.maps.length : Int)
      · have p1 : (m != (T.maps.length : Int)) = false := by rw [bne_eq_false_iff_eq]; exact hne
        have HR2 : Hid (R = Rm) := Lib.hid (by rw [HRR.out, hNm, decide_eq_true hne, Bool.true_and])
        clear hne hNm HRR
        go_wp2_with fail
        clear x0 x1 x2 x3 x4 x5 x6 x7 x8 x9 x10 x11
        go_loopw [38] (fun i wr => ∃ (j : Nat), j ≤ T.maps.length ∧ i = .int .i64 j ∧ Hid ((T.maps.drop j).all T.mapOk = Rm) ∧ Below w.heap.size w wr ∧ Hid (Blk wr w.heap.size 26 tc)) (fun i _ => T.maps.length - (intOf i).toNat)
        case atStart => exact ⟨0, by omega, rfl, HM0, hbel, HBT⟩
        case round =>
          obtain ⟨j, hj, rfl, HS, hbel, HB⟩ := hrel
          clear HM0 HBT
          by_cases hjl : j < T.maps.length
          · obtain ⟨⟨cc, tg⟩, hxj, _⟩ := get_el hjl
            obtain ⟨aj, sv, rfl, ha, d0, d1, hto⟩ := HM.out j _ hxj
            simp only at d0 d1 hto
            obtain ⟨A', c', rfl, he1, he2, _, hcl⟩ := id hto
            have HTO := Lib.hid hcl
            have hlt : tg.length ≤ 9223372036854775807 := by unfold maxLen at he2; omega
            obtain ⟨e0, e1⟩ := map_cells hbel ha d0 d1
            have HX := Lib.hid hxj
            have HTR := Lib.hid (fun o => HT.out _ (hbel.alloc hbel.size o))
            have HB' := Lib.hid (HB.out.alloc (.cells #[.int .i64 cc, .slice A' tg.length c'] 46))
            obtain ⟨x0, x1, x2, x3, x4, x5, x6, x7, x8, x9, x10, x11⟩ := (show Blk _ _ _ #[_, _, _, _, _, _, _, _, _, _, _, _] from by have h := HB'.out; rw [HTC.out] at h; exact h).tab
            clear d0 d1 hxj ha hto hcl he1 he2 HB
            have r0 : (0 : Int) ≤ (j : Int) := by omega
            have r1 : (j : Int) < (T.maps.length : Int) := by omega
            have HS1 := Lib.hid (HST.out cc)
            by_cases hs3 : T.statusOf cc = 3
            · have HOK := Lib.hid (mapOk_yes (T := T) (tg := tg) hs3)
              have p2 : (T.statusOf cc != 3) = false := by rw [bne_eq_false_iff_eq]; exact hs3
              obtain ⟨Rt, hRt⟩ : ∃ Rt, Rt = tg.all (elOk T) := ⟨_, rfl⟩
              have HO : Hid ((tg.drop 0).all (elOk T) = Rt) := Lib.hid hRt.symm
              have HOK2 : Hid (T.mapOk (cc, tg) = Rt) := Lib.hid (HOK.out.trans hRt.symm)
              clear hs3 HOK hRt
              go_wp2_with fail
              refine (HS1.out _ (HTR.out _)).mono ?_
              rintro e w2 ⟨rfl, b2⟩
              have hbel2 := below_next (hbel.alloc hbel.size (.cells #[.int .i64 cc, .slice A' tg.length c'] 46)) b2
              have HB2 := Lib.hid (HB'.out.later b2)
              have d1 := ((Blk.new wr 46 #[.int .i64 cc, .slice A' tg.length c']).later b2).at_ (i := 1) (u := .slice A' tg.length c') rfl
              clear HB' b2 hbel e0 e1 x0 x1 x2 x3 x4 x5 x6 x7 x8 x9 x10 x11
              go_wp2_with fail
              clear d1
              go_loopw [50] (fun i wr => ∃ (q : Nat), q ≤ tg.length ∧ i = .int .i64 q ∧ Hid ((tg.drop q).all (elOk T) = Rt) ∧ Below w.heap.size w wr ∧ Hid (Blk wr w.heap.size 26 tc)) (fun i _ => tg.length - (intOf i).toNat)
              case atStart => exact ⟨0, by omega, rfl, HO, hbel2, HB2⟩
              case round =>
                obtain ⟨q, hq, rfl, HSq, hbelq, HBq⟩ := hrel
                clear HO HB2 hbel2
                by_cases hql : q < tg.length
                · obtain ⟨y, hyq, _⟩ := get_el hql
                  obtain ⟨ay, rfl, hay, d0⟩ := HTO.out q _ hyq
                  have e0 := (hbelq.cell (p := ay.add q) (by rw [block_of_add]; exact hay)).trans d0
                  have HXq := Lib.hid hyq
                  obtain ⟨x0, x1, x2, x3, x4, x5, x6, x7, x8, x9, x10, x11⟩ := (show Blk _ _ _ #[_, _, _, _, _, _, _, _, _, _, _, _] from by have h := HBq.out; rw [HTC.out] at h; exact h).tab
                  clear d0 hyq hay
                  have s0 : (0 : Int) ≤ (q : Int) := by omega
                  have s1 : (q : Int) < (tg.length : Int) := by omega
                  have HS2 := Lib.hid (HST.out y)
                  have HTq := Lib.hid (HT.out _ hbelq)
                  rcases stat_ways (T.statusOf y) with ⟨ho, u0⟩ | ⟨ho, u0, u1⟩ | ⟨ho, u0, u1⟩
                  · have HNX := Lib.hid (each_go HXq.out HSq.out ho)
                    clear ho
                    go_wp2_with fail
                    refine (HS2.out _ HTq.out).mono ?_
                    rintro e w2 ⟨rfl, b2⟩
                    have HB3 := Lib.hid (HBq.out.later b2)
                    clear HBq x0 x1 x2 x3 x4 x5 x6 x7 x8 x9 x10 x11 e0
                    go_wp2_with fail
                    go_roundw
                    case rel => exact ⟨q + 1, by omega, by go_num, HNX, below_next hbelq b2, HB3⟩
                    case measure => simp [intOf]; omega
                  · have HNX := Lib.hid (each_go HXq.out HSq.out ho)
                    clear ho
                    go_wp2_with fail
                    refine (HS2.out _ HTq.out).mono ?_
                    rintro e w2 ⟨rfl, b2⟩
                    have HB3 := Lib.hid (HBq.out.later b2)
                    clear HBq x0 x1 x2 x3 x4 x5 x6 x7 x8 x9 x10 x11 e0
                    go_wp2_with fail
                    go_roundw
                    case rel => exact ⟨q + 1, by omega, by go_num, HNX, below_next hbelq b2, HB3⟩
                    case measure => simp [intOf]; omega
                  · have HNX := Lib.hid (each_no HXq.out HSq.out ho)
                    clear ho
                    go_wp2_with fail
                    refine (HS2.out _ HTq.out).mono ?_
                    rintro e w2 ⟨rfl, b2⟩
                    clear HBq x0 x1 x2 x3 x4 x5 x6 x7 x8 x9 x10 x11 e0
                    go_wp2_with fail
                    go_ret
                    rw [HR2.out, each_no HX.out HS.out (HOK2.out.trans HNX.out)]
                    exact ⟨rfl, below_next hbelq b2⟩
                · have HNX := Lib.hid (each_go HX.out HS.out (HOK2.out.trans (each_end (by omega) HSq.out)))
                  go_wp2_with fail
                  go_roundw
                  case rel => exact ⟨j + 1, by omega, by go_num, HNX, hbelq, HBq⟩
                  case measure => simp [intOf]; omega
            · have HNX := Lib.hid (each_no HX.out HS.out (mapOk_no (tg := tg) hs3))
              have p2 : (T.statusOf cc != 3) = true := by rw [bne_iff_ne]; exact hs3
              clear hs3
              go_wp2_with fail
              refine (HS1.out _ (HTR.out _)).mono ?_
              rintro e w2 ⟨rfl, b2⟩
              clear x0 x1 x2 x3 x4 x5 x6 x7 x8 x9 x10 x11 e0 e1
              go_wp2_with fail
              go_ret
              rw [HR2.out, HNX.out]
              exact ⟨rfl, below_next (hbel.alloc hbel.size _) b2⟩
          · have HNX := Lib.hid (each_end (by omega) HS.out)
            go_wp2_with fail
            go_ret
            rw [HR2.out, HNX.out]
            exact ⟨rfl, hbel⟩
      · have p1 : (m != (T.maps.length : Int)) = true := by rw [bne_iff_ne]; exact hne
        have HR2 : Hid (R = false) := Lib.hid (by rw [HRR.out, hNm, decide_eq_false hne, Bool.false_and])
        clear hne hNm HRR
        go_wp2_with fail
        go_ret
        rw [HR2.out]
        exact ⟨rfl, hbel⟩
end Go.Proofs.YtneinkpfhkojgaaDoor
