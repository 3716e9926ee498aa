/-
  Merged texts: lemmas and walks that the last text of this claim leans on.
-/
import Derived.Test.YtikcfoobfobmnaaGreatDoorMgB71
import Derived.Test.YtikcfoobfobmnaaGreatDoorMgB72
import Derived.Deep.RegionLaw
import Derived.Deep.AppendLies
import Derived.BigRegion
/-
  Words for memory: a slice value that reads as a list of mappings; tables by value; the variable that holds the reserved blocks.
-/
namespace Go.Proofs.YtikcfoobfobmnaaGreatDoor
open Go.ChangeShapes Go.WideShapes Go.Deep Go.RowKit ND

/-- The slice value v holds the mappings xs; their cells and their sequences' cells lie below block B. -/
def Mapps (w : World) (B : Nat) (v : Value) (xs : List Mp) : Prop :=
  ∃ A c, v = .slice A xs.length c ∧ xs.length ≤ c ∧ c ≤ maxLen ∧ (A = none → c = 0) ∧
    ∀ i x, xs[i]? = some x → ∃ ad sv, A = some ad ∧ ad.block < B ∧ w.cell? (ad.add (i * 2)) = some (.int .i64 x.1) ∧ w.cell? (ad.add (i * 2 + 1)) = some sv ∧ Ints w B .i64 sv x.2
section
variable {w w' : World} {B B' : Nat} {v : Value} {xs : List Mp}
theorem Mapps.keep (h : Mapps w B v xs) (hk : ∀ p : Addr, p.block < B → w'.cell? p = w.cell? p) : Mapps w' B v xs := by
  obtain ⟨A, c, hv, h1, h2, h3, h4⟩ := h
  refine ⟨A, c, hv, h1, h2, h3, fun i x hi => ?_⟩
  obtain ⟨ad, sv, e, hb, c0, c1, hi'⟩ := h4 i x hi
  exact ⟨ad, sv, e, hb, (hk _ (by rw [block_of_add]; exact hb)).trans c0, (hk _ (by rw [block_of_add]; exact hb)).trans c1, hi'.keep hk⟩
theorem Mapps.more (h : Mapps w B v xs) (hB : B ≤ B') : Mapps w B' v xs := by
  obtain ⟨A, c, hv, h1, h2, h3, h4⟩ := h
  refine ⟨A, c, hv, h1, h2, h3, fun i x hi => ?_⟩
  obtain ⟨ad, sv, e, hb, c0, c1, hi'⟩ := h4 i x hi
  exact ⟨ad, sv, e, by omega, c0, c1, hi'.more hB⟩
theorem Mapps.below (h : Mapps w B v xs) (hb : Below B w w') : Mapps w' B v xs := h.keep fun _ hp => hb.cell hp
theorem Mapps.later (h : Mapps w w.heap.size v xs) (hb : Below w.heap.size w w') : Mapps w' w'.heap.size v xs := (h.below hb).more hb.size
theorem Mapps.none_ : Mapps w B (.slice none 0 0) [] := ⟨none, 0, rfl, Nat.le_refl _, Nat.zero_le _, fun _ => rfl, fun _ _ h => by simp at h⟩
end

/-- The two cells of a mapping, as a load of the whole has them, and its sequence. -/
theorem map_cells {w wr : World} {ad : Addr} {k : Nat} {B : Nat} {x y : Value} (hb : Below B w wr) (ha : ad.block < B) (d0 : w.cell? (ad.add (k * 2)) = some x) (d1 : w.cell? (ad.add (k * 2 + 1)) = some y) :
    wr.cell? (ad.add (k * 2)) = some x ∧ wr.cell? { block := (ad.add (k * 2)).block, off := (ad.add (k * 2)).off + 1, spot := none } = some y := by
  refine ⟨(hb.cell (p := ad.add (k * 2)) (by rw [block_of_add]; exact ha)).trans d0, ?_⟩
  rw [← add_mid _ _ _ (by decide)]; exact (hb.cell (p := ad.add (k * 2 + 1)) (by rw [block_of_add]; exact ha)).trans d1

/-- The twelve slices of tables. -/
structure Tv where
  c0 : Value
  c1 : Value
  c2 : Value
  c3 : Value
  c4 : Value
  c5 : Value
  c6 : Value
  c7 : Value
  c8 : Value
  c9 : Value
  c10 : Value
  c11 : Value
structure TabR (w : World) (B : Nat) (t : Tv) (T : Tab) : Prop where
  r0 : Spans w B t.c0 T.category
  r1 : Spans w B t.c1 T.cls
  r2 : Spans w B t.c2 T.joining
  r3 : Spans w B t.c3 T.bidi
  r4 : Spans w B t.c4 T.script
  r5 : Spans w B t.c5 T.status
  r6 : Spans w B t.c6 T.ignorable
  r7 : Mapps w B t.c7 T.extensions
  r8 : Mapps w B t.c8 T.maps
  r9 : Mapps w B t.c9 T.decomps
  r10 : Ints w B .i64 t.c10 T.excluded
  r11 : Mapps w B t.c11 T.prototypes
section
variable {w w' : World} {B B' : Nat} {t : Tv} {T : Tab}
theorem TabR.keep (h : TabR w B t T) (hk : ∀ p : Addr, p.block < B → w'.cell? p = w.cell? p) : TabR w' B t T :=
  ⟨h.r0.keep hk, h.r1.keep hk, h.r2.keep hk, h.r3.keep hk, h.r4.keep hk, h.r5.keep hk, h.r6.keep hk, h.r7.keep hk, h.r8.keep hk, h.r9.keep hk, h.r10.keep hk, h.r11.keep hk⟩
theorem TabR.more (h : TabR w B t T) (hB : B ≤ B') : TabR w B' t T :=
  ⟨h.r0.more hB, h.r1.more hB, h.r2.more hB, h.r3.more hB, h.r4.more hB, h.r5.more hB, h.r6.more hB, h.r7.more hB, h.r8.more hB, h.r9.more hB, h.r10.more hB, h.r11.more hB⟩
theorem TabR.below (h : TabR w B t T) (hb : Below B w w') : TabR w' B t T := h.keep fun _ hp => hb.cell hp
theorem TabR.later (h : TabR w w.heap.size t T) (hb : Below w.heap.size w w') : TabR w' w'.heap.size t T := (h.below hb).more hb.size
end
/-- Tables as a value. -/
abbrev Tv.val (t : Tv) : Value := .agg #[t.c0, t.c1, t.c2, t.c3, t.c4, t.c5, t.c6, t.c7, t.c8, t.c9, t.c10, t.c11]
abbrev Tv.cells (t : Tv) : Array Value := #[t.c0, t.c1, t.c2, t.c3, t.c4, t.c5, t.c6, t.c7, t.c8, t.c9, t.c10, t.c11]
end Go.Proofs.YtikcfoobfobmnaaGreatDoor
/-
  Worlds in which some blocks are not looked at: readings that lean on the other blocks alone.
-/
namespace Go.Proofs.YtikcfoobfobmnaaGreatDoor
open Go.RowKit ND

/-- The world, with nothing in the blocks S. -/
def veil (S : List Nat) (w : World) : World := { w with heap := w.heap.mapIdx fun i o => if i ∈ S then .cells #[] 0 (0, 0) else o }
theorem veil_size (S : List Nat) (w : World) : (veil S w).heap.size = w.heap.size := by simp [veil]
theorem veil_at (S : List Nat) (w : World) (k : Nat) (h : k ∉ S) : (veil S w).heap[k]? = w.heap[k]? := by
  simp [veil, Array.getElem?_mapIdx, h]
theorem veil_in (S : List Nat) (w : World) (k : Nat) (h : k ∈ S) (hk : k < w.heap.size) : (veil S w).heap[k]? = some (.cells #[] 0 (0, 0)) := by
  simp [veil, h, hk]
theorem veil_cell {S : List Nat} {w : World} {p : Addr} {v : Value} (h : (veil S w).cell? p = some v) : w.cell? p = some v := by
  by_cases hp : p.block ∈ S
  · exfalso
    have hlt := World.block_lt_of_cell? _ _ h
    rw [veil_size] at hlt
    have := veil_in S w p.block hp hlt
    unfold World.cell? at h
    rw [this] at h
    simp at h
  · have e := veil_at S w p.block hp
    unfold World.cell? at h ⊢
    rw [e] at h
    exact h
/-- What changes the blocks S alone. -/
def onlyIn (S : List Nat) (w w' : World) : Prop := w'.os = w.os ∧ w'.tape = w.tape ∧ w'.output = w.output ∧ w.heap.size ≤ w'.heap.size ∧ ∀ k, k ∉ S → k < w.heap.size → w'.heap[k]? = w.heap[k]?
theorem onlyIn.refl (S : List Nat) (w : World) : onlyIn S w w := ⟨rfl, rfl, rfl, Nat.le_refl _, fun _ _ _ => rfl⟩
theorem onlyIn.trans {S : List Nat} {a b c : World} (h : onlyIn S a b) (k : onlyIn S b c) : onlyIn S a c :=
  ⟨k.1.trans h.1, k.2.1.trans h.2.1, k.2.2.1.trans h.2.2.1, Nat.le_trans h.2.2.2.1 k.2.2.2.1, fun i hi hl => (k.2.2.2.2 i hi (Nat.lt_of_lt_of_le hl h.2.2.2.1)).trans (h.2.2.2.2 i hi hl)⟩
theorem onlyIn.of_below {S : List Nat} {w w' : World} (h : Below w.heap.size w w') : onlyIn S w w' := ⟨h.os, h.tape, h.output, h.size, fun k _ hk => h.block k hk⟩
theorem onlyIn.of_grown {S : List Nat} {w w' : World} {g : Nat} (h : w.grownBy w' (some g)) (hg : g ∈ S) : onlyIn S w w' :=
  ⟨h.os, h.tape, h.output, h.size, fun k hk hl => h.block k hl (fun e => hk (by cases e; exact hg))⟩
theorem onlyIn.of_own {S : List Nat} {w w' : World} {v : Value} (h : w.grownBy w' v.ownBlock) (hg : ∀ g, v.ownBlock = some g → g ∈ S) : onlyIn S w w' :=
  ⟨h.os, h.tape, h.output, h.size, fun k hk hl => h.block k hl (fun e => hk (hg k e.symm))⟩
theorem onlyIn.more {S S' : List Nat} {w w' : World} (h : onlyIn S w w') (hs : ∀ x ∈ S, x ∈ S') : onlyIn S' w w' := ⟨h.1, h.2.1, h.2.2.1, h.2.2.2.1, fun k hk hl => h.2.2.2.2 k (fun hx => hk (hs k hx)) hl⟩
/-- Below a block that lies below all of S. -/
theorem onlyIn.below {S : List Nat} {w w' : World} {B : Nat} (h : onlyIn S w w') (hB : ∀ x ∈ S, B ≤ x) (hs : B ≤ w.heap.size) : Below B w w' :=
  ⟨h.1, h.2.1, h.2.2.1, h.2.2.2.1, fun k hk => h.2.2.2.2 k (fun hx => by have := hB k hx; omega) (Nat.lt_of_lt_of_le hk hs)⟩
theorem onlyIn.veiled {S : List Nat} {w w' : World} (h : onlyIn S w w') : Below (veil S w).heap.size (veil S w) (veil S w') := by
  refine ⟨h.1, h.2.1, h.2.2.1, by rw [veil_size, veil_size]; exact h.2.2.2.1, fun k hk => ?_⟩
  rw [veil_size] at hk
  by_cases hx : k ∈ S
  · rw [veil_in S w k hx hk, veil_in S w' k hx (Nat.lt_of_lt_of_le hk h.2.2.2.1)]
  · rw [veil_at S w k hx, veil_at S w' k hx]; exact h.2.2.2.2 k hx hk
theorem onlyIn.blk {S : List Nat} {w w' : World} {g : Nat} {t : TypeId} {cs : Array Value} (h : onlyIn S w w') (hb : Blk w g t cs) (hg : g ∉ S) : Blk w' g t cs := (h.2.2.2.2 g hg hb.lt).trans hb

section
variable {S : List Nat} {w : World} {B : Nat}
theorem Ints.unveil {k : IntKind} {v : Value} {xs : List Int} (h : Ints (veil S w) B k v xs) : Ints w B k v xs := by
  obtain ⟨A, c, hv, h1, h2, h3, h4⟩ := h
  refine ⟨A, c, hv, h1, h2, h3, fun i x hi => ?_⟩
  obtain ⟨ad, e, hb, hc⟩ := h4 i x hi
  exact ⟨ad, e, hb, veil_cell hc⟩
theorem Spans.unveil {v : Value} {xs : List (Int × Int × Int)} (h : Spans (veil S w) B v xs) : Spans w B v xs := by
  obtain ⟨A, c, hv, h1, h2, h3, h4⟩ := h
  refine ⟨A, c, hv, h1, h2, h3, fun i x hi => ?_⟩
  obtain ⟨ad, e, hb, c0, c1, c2⟩ := h4 i x hi
  exact ⟨ad, e, hb, veil_cell c0, veil_cell c1, veil_cell c2⟩
theorem Mapps.unveil {v : Value} {xs : List Mp} (h : Mapps (veil S w) B v xs) : Mapps w B v xs := by
  obtain ⟨A, c, hv, h1, h2, h3, h4⟩ := h
  refine ⟨A, c, hv, h1, h2, h3, fun i x hi => ?_⟩
  obtain ⟨ad, sv, e, hb, c0, c1, hi'⟩ := h4 i x hi
  exact ⟨ad, sv, e, hb, veil_cell c0, veil_cell c1, hi'.unveil⟩
theorem TabR.unveil {t : Tv} {T : Tab} (h : TabR (veil S w) B t T) : TabR w B t T :=
  ⟨h.r0.unveil, h.r1.unveil, h.r2.unveil, h.r3.unveil, h.r4.unveil, h.r5.unveil, h.r6.unveil, h.r7.unveil, h.r8.unveil, h.r9.unveil, h.r10.unveil, h.r11.unveil⟩
/-- A reading of a block that is not veiled. -/
theorem cell_veil {p : Addr} (hp : p.block ∉ S) : (veil S w).cell? p = w.cell? p := by
  have e := veil_at S w p.block hp
  unfold World.cell?
  rw [e]
theorem Spans.veil_own {base : Nat} {e : TypeId} {v : Value} {xs : List (Int × Int × Int)} (h : w.ownsRow base e 3 v xs.length (xs.flatMap spCells)) (hS : ∀ x ∈ S, x < base) : Spans (veil S w) (veil S w).heap.size v xs := by
  have h1 := Spans.of_own h
  obtain ⟨A, c, hv, h1, h2, h3, h4⟩ := h1
  refine ⟨A, c, hv, h1, h2, h3, fun i x hi => ?_⟩
  obtain ⟨ad, rfl, hb, c0, c1, c2⟩ := h4 i x hi
  have hob : base ≤ ad.block := by
    have hlt := h.lt ad.block
    rcases h.2 with ⟨hv', _⟩ | ⟨g, cap, cur, hv', hbg, _⟩
    · rw [hv] at hv'; cases hv'
    · rw [hv] at hv'; cases hv'; exact hbg
  have hn : ad.block ∉ S := fun hx => by have := hS _ hx; omega
  refine ⟨ad, rfl, by rw [veil_size]; exact hb, ?_, ?_, ?_⟩
  · rw [cell_veil (by rw [block_of_add]; exact hn)]; exact c0
  · rw [cell_veil (by rw [block_of_add]; exact hn)]; exact c1
  · rw [cell_veil (by rw [block_of_add]; exact hn)]; exact c2
end
end Go.Proofs.YtikcfoobfobmnaaGreatDoor
/-
  The walk through keep.choose.
-/
namespace Go.Proofs.YtikcfoobfobmnaaGreatDoor
open Go.RowKit ND

def RetChoose (w : World) (g : Nat) (v : Value) (n : Nat) (ys : List Int) (e : Ending) (w' : World) : Prop :=
  ∃ r : Int, e = .returned (.int .i64 r) ∧ r ∈ ys ∧ Src w' g v n ∧ w.grownBy w' (some g)

theorem grown_cell {w w' : World} {g : Nat} {p : Addr} {x : Value} (h : w.grownBy w' (some g)) (hp : p.block ≠ g) (hc : w.cell? p = some x) : w'.cell? p = some x := by
  have hlt := World.block_lt_of_cell? _ _ hc
  have e := h.block p.block hlt (fun e => hp (by cases e; rfl))
  unfold World.cell? at hc ⊢
  rw [e]; exact hc

set_option maxRecDepth 100000 in
set_option maxHeartbeats 1000000 in
theorem choose_any (w : World) (g : Nat) (v : Value) (xs : List Int) (hv : Ints w g .i64 v xs) (hs : Src w g v xs.length) (ys : List Int) (ad : Addr) (c : Nat)
    (hy : ∀ i x, ys[i]? = some x → w.cell? (ad.add i) = some (.int .i64 x)) (hb : ad.block ≠ g) (hl : 0 < ys.length) (hl2 : ys.length ≤ 1000) :
    Calls Tryz.prog 24 #[.pointer (some ⟨g, 0, none⟩), .slice (some ad) ys.length c] w (RetChoose w g v xs.length ys) := by
  have HN : Hid (∀ (W : World) (m : Int), w.grownBy W (some g) → Src W g v xs.length → 0 < m → m ≤ 1000000 → Calls Tryz.prog 21 #[.pointer (some ⟨g, 0, none⟩), .int .i64 m] W (RetNext W g v xs.length m)) := by
    refine Lib.hid fun W m hW hS h0 h1 => next_src W g v xs m ?_ hS h0 h1
    obtain ⟨A, c, hv', h1, h2, h3, h4⟩ := hv
    refine ⟨A, c, hv', h1, h2, h3, fun i x hi => ?_⟩
    obtain ⟨a, e, hb, hc⟩ := h4 i x hi
    exact ⟨a, e, hb, grown_cell hW (by rw [block_of_add]; omega) hc⟩
  have HY : Hid (∀ (W : World), w.grownBy W (some g) → ∀ i x, ys[i]? = some x → W.cell? (ad.add i) = some (.int .i64 x)) := by
    refine Lib.hid fun W hW i x hi => grown_cell hW (by rw [block_of_add]; exact hb) (hy i x hi)
  clear hy hv
  obtain ⟨y0, hy0, hy0m⟩ := get_of hl
  have l0 : (0 : Int) < (ys.length : Int) := by omega
  have l1 : (ys.length : Int) ≤ 1000000 := by omega
  have HS := Lib.hid hs; clear hs
  go_enter Tryz.func24, Tryz.ntmps24
  go_wp2_with (first | (go_at_call 21; refine (HN.out w _ (grown_refl w _) HS.out ?_ ?_).mono ?_; decide; decide; rintro e w1 ⟨r, rfl, r0, r3, hs1, hg1⟩; have c1 : w1.cell? ad = some (.int .i64 y0) := HY.out w1 hg1 0 y0 hy0) | (go_at_call 21; refine (HN.out w1 _ hg1 hs1 l0 l1).mono ?_; rintro e w2 ⟨q, rfl, q0, q1, hs2, hg2⟩; obtain ⟨k, rfl⟩ := Int.eq_ofNat_of_zero_le q0; obtain ⟨x, hx, hxm⟩ := get_of (show k < ys.length by omega); have hg3 := hg1.trans hg2; have c2 := HY.out w2 hg3 k x hx))
  all_goals go_ret
  · exact ⟨y0, rfl, hy0m, hs1, hg1⟩
  · exact ⟨x, rfl, hxm, hs2, hg3⟩
end Go.Proofs.YtikcfoobfobmnaaGreatDoor
/-
  One integer is appended, at a step of a region that draws its order: a law for go_region_law.
-/
namespace Go.Proofs.YtikcfoobfobmnaaGreatDoor
open Go.RowKit

theorem step_push_int {P : Program} {ops : Array Oper} {o : Oper} {a : Act} {W w : World} {K : Act → World → Prop} {Q : Exit → Act → World → Prop} {E : Prop} {T e : TypeId} {i0 : TypeInfo} (hgd : o.guard = none) (s x : Operand)
    (ho : o.op = .call { callee := .builtin .append, args := #[s, x], argTypes := #[T, T] }) (ht : P.underlying T = some (.slice e)) (hi : P.info? e = some i0) (hz : i0.zero = some (.int .i64 0)) (h1 : i0.size = 1) (h2 : i0.bytes = 8)
    (v : Value) (acc : List Int) (y : Int) (hs : a.eval s = v) (hown : w.ownsRow W.heap.size e 1 v acc.length (acc.map (Value.int .i64))) (hbel : Below W.heap.size W w) (hx : a.eval x = .slice (some ⟨w.heap.size, 0, none⟩) 1 1) (hl : acc.length ≤ 1000000)
    (h : ∀ v' w', w'.ownsRow W.heap.size e 1 v' (acc ++ [y]).length ((acc ++ [y]).map (Value.int .i64)) → Below W.heap.size W w' → K (a.put o.dst v') w') :
    if Region.wanted o (yielded ops a.tmps) = true then Oper.wp P o a ((w.alloc (.cells #[.int .i64 y] e)).drew) K Q else E := by
  refine step_append_lies _ hgd s x T ho W.heap.size e i0 (.int .i64 0) 1 8 ht hi hz h1 h2 rfl (by omega) v acc.length (acc.map (Value.int .i64)) hs ((hown.alloc _).drew) ⟨w.heap.size, 0, none⟩ 1 1 [.int .i64 y] hx rfl
    (World.news_of_block (cs := #[.int .i64 y]) (t := e) (fr := (0, 0)) (heap_alloc_new w _)) (by simp [Value.oneCell']) (by omega) (by unfold maxLen; omega) (by omega) (by have := hbel.size; simp; omega) _ rfl ?_
  intro g cap w1 hown1 hgrow hat hlt
  refine h _ _ (by simpa using hown1) ?_
  refine ((hbel.alloc hbel.size _).drew).grown hgrow ?_ ?_
  · have := hbel.size; simp; omega
  · intro k hk
    exact (hown.lt k hk).1
end Go.Proofs.YtikcfoobfobmnaaGreatDoor
/-
  A list of integers is appended to an own row: append(v, u...), u any list that can be read.
-/
namespace Go.Proofs.YtikcfoobfobmnaaGreatDoor
open Go.RowKit

theorem run_append_none {P : Program} {w : World} {t ty e : TypeId} {i : TypeInfo} (ht : P.underlying t = some (.slice e)) (hi : P.info? e = some i) {base size : Nat} {v : Value} {n : Nat} {xs : List Value} (hown : w.ownsRow base e size v n xs) :
    (Builtin.append_ #[t, t] ty #[v, .slice none 0 0]).run P w = .ok v w := by
  rcases hown.2 with ⟨rfl, _⟩ | ⟨g, cap, cur, rfl, _, _, hnc, _, _, _⟩
  · simp [Builtin.append_, run_underlying ht, sizeOf, typeInfo, hi, Builtin.lenOf, Builtin.firstCells]
  · simp [Builtin.append_, run_underlying ht, sizeOf, typeInfo, hi, Builtin.lenOf, Builtin.firstCells, hnc, storeCells]

theorem wpList_append_ints {P : Program} {ops : Array Oper} {rest : List Oper} {o : Oper} {a : Act} {w : World} {Q : Exit → Act → World → Prop} {T e : TypeId} {i0 : TypeInfo} (hw : Region.wanted o (yielded ops a.tmps) = true) (s x : Operand)
    (ho : o.op = .call { callee := .builtin .append, args := #[s, x], argTypes := #[T, T] }) (ht : P.underlying T = some (.slice e)) (hi : P.info? e = some i0) (hz : i0.zero = some (.int .i64 0)) (h1 : i0.size = 1) (h2 : i0.bytes = 8)
    (B base : Nat) (v : Value) (acc : List Int) (u : Value) (ys : List Int) (hs : a.eval s = v) (hown : w.ownsRow base e 1 v acc.length (acc.map (Value.int .i64))) (hx : a.eval x = u) (hu : Ints w B .i64 u ys) (hl : acc.length + ys.length ≤ 1000000) (hb : base ≤ w.heap.size)
    (h : ∀ v' w', w'.ownsRow base e 1 v' (acc ++ ys).length ((acc ++ ys).map (Value.int .i64)) → w.grownBy w' v.ownBlock → (ys = [] → v = .slice none 0 0 → v' = .slice none 0 0) → wpList P ops Q rest (a.put o.dst v') w') : wpList P ops Q (o :: rest) a w := by
  refine wpList_step fun K hK => ?_
  rw [if_pos hw]
  have key : ∀ v' w', w'.ownsRow base e 1 v' (acc ++ ys).length ((acc ++ ys).map (Value.int .i64)) → w.grownBy w' v.ownBlock → (ys = [] → v = .slice none 0 0 → v' = .slice none 0 0) → K (a.put o.dst v') w' := fun v' w' p q r => hK _ _ (h v' w' p q r)
  obtain ⟨A, c, rfl, hc1, hc2, hA, hcell⟩ := hu
  cases A with
  | none =>
    obtain rfl : c = 0 := hA rfl
    obtain rfl : ys = [] := List.eq_nil_of_length_eq_zero (by omega)
    have hr := run_append_none (P := P) (ty := o.type) ht hi hown
    have h3 := key v w (by simpa using hown) (grown_refl w _) (fun _ e => e)
    unfold Oper.wp execOp
    simp only [ho, resolve, invoke, builtin, Sem.run_bind, Sem.run_pure, Result.andThen_ok, List.map_toArray, List.map_cons, List.map_nil, hs, hx, List.length_nil, hr]
    exact h3
  | some ad =>
    refine wp_append_own w s x T ho base e i0 (.int .i64 0) 1 8 ht hi hz h1 h2 rfl (by omega) v acc.length _ hs hown ad ys.length c (ys.map (Value.int .i64)) hx (by simp) ?_ ?_ (by unfold maxLen; omega) (by omega) hb ?_
    · intro j q hq
      rw [List.getElem?_map] at hq
      cases hy : ys[j]? with
      | none => rw [hy] at hq; cases hq
      | some y =>
        rw [hy] at hq; cases hq
        obtain ⟨ad', e1, _, e2⟩ := hcell j y hy
        cases e1; exact e2
    · intro q hq
      obtain ⟨y, _, rfl⟩ := List.mem_map.1 hq
      rfl
    · intro v' w' p q r
      exact key v' w' (by simpa using p) q (fun e1 e2 => r.2 ⟨e2, by rw [e1]; rfl⟩)
end Go.Proofs.YtikcfoobfobmnaaGreatDoor
/-
  The walk through keep.add.
-/
namespace Go.Proofs.YtikcfoobfobmnaaGreatDoor
open Go.RowKit ND

theorem flat_len3 (acc : List Sp) : (acc.flatMap spCells).length = acc.length * 3 := by
  induction acc with
  | nil => rfl
  | cons a r ih => simp only [List.flatMap_cons, List.length_append, ih, List.length_cons]; have : (spCells a).length = 3 := rfl; omega

/-- The cells of spans that can be read, one after the other. -/
theorem spans_news {X : World} {L : List Sp} {ad : Addr}
    (h : ∀ i x, L[i]? = some x → X.cell? (ad.add (i * 3)) = some (.int .i64 x.1) ∧ X.cell? (ad.add (i * 3 + 1)) = some (.int .i64 x.2.1) ∧ X.cell? (ad.add (i * 3 + 2)) = some (.int .i64 x.2.2)) :
    ∀ j u, (L.flatMap spCells)[j]? = some u → X.cell? (ad.add j) = some u := by
  intro j u hj
  have hlt : j < (L.flatMap spCells).length := (List.getElem?_eq_some_iff.1 hj).1
  rw [flat_len3] at hlt
  have hi : j / 3 < L.length := by omega
  obtain ⟨x, hx⟩ : ∃ x, L[j / 3]? = some x := ⟨_, List.getElem?_eq_getElem hi⟩
  obtain ⟨a0, a1, a2⟩ := spCells_at hx
  obtain ⟨b0, b1, b2⟩ := h _ x hx
  have hc : j = j / 3 * 3 ∨ j = j / 3 * 3 + 1 ∨ j = j / 3 * 3 + 2 := by omega
  rcases hc with e | e | e
  · rw [e] at hj ⊢; rw [a0] at hj; rw [b0]; exact hj
  · rw [e] at hj ⊢; rw [a1] at hj; rw [b1]; exact hj
  · rw [e] at hj ⊢; rw [a2] at hj; rw [b2]; exact hj

theorem step_app_nil {P : Program} {ops : Array Oper} {o : Oper} {a : Act} {X : World} {K : Act → World → Prop} {Q : Exit → Act → World → Prop} {E : Prop} {T e : TypeId} {i0 : TypeInfo} (hgd : o.guard = none) (s x : Operand)
    (ho : o.op = .call { callee := .builtin .append, args := #[s, x], argTypes := #[T, T] }) (ht : P.underlying T = some (.slice e)) (hi : P.info? e = some i0) (hz : i0.zero = some (.agg #[.int .i64 0, .int .i64 0, .int .i64 0])) (h1 : i0.size = 3) (h2 : i0.bytes = 24)
    (R : World) (u : Value) (L : List Sp) (B : Nat) (hs : a.eval s = .slice none 0 0) (hx : a.eval x = u) (hu : Spans X B u L) (hl : L.length ≤ 1000000) (hb : R.heap.size ≤ X.heap.size)
    (h : ∀ v' w', w'.ownsRow R.heap.size e 3 v' L.length (L.flatMap spCells) → X.grownBy w' none → K (a.put o.dst v') w') :
    if Region.wanted o (yielded ops a.tmps) = true then Oper.wp P o a X K Q else E := by
  have hw : Region.wanted o (yielded ops a.tmps) = true := by simp [Region.wanted, hgd]
  rw [if_pos hw]
  have hown : X.ownsRow R.heap.size e 3 (.slice none 0 0) 0 [] := World.ownsRow_nil _ _ _ _
  obtain ⟨A, c, rfl, hc1, hc2, hA, hcell⟩ := hu
  cases A with
  | none =>
    obtain rfl : c = 0 := hA rfl
    obtain rfl : L = [] := List.eq_nil_of_length_eq_zero (by omega)
    have hr := run_append_none (P := P) (ty := o.type) ht hi hown
    have h3 := h (.slice none 0 0) X (by simpa using hown) (grown_refl X none)
    unfold Oper.wp execOp
    simp only [ho, resolve, invoke, builtin, Sem.run_bind, Sem.run_pure, Result.andThen_ok, List.map_toArray, List.map_cons, List.map_nil, hs, hx, List.length_nil, hr]
    exact h3
  | some ad =>
    refine wp_append_own X s x T ho R.heap.size e i0 (.agg #[.int .i64 0, .int .i64 0, .int .i64 0]) 3 24 ht hi hz h1 h2 rfl (by omega) (.slice none 0 0) 0 [] hs hown ad L.length c (L.flatMap spCells) hx (flat_len3 L) ?_ ?_ (by unfold maxLen; omega) (by omega) hb ?_
    · refine spans_news fun i x hi => ?_
      obtain ⟨ad', e1, _, e2⟩ := hcell i x hi
      cases e1; exact e2
    · intro q hq
      obtain ⟨y, _, hy⟩ := List.mem_flatMap.1 hq
      simp only [spCells, List.mem_cons, List.not_mem_nil, or_false] at hy
      rcases hy with rfl | rfl | rfl <;> rfl
    · intro v' w' p q r
      exact h v' w' (by simpa using p) q

theorem step_app_one {P : Program} {ops : Array Oper} {o : Oper} {a : Act} {X : World} {K : Act → World → Prop} {Q : Exit → Act → World → Prop} {E : Prop} {T e : TypeId} {i0 : TypeInfo} (hgd : o.guard = none) (s x : Operand)
    (ho : o.op = .call { callee := .builtin .append, args := #[s, x], argTypes := #[T, T] }) (ht : P.underlying T = some (.slice e)) (hi : P.info? e = some i0) (hz : i0.zero = some (.agg #[.int .i64 0, .int .i64 0, .int .i64 0])) (h1 : i0.size = 3) (h2 : i0.bytes = 24)
    (R : World) (v : Value) (k : Nat) (L : List Sp) (f t u : Int) (hs : a.eval s = v) (hx : a.eval x = .slice (some ⟨k, 0, none⟩) 1 1) (hown : X.ownsRow R.heap.size e 3 v L.length (L.flatMap spCells)) (hk : Blk X k e #[.int .i64 f, .int .i64 t, .int .i64 u]) (hl : L.length ≤ 1000000) (hb : R.heap.size ≤ X.heap.size)
    (h : ∀ v' w', w'.ownsRow R.heap.size e 3 v' (L ++ [(f, t, u)]).length ((L ++ [(f, t, u)]).flatMap spCells) → X.grownBy w' v.ownBlock → K (a.put o.dst v') w') :
    if Region.wanted o (yielded ops a.tmps) = true then Oper.wp P o a X K Q else E := by
  have hw : Region.wanted o (yielded ops a.tmps) = true := by simp [Region.wanted, hgd]
  rw [if_pos hw]
  refine wp_append_own X s x T ho R.heap.size e i0 (.agg #[.int .i64 0, .int .i64 0, .int .i64 0]) 3 24 ht hi hz h1 h2 rfl (by omega) v L.length _ hs hown ⟨k, 0, none⟩ 1 1 [.int .i64 f, .int .i64 t, .int .i64 u] hx rfl
    (World.news_of_block (cs := #[.int .i64 f, .int .i64 t, .int .i64 u]) hk) ?_ (by unfold maxLen; omega) (by omega) hb ?_
  · intro q hq; simp at hq; rcases hq with rfl | rfl | rfl <;> rfl
  · intro v' w' p q r
    exact h v' w' (by rw [spans_snoc]; simpa [spCells] using p) q

theorem own_slice {w : World} {base : Nat} {e : TypeId} {size : Nat} {v : Value} {n : Nat} {xs : List Value} (h : w.ownsRow base e size v n xs) : ∃ A m c, v = .slice A m c := by
  rcases h.2 with ⟨rfl, _⟩ | ⟨g, cap, cur, rfl, _⟩
  · exact ⟨_, _, _, rfl⟩
  · exact ⟨_, _, _, rfl⟩

theorem undrew {a b : World} {row : Option Nat} (h : a.drew.grownBy b row) : a.grownBy b row := ⟨h.os, h.tape, h.output, h.size, h.block⟩
theorem grown_any {a b : World} {row : Option Nat} (h : a.grownBy b none) : a.grownBy b row := ⟨h.os, h.tape, h.output, h.size, fun k hk _ => h.block k hk (by simp)⟩
theorem grown_new {a c d : World} {b : Nat} {row : Option Nat} (h : a.grownBy c (some b)) (k : c.grownBy d row) (hr : ∀ x, row = some x → a.heap.size ≤ x) : a.grownBy d (some b) :=
  ⟨k.os.trans h.os, k.tape.trans h.tape, k.output.trans h.output, Nat.le_trans h.size k.size, fun i hi hn => (k.block i (Nat.lt_of_lt_of_le hi h.size) (fun e => by have := hr i e.symm; omega)).trans (h.block i hi hn)⟩

/-- keep.add: the list behind the pointer has one span more, or stands as it was. -/
def RetAdd (w : World) (b o : Nat) (TT : TypeId) (cs : Array Value) (v : Value) (L : List Sp) (f t val : Int) (e : Ending) (w' : World) : Prop :=
  ∃ v', e = .returned (.tuple #[]) ∧ Blk w' b TT (cs.setIfInBounds o v') ∧ w.grownBy w' (some b) ∧
    (val ≤ 0 → v' = v) ∧ (0 < val → ∀ S : List Nat, (∀ x ∈ S, x < w.heap.size) → Spans (veil S w') (veil S w').heap.size v' (L ++ [(f, t, val)]))

set_option maxRecDepth 100000 in
set_option maxHeartbeats 1000000 in
theorem add_any (w : World) (b o : Nat) (TT : TypeId) (cs : Array Value) (v : Value) (L : List Sp) (f t u val : Int) (hb : Blk w b TT cs) (hc : cs[o]? = some v) (hv : Spans w w.heap.size v L) (hl : L.length ≤ 1000000) :
    Calls Tryz.prog 25 #[.pointer (some ⟨b, o, none⟩), .agg #[.int .i64 f, .int .i64 t, .int .i64 u], .int .i64 val] w (RetAdd w b o TT cs v L f t val) := by
  by_cases h0 : 0 < val
  · go_enter Tryz.func25, Tryz.ntmps25
    go_wp2
    have hN : Blk (w.alloc (.cells #[.int .i64 f, .int .i64 t, .int .i64 val] 61)) w.heap.size 61 #[.int .i64 f, .int .i64 t, .int .i64 val] := Blk.new _ _ _
    have hb1 := hb.alloc (.cells #[.int .i64 f, .int .i64 t, .int .i64 val] 61)
    have hv1 : Spans (w.alloc (.cells #[.int .i64 f, .int .i64 t, .int .i64 val] 61)) w.heap.size v L := hv.below (Below.alloc (Below.refl _ _) (Nat.le_refl _) _)
    have hg1 := grown_alloc w (.cells #[.int .i64 f, .int .i64 t, .int .i64 val] 61) (some b)
    generalize w.alloc (.cells #[.int .i64 f, .int .i64 t, .int .i64 val] 61) = R at *
    obtain ⟨i0, hi, hz0, hz1, hz2⟩ := info_parts Tryz.infoSpan
    have d0 := hN.at_ (i := 0) (u := .int .i64 f) rfl
    have d1 := hN.at_ (i := 1) (u := .int .i64 t) rfl
    have d2 := hN.at_ (i := 2) (u := .int .i64 val) rfl
    have e0 := hb1.at_ hc
    have hRs : w.heap.size < R.heap.size := hN.lt
    obtain ⟨A, c, rfl, _⟩ := id hv1
    have HV1 := Lib.hid hv1
    have HB1 := Lib.hid hb1
    have HN := Lib.hid hN
    clear hv hb hv1 hb1 hN
    have hfree : ∀ (W : World) (v2 : Value) (n : Nat) (xs : List Value), W.ownsRow R.heap.size 61 3 v2 n xs → ∀ k, k < R.heap.size → some k ≠ v2.ownBlock := fun W v2 n xs h k hk e => by have := (h.lt k e.symm).1; omega
    have eA : (R.alloc (.cells #[.int .i64 f, .int .i64 t, .int .i64 val] 61)).cell? ⟨b, o, none⟩ = some (.slice A L.length c) := (HB1.out.alloc (.cells #[.int .i64 f, .int .i64 t, .int .i64 val] 61)).at_ hc
    have hbR := HB1.out.lt
    go_region_law (first
      | (refine step_app_nil rfl (.const (.slice none 0 0)) (.tmp 13) rfl Tryz.underlying26 hi hz0 hz1 hz2 R _ L w.heap.size rfl rfl (show Spans R.drew w.heap.size _ L from HV1.out) hl (Nat.le_refl _) ?_; intro v2 w2 hown2 hg2; have hb2 := (show Blk R.drew b TT cs from HB1.out).grown hg2 (by simp); have hN2 := (show Blk R.drew w.heap.size 61 #[.int .i64 f, .int .i64 t, .int .i64 val] from HN.out).grown hg2 (by simp); have d02 := hN2.at_ (i := 0) (u := .int .i64 f) rfl; have d12 := hN2.at_ (i := 1) (u := .int .i64 t) rfl; have d22 := hN2.at_ (i := 2) (u := .int .i64 val) rfl; have hgr2 : w.grownBy w2 (some b) := hg1.trans (grown_any (undrew hg2)))
      | (refine step_app_one rfl (.tmp 14) (.tmp 16) rfl Tryz.underlying26 hi hz0 hz1 hz2 R _ w2.heap.size L f t val rfl rfl (hown2.alloc (.cells #[.int .i64 f, .int .i64 t, .int .i64 val] 61)) (Blk.new w2 61 #[.int .i64 f, .int .i64 t, .int .i64 val]) hl (by have := hg2.size; simp at this ⊢; omega) ?_; intro v3 w3 hown3 hg3; have hb3 := (hb2.alloc (.cells #[.int .i64 f, .int .i64 t, .int .i64 val] 61)).grown hg3 (hfree _ _ _ _ hown2 b HB1.out.lt); have e3 := hb3.at_ hc; have f3 := hb3.free o; have hgr3 := grown_new (hgr2.trans (grown_alloc w2 (.cells #[.int .i64 f, .int .i64 t, .int .i64 val] 61) (some b))) hg3 (fun x hx => by have := (hown2.lt x hx).1; omega); obtain ⟨A3, m3, c3, rfl⟩ := own_slice hown3)
      | (refine step_app_one rfl (.tmp 14) (.tmp 16) rfl Tryz.underlying26 hi hz0 hz1 hz2 R _ R.heap.size L f t val rfl rfl hown2 hK2 hl (by have := hg2.size; simp at this ⊢; omega) ?_; intro v3 w3 hown3 hg3; have hb3 := hb2.grown hg3 (hfree _ _ _ _ hown2 b HB1.out.lt); have e3 := hb3.at_ hc; have f3 := hb3.free o; have hgr3 := grown_new hgr2 hg3 (fun x hx => by have := (hown2.lt x hx).1; omega); obtain ⟨A3, m3, c3, rfl⟩ := own_slice hown3)
      | (refine step_app_nil rfl (.const (.slice none 0 0)) (.tmp 13) rfl Tryz.underlying26 hi hz0 hz1 hz2 R _ L w.heap.size rfl rfl (show Spans (R.alloc (.cells #[.int .i64 f, .int .i64 t, .int .i64 val] 61)).drew w.heap.size _ L from HV1.out.below (show Below w.heap.size R (R.alloc (.cells #[.int .i64 f, .int .i64 t, .int .i64 val] 61)).drew from (show Below w.heap.size R (R.alloc (.cells #[.int .i64 f, .int .i64 t, .int .i64 val] 61)) from Below.alloc (Below.refl _ _) (Nat.le_of_lt hRs) _).drew)) hl (by simp) ?_; intro v2 w2 hown2 hg2; have hb2 := (show Blk (R.alloc (.cells #[.int .i64 f, .int .i64 t, .int .i64 val] 61)).drew b TT cs from HB1.out.alloc (.cells #[.int .i64 f, .int .i64 t, .int .i64 val] 61)).grown hg2 (by simp); have hK2 := (show Blk (R.alloc (.cells #[.int .i64 f, .int .i64 t, .int .i64 val] 61)).drew R.heap.size 61 #[.int .i64 f, .int .i64 t, .int .i64 val] from Blk.new R 61 #[.int .i64 f, .int .i64 t, .int .i64 val]).grown hg2 (by simp); have hgr2 : w.grownBy w2 (some b) := (hg1.trans (grown_alloc R (.cells #[.int .i64 f, .int .i64 t, .int .i64 val] 61) (some b))).trans (grown_any (undrew hg2))))
    all_goals go_wp2
    all_goals go_end0
    all_goals exact ⟨_, rfl, hb3.put o _, grown_setCell hgr3 o _, fun h => absurd h0 (by omega), fun _ S hS => Spans.veil_own (base := R.heap.size) (own_grown hown3 (grown_setCell (grown_refl _ (some b)) o _) hbR) (fun x hx => by have := hS x hx; omega)⟩
  · have HB := Lib.hid hb
    clear hb hv
    go_enter Tryz.func25, Tryz.ntmps25
    go_wp2
    go_end0
    have e1 : cs.setIfInBounds o v = cs := by
      refine Array.ext_getElem? fun i => ?_
      rw [Array.getElem?_setIfInBounds]
      by_cases h : o = i
      · subst h
        have := (Array.getElem?_eq_some_iff.1 hc).1
        simp [this]
        exact ((Array.getElem?_eq_some_iff.1 hc).2).symm
      · simp [h]
    exact ⟨v, rfl, by rw [e1]; exact HB.out.alloc _, grown_alloc _ _ _, fun _ => rfl, fun h => absurd h (by omega)⟩
end Go.Proofs.YtikcfoobfobmnaaGreatDoor
/-
  One element is appended to an own row in a drawn region; rows of mappings; readings that outlive what is appended.
-/
namespace Go.Proofs.YtikcfoobfobmnaaGreatDoor
open Go.RowKit ND

/-- A reading in a veiled world goes over to another world that has the cells it leans on. -/
theorem Ints.reveil {S S' : List Nat} {w w' : World} {B : Nat} {k : IntKind} {v : Value} {xs : List Int} (h : Ints (veil S w) B k v xs)
    (hk : ∀ p x, p.block < B → p.block ∉ S → w.cell? p = some x → p.block ∉ S' ∧ w'.cell? p = some x) : Ints (veil S' w') B k v xs := by
  obtain ⟨A, c, hv, h1, h2, h3, h4⟩ := h
  refine ⟨A, c, hv, h1, h2, h3, fun i x hi => ?_⟩
  obtain ⟨ad, e, hb, hc⟩ := h4 i x hi
  have hlt := World.block_lt_of_cell? _ _ hc
  have hn : (ad.add i).block ∉ S := by
    intro hx
    rw [veil_size] at hlt
    have := veil_in S w _ hx hlt
    unfold World.cell? at hc
    rw [this] at hc
    simp at hc
  obtain ⟨g1, g2⟩ := hk _ _ (by rw [block_of_add]; exact hb) hn (veil_cell hc)
  exact ⟨ad, e, hb, by rw [cell_veil g1]; exact g2⟩

theorem unveil_at {S : List Nat} {w : World} {p : Addr} {x : Value} (h : (veil S w).cell? p = some x) : p.block ∉ S := by
  have hlt := World.block_lt_of_cell? _ _ h
  intro hx
  rw [veil_size] at hlt
  have := veil_in S w _ hx hlt
  unfold World.cell? at h
  rw [this] at h
  simp at h
theorem Spans.reveil {S S' : List Nat} {w w' : World} {B : Nat} {v : Value} {xs : List Sp} (h : Spans (veil S w) B v xs)
    (hk : ∀ p x, p.block < B → p.block ∉ S → w.cell? p = some x → p.block ∉ S' ∧ w'.cell? p = some x) : Spans (veil S' w') B v xs := by
  obtain ⟨A, c, hv, h1, h2, h3, h4⟩ := h
  refine ⟨A, c, hv, h1, h2, h3, fun i x hi => ?_⟩
  obtain ⟨ad, e, hb, c0, c1, c2⟩ := h4 i x hi
  have go : ∀ p y, p.block < B → (veil S w).cell? p = some y → (veil S' w').cell? p = some y := fun p y hp hy => by
    obtain ⟨g1, g2⟩ := hk p y hp (unveil_at hy) (veil_cell hy)
    rw [cell_veil g1]; exact g2
  exact ⟨ad, e, hb, go _ _ (by rw [block_of_add]; exact hb) c0, go _ _ (by rw [block_of_add]; exact hb) c1, go _ _ (by rw [block_of_add]; exact hb) c2⟩
theorem Mapps.reveil {S S' : List Nat} {w w' : World} {B : Nat} {v : Value} {xs : List Mp} (h : Mapps (veil S w) B v xs)
    (hk : ∀ p x, p.block < B → p.block ∉ S → w.cell? p = some x → p.block ∉ S' ∧ w'.cell? p = some x) : Mapps (veil S' w') B v xs := by
  obtain ⟨A, c, hv, h1, h2, h3, h4⟩ := h
  refine ⟨A, c, hv, h1, h2, h3, fun i x hi => ?_⟩
  obtain ⟨ad, sv, e, hb, c0, c1, hI⟩ := h4 i x hi
  have go : ∀ p y, p.block < B → (veil S w).cell? p = some y → (veil S' w').cell? p = some y := fun p y hp hy => by
    obtain ⟨g1, g2⟩ := hk p y hp (unveil_at hy) (veil_cell hy)
    rw [cell_veil g1]; exact g2
  exact ⟨ad, sv, e, hb, go _ _ (by rw [block_of_add]; exact hb) c0, go _ _ (by rw [block_of_add]; exact hb) c1, hI.reveil hk⟩
/-- What keeps a row of mappings: nothing but blocks of S may change. -/
theorem grown_reveil {S : List Nat} {X w' : World} {v v' : Value} (q : X.grownBy w' v.ownBlock) (r : ∀ g, v'.ownBlock = some g → v.ownBlock = some g ∨ g = X.heap.size) :
    ∀ (p : Addr) (x : Value), p.block < X.heap.size → p.block ∉ S ++ v.ownBlock.toList → X.cell? p = some x → p.block ∉ S ++ v'.ownBlock.toList ∧ w'.cell? p = some x := by
  intro pp xx hpb hpn hpc
  refine ⟨?_, ?_⟩
  · intro hx
    rcases List.mem_append.1 hx with hx | hx
    · exact hpn (List.mem_append_left _ hx)
    · rw [Option.mem_toList] at hx
      rcases r _ hx with e | e
      · exact hpn (List.mem_append_right _ (by rw [Option.mem_toList]; exact e))
      · omega
  · have e := q.block pp.block hpb (fun e => hpn (List.mem_append_right _ (by rw [Option.mem_toList]; exact e.symm)))
    unfold World.cell? at hpc ⊢
    rw [e]; exact hpc
theorem onlyIn_reveil {S S1 : List Nat} {X w' : World} (h : onlyIn S X w') (hS : ∀ x ∈ S, x ∈ S1) :
    ∀ (p : Addr) (x : Value), p.block < X.heap.size → p.block ∉ S1 → X.cell? p = some x → p.block ∉ S1 ∧ w'.cell? p = some x := by
  intro pp xx hpb hpn hpc
  refine ⟨hpn, ?_⟩
  have e := h.2.2.2.2 pp.block (fun hx => hpn (hS _ hx)) hpb
  unfold World.cell? at hpc ⊢
  rw [e]; exact hpc

/-- The cells of mappings. -/
def mpCells (ps : List (Int × Value)) : List Value := ps.flatMap fun p => [.int .i64 p.1, p.2]
theorem mpCells_snoc (ps : List (Int × Value)) (p : Int × Value) : mpCells (ps ++ [p]) = mpCells ps ++ [.int .i64 p.1, p.2] := by simp [mpCells]
theorem mpCells_at {ps : List (Int × Value)} {i : Nat} {p : Int × Value} (h : ps[i]? = some p) : (mpCells ps)[i * 2]? = some (.int .i64 p.1) ∧ (mpCells ps)[i * 2 + 1]? = some p.2 := by
  induction ps generalizing i with
  | nil => simp at h
  | cons a r ih =>
    cases i with
    | zero => simp at h; subst h; exact ⟨rfl, rfl⟩
    | succ j =>
      obtain ⟨a0, a1⟩ := ih (i := j) (by simpa using h)
      have e : mpCells (a :: r) = [.int .i64 a.1, a.2] ++ mpCells r := by simp [mpCells]
      rw [e]
      refine ⟨?_, ?_⟩
      · rw [List.getElem?_append_right (by simp; omega)]; simpa [show (j + 1) * 2 - 2 = j * 2 by omega] using a0
      · rw [List.getElem?_append_right (by simp; omega)]; simpa [show (j + 1) * 2 + 1 - 2 = j * 2 + 1 by omega] using a1

/-- An own row of mappings: its sequences lie in blocks that neither the list S nor the row itself touches. -/
def OwnM (S : List Nat) (w : World) (base : Nat) (v : Value) (D : List Mp) : Prop :=
  ∃ ps : List (Int × Value), ps.map (·.1) = D.map (·.1) ∧ ps.length = D.length ∧ w.ownsRow base 51 2 v ps.length (mpCells ps) ∧
    ∀ (i : Nat) (p : Int × Value) (d : Mp), ps[i]? = some p → D[i]? = some d → Ints (veil (S ++ v.ownBlock.toList) w) w.heap.size .i64 p.2 d.2
theorem OwnM.nil (S : List Nat) (w : World) (base : Nat) : OwnM S w base (.slice none 0 0) [] :=
  ⟨[], rfl, rfl, World.ownsRow_nil _ _ _ _, fun i p d h => by simp at h⟩

theorem step_app_blk {P : Program} {ops : Array Oper} {o : Oper} {a : Act} {X : World} {K : Act → World → Prop} {Q : Exit → Act → World → Prop} {E : Prop} {T e : TypeId} {i0 : TypeInfo} (hgd : o.guard = none) (s x : Operand)
    (ho : o.op = .call { callee := .builtin .append, args := #[s, x], argTypes := #[T, T] }) (ht : P.underlying T = some (.slice e)) (hi : P.info? e = some i0) (z : Value) (size bytes : Nat) (hz : i0.zero = some z) (h1 : i0.size = size) (h2 : i0.bytes = bytes) (hzs : z.cells.size = size) (hsz : 0 < size) (hby : bytes ≤ 1000)
    (base : Nat) (v : Value) (n : Nat) (xs : List Value) (k : Nat) (news : Array Value) (hs : a.eval s = v) (hx : a.eval x = .slice (some ⟨k, 0, none⟩) 1 1) (hown : X.ownsRow base e size v n xs) (hk : Blk X k e news) (hl : news.toList.length = 1 * size) (hone : ∀ u ∈ news.toList, u.oneCell' = true) (hn : n ≤ 1000000) (hb : base ≤ X.heap.size)
    (h : ∀ v' w', w'.ownsRow base e size v' (n + 1) (xs ++ news.toList) → X.grownBy w' v.ownBlock → (∀ g, v'.ownBlock = some g → v.ownBlock = some g ∨ g = X.heap.size) → (∃ A m c, v' = .slice A m c) → K (a.put o.dst v') w') :
    if Region.wanted o (yielded ops a.tmps) = true then Oper.wp P o a X K Q else E := by
  refine step_append_lies _ hgd s x T ho base e i0 z size bytes ht hi hz h1 h2 hzs hsz v n xs hs hown ⟨k, 0, none⟩ 1 1 news.toList hx hl (World.news_of_block (cs := news) hk) hone (by omega) (by unfold maxLen; omega) ?_ hb X.heap.size rfl ?_
  · calc (n + 1) * bytes ≤ 1000001 * 1000 := Nat.mul_le_mul (by omega) hby
      _ ≤ _ := by decide
  · intro g cap w' p q r _
    refine h _ w' p q (fun g' hg' => ?_) ⟨_, _, _, rfl⟩
    simp only [Value.ownBlock, Option.some.injEq] at hg'
    subst hg'; exact r

theorem OwnM.kept {S : List Nat} {w w' : World} {base : Nat} {v : Value} {D : List Mp} (h : OwnM S w base v D) (hw : onlyIn S w w') (hv : ∀ g, v.ownBlock = some g → g ∉ S) : OwnM S w' base v D := by
  obtain ⟨ps, hm, hlen, hown, hr⟩ := h
  refine ⟨ps, hm, hlen, ?_, fun i p d hp hd => Ints.more ((hr i p d hp hd).reveil (onlyIn_reveil hw fun x hx => List.mem_append_left _ hx)) hw.2.2.2.1⟩
  refine ⟨hown.1, ?_⟩
  rcases hown.2 with hn | ⟨g, cap, cur, rfl, hb, hg, hrest⟩
  · exact .inl hn
  · exact .inr ⟨g, cap, cur, rfl, hb, (hw.2.2.2.2 g (hv g rfl) (Array.getElem?_eq_some_iff.1 hg).1).trans hg, hrest⟩

theorem OwnM.mapps {S : List Nat} {w : World} {base : Nat} {v : Value} {D : List Mp} (h : OwnM S w base v D) (hS : ∀ x ∈ S, x < base) : Mapps (veil S w) (veil S w).heap.size v D := by
  obtain ⟨ps, hm, hlen, hown, hr⟩ := h
  rcases hown.2 with ⟨rfl, hn⟩ | ⟨g, cap, cur, rfl, hb, hg, hnc, hcm, _⟩
  · have : D = [] := List.eq_nil_of_length_eq_zero (by omega)
    subst this
    exact ⟨none, 0, rfl, Nat.le_refl _, Nat.zero_le _, fun _ => rfl, fun _ _ h => by simp at h⟩
  · have hlt : g < w.heap.size := (Array.getElem?_eq_some_iff.1 hg).1
    refine ⟨some ⟨g, 0, none⟩, cap, by rw [hlen], by omega, hcm, (by intro h; cases h), fun i d hd => ?_⟩
    obtain ⟨p, hp⟩ : ∃ p, ps[i]? = some p := by
      have := (List.getElem?_eq_some_iff.1 hd).1
      exact ⟨_, List.getElem?_eq_getElem (by omega)⟩
    obtain ⟨a0, a1⟩ := mpCells_at hp
    have e1 : p.1 = d.1 := by
      have h1 : (ps.map (·.1))[i]? = (D.map (·.1))[i]? := by rw [hm]
      rw [List.getElem?_map, List.getElem?_map, hp, hd] at h1
      simpa using h1
    have hgS : g ∉ S := fun hx => by have := hS g hx; omega
    have hi := hr i p d hp hd
    refine ⟨⟨g, 0, none⟩, p.2, rfl, by rw [veil_size]; exact hlt, ?_, ?_, ?_⟩
    · rw [cell_veil (by rw [block_of_add]; exact hgS), ← e1]; exact hown.cells (g := g) rfl _ _ a0
    · rw [cell_veil (by rw [block_of_add]; exact hgS)]; exact hown.cells (g := g) rfl _ _ a1
    · rw [veil_size]
      exact hi.reveil fun q x _ hq hx => ⟨fun h => hq (List.mem_append_left _ h), hx⟩

theorem step_app_map {P : Program} {ops : Array Oper} {o : Oper} {a : Act} {X : World} {K : Act → World → Prop} {Q : Exit → Act → World → Prop} {E : Prop} {T : TypeId} {i0 : TypeInfo} (hgd : o.guard = none) (s x : Operand)
    (ho : o.op = .call { callee := .builtin .append, args := #[s, x], argTypes := #[T, T] }) (ht : P.underlying T = some (.slice 51)) (hi : P.info? 51 = some i0) (z : Value) (hz : i0.zero = some z) (h1 : i0.size = 2) (h2 : i0.bytes = 32) (hzs : z.cells.size = 2)
    (S : List Nat) (base : Nat) (v : Value) (D : List Mp) (k : Nat) (c : Int) (sv : Value) (l : List Int) (hs : a.eval s = v) (hx : a.eval x = .slice (some ⟨k, 0, none⟩) 1 1) (hown : OwnM S X base v D) (hk : Blk X k 51 #[.int .i64 c, sv]) (hsv : Ints (veil (S ++ v.ownBlock.toList) X) X.heap.size .i64 sv l)
    (hn : D.length ≤ 1000000) (hb : base ≤ X.heap.size)
    (h : ∀ v' w', OwnM S w' base v' (D ++ [(c, l)]) → X.grownBy w' v.ownBlock → (∀ g, v'.ownBlock = some g → v.ownBlock = some g ∨ g = X.heap.size) → (∃ A m c, v' = .slice A m c) → K (a.put o.dst v') w') :
    if Region.wanted o (yielded ops a.tmps) = true then Oper.wp P o a X K Q else E := by
  obtain ⟨ps, hm, hlen, ho', hr⟩ := hown
  refine step_app_blk hgd s x ho ht hi z 2 32 hz h1 h2 hzs (by omega) (by omega) base v ps.length (mpCells ps) k #[.int .i64 c, sv] hs hx ho' hk rfl ?_ (by omega) hb ?_
  · intro u hu
    obtain ⟨A, cc, e, _⟩ := hsv
    simp at hu
    rcases hu with rfl | rfl
    · rfl
    · rw [e]; rfl
  · intro v' w' p q r sl
    refine h v' w' ⟨ps ++ [(c, sv)], by simp [hm], by simp [hlen], by rw [mpCells_snoc]; simpa using p, ?_⟩ q r sl
    have key : ∀ sv l, Ints (veil (S ++ v.ownBlock.toList) X) X.heap.size .i64 sv l → Ints (veil (S ++ v'.ownBlock.toList) w') w'.heap.size .i64 sv l := by
      intro sv l hI
      refine Ints.more (hI.reveil fun pp xx hpb hpn hpc => ⟨?_, ?_⟩) q.size
      · intro hx
        rcases List.mem_append.1 hx with hx | hx
        · exact hpn (List.mem_append_left _ hx)
        · rw [Option.mem_toList] at hx
          rcases r _ hx with e | e
          · exact hpn (List.mem_append_right _ (by rw [Option.mem_toList]; exact e))
          · omega
      · have e := q.block pp.block hpb (fun e => hpn (List.mem_append_right _ (by rw [Option.mem_toList]; exact e.symm)))
        unfold World.cell? at hpc ⊢
        rw [e]; exact hpc
    intro i p d hp hd
    by_cases hil : i < ps.length
    · rw [List.getElem?_append_left hil] at hp
      rw [List.getElem?_append_left (by omega)] at hd
      exact key _ _ (hr i p d hp hd)
    · have hi2 : i = ps.length := by
        have := (List.getElem?_eq_some_iff.1 hp).1
        simp at this; omega
      subst hi2
      rw [List.getElem?_append_right (Nat.le_refl _)] at hp
      rw [List.getElem?_append_right (by omega), hlen] at hd
      simp at hp hd
      subst hp; subst hd
      exact key _ _ hsv
end Go.Proofs.YtikcfoobfobmnaaGreatDoor
