/-
  Merged texts: lemmas and walks that the last text of this claim leans on.
-/
import Derived.Test.YtneinkpfhkojgaaDoorMgF135
import Derived.Test.YtneinkpfhkojgaaDoorMgF131
import Derived.IntWalk
import Derived.BigQuiet
import Derived.Deep.RegionLaw
import Derived.Deep.AppendLies
import Derived.Test.YtneinkpfhkojgaaDoorMgF133
import Derived.BigRegion
import Derived.Test.YtneinkpfhkojgaaDoorMgF132
/-
  The walk through slices.Equal at integers.
-/
namespace Go.Proofs.YtneinkpfhkojgaaDoor
open Go.RowKit ND

set_option maxRecDepth 100000 in
set_option maxHeartbeats 1000000 in
theorem equal_any (v u : Value) (xs ys : List Int) (w : World) (hv : Ints w w.heap.size .i64 v xs) (hu : Ints w w.heap.size .i64 u ys) :
    Calls Tryd.prog 54 #[v, u] w fun e w' => e = .returned (.bool (decide (xs = ys))) ∧ Below w.heap.size w w' := by
  obtain ⟨A, c, rfl, hc1, hc2, _, hcell⟩ := hv
  obtain ⟨A', c', rfl, hc1', hc2', _, hcell'⟩ := hu
  have HC := Lib.hid hcell; clear hcell
  have HC' := Lib.hid hcell'; clear hcell'
  have hl : xs.length ≤ 9223372036854775807 := by unfold maxLen at hc2; omega
  clear hc2 hc2' hc1 hc1'
  by_cases hlen : xs.length = ys.length
  · have hb : ((xs.length : Int) != (ys.length : Int)) = false := by rw [hlen]; simp
    have hl1 : xs.length ≤ ys.length := by omega
    have hl2 : ys.length ≤ xs.length := by omega
    clear hlen
    obtain ⟨R, hR⟩ : ∃ R, R = decide (xs = ys) := ⟨_, rfl⟩
    rw [← hR]
    have HR := Lib.hid hR; clear hR
    go_enter Tryd.func54, Tryd.ntmps54
    go_wp2_with fail
    go_loopw [13] (fun i wr => ∃ k : Nat, k ≤ xs.length ∧ i = .int .i64 k ∧ Hid (xs.take k = ys.take k) ∧ Below w.heap.size w wr) (fun i _ => xs.length - (intOf i).toNat)
    case atStart => exact ⟨0, by omega, rfl, Lib.hid (by simp), Below.refl _ _⟩
    case round =>
      obtain ⟨k, hk, rfl, HS, hbel⟩ := hrel
      by_cases hlt : k < xs.length
      · obtain ⟨x, hxk, _⟩ := get_of hlt
        obtain ⟨y, hyk, _⟩ := get_of (show k < ys.length by omega)
        obtain ⟨ad, rfl, ha, hce⟩ := HC.out k x hxk
        obtain ⟨ad', rfl, ha', hce'⟩ := HC'.out k y hyk
        have e1 := (hbel.cell (p := ad.add k) (by rw [block_of_add]; exact ha)).trans hce
        have e2 := (hbel.cell (p := ad'.add k) (by rw [block_of_add]; exact ha')).trans hce'
        have HX := Lib.hid hxk
        have HY := Lib.hid hyk
        clear hce hce' hxk hyk ha ha'
        have k0 : (0 : Int) ≤ (k : Int) := by omega
        have k1 : (k : Int) < (xs.length : Int) := by omega
        have k2 : (k : Int) < (ys.length : Int) := by omega
        by_cases hxy : x = y
        · have hb2 : (x != y) = false := by rw [hxy]; simp
          have HT := Lib.hid (same_step HS.out HX.out (by rw [hxy]; exact HY.out))
          clear hxy
          go_wp2_with fail
          go_quiet (fail)
          go_wp2_with fail
          go_roundw
          case rel => exact ⟨k + 1, by omega, by go_num, HT, below_drewN hbel nq⟩
          case measure => simp [intOf]; omega
        · have hb2 : (x != y) = true := by rw [bne_iff_ne]; exact hxy
          have HN : Hid (R = false) := by
            refine Lib.hid ?_
            rw [HR.out, decide_eq_false_iff_not]
            rintro rfl
            have := HX.out.symm.trans HY.out
            simp at this
            exact hxy this
          clear hxy
          go_wp2_with fail
          go_quiet (fail)
          go_wp2_with fail
          go_ret
          rw [HN.out]
          exact ⟨rfl, below_drewN hbel nq⟩
      · have HN : Hid (R = true) := by
          refine Lib.hid ?_
          rw [HR.out, decide_eq_true_iff]
          have h := HS.out
          rw [List.take_of_length_le (by omega), List.take_of_length_le (by omega)] at h
          exact h
        go_wp2_with fail
        go_ret
        rw [HN.out]
        exact ⟨rfl, hbel⟩
  · have hb : ((xs.length : Int) != (ys.length : Int)) = true := by rw [bne_iff_ne]; omega
    have hn : decide (xs = ys) = false := by
      rw [decide_eq_false_iff_not]; rintro rfl; exact hlen rfl
    rw [hn]
    clear hn hlen
    go_enter Tryd.func54, Tryd.ntmps54
    go_wp2_with fail
    go_ret
    exact ⟨rfl, Below.refl _ _⟩
end Go.Proofs.YtneinkpfhkojgaaDoor
/-
  The walks through order.Order and order.Sorted.
-/
namespace Go.Proofs.YtneinkpfhkojgaaDoor
open Go.RowKit ND

/-- The canonical order, where there is no error. -/
def ordL (T : Tab) (xs : List Int) : List Int := if accE T xs = 0 then can T.classOf xs else []
theorem ordL_ok {T : Tab} {xs : List Int} (h : accE T xs = 0) : ordL T xs = can T.classOf xs := by unfold ordL; rw [if_pos h]
theorem ordL_bad {T : Tab} {xs : List Int} (h : accE T xs ≠ 0) : ordL T xs = [] := by unfold ordL; rw [if_neg h]
/-- A sequence and an error come back. -/
def RetTwo (w : World) (ys : List Int) (n : Int) (e : Ending) (w' : World) : Prop := ∃ v, e = .returned (.tuple #[v, .int .i64 n]) ∧ w'.ownsRow w.heap.size 3 1 v ys.length (ys.map (Value.int .i64)) ∧ Below w.heap.size w w'

set_option maxRecDepth 100000 in
set_option maxHeartbeats 1000000 in
theorem order_any (t : Tv) (T : Tab) (v : Value) (xs : List Int) (w : World) (ht : TabR w w.heap.size t T) (hg : Glob w) (hv : Ints w w.heap.size .i64 v xs) :
    Calls Tryd.prog 19 #[t.val, v] w (RetTwo w (ordL T xs) (accE T xs)) := by
  obtain ⟨A, c, rfl, _⟩ := id hv
  have HB0 : Hid (Below w.heap.size w (w.alloc (.cells t.cells 26))) := Lib.hid ((Below.refl _ _).alloc (Nat.le_refl _) _)
  have HT : Hid (Tbl (w.alloc (.cells t.cells 26)) w.heap.size t T) := Lib.hid ⟨Blk.new _ _ _, ht.later HB0.out⟩
  have HV := Lib.hid (hv.later HB0.out)
  have HCK := Lib.hid (ocheck_any t T _ xs _ HT.out.2 (hg.later HB0.out) HV.out)
  clear hv ht hg
  by_cases h0 : accE T xs = 0
  · have HE := Lib.hid (ordL_ok h0)
    obtain ⟨a1, a2, _⟩ := accE_zero h0
    have HS := Lib.hid (fun W (h : Below (w.alloc (.cells t.cells 26)).heap.size (w.alloc (.cells t.cells 26)) W) => sort_any t T _ xs W (HT.out.later h).2 a1 a2 (HV.out.later h))
    rw [h0] at HCK ⊢
    clear h0 a1 a2
    go_enter Tryd.func19, Tryd.ntmps19
    go_upto_region 1 with fail
    generalize w.alloc (.cells t.cells 26) = w1 at *
    have HTB := HT.out.1.tab
    obtain ⟨x0, x1, x2, x3, x4, x5, x6, x7, x8, x9, x10, x11⟩ := HTB
    go_upto_region 2 with (go_at_call 42; refine HCK.out.mono ?_; rintro e w2 ⟨rfl, b2⟩)
    clear x0 x1 x2 x3 x4 x5 x6 x7 x8 x9 x10 x11
    have HTB := (HT.out.later b2).1.tab
    obtain ⟨x0, x1, x2, x3, x4, x5, x6, x7, x8, x9, x10, x11⟩ := HTB
    go_wp2_with (go_at_call 43; refine (HS.out _ b2).mono ?_; rintro e w3 ⟨u, rfl, ho3, b3⟩)
    go_ret2
    rw [HE.out]
    exact ⟨u, rfl, row_le ho3 (by have := HB0.out.size; have := b2.size; omega), below_next (below_next HB0.out b2) b3⟩
  · have HE := Lib.hid (ordL_bad h0)
    have hb : (accE T xs != 0) = true := by simpa using h0
    clear h0
    go_enter Tryd.func19, Tryd.ntmps19
    go_upto_region 1 with fail
    generalize w.alloc (.cells t.cells 26) = w1 at *
    have HTB := HT.out.1.tab
    obtain ⟨x0, x1, x2, x3, x4, x5, x6, x7, x8, x9, x10, x11⟩ := HTB
    go_wp2_with (go_at_call 42; refine HCK.out.mono ?_; rintro e w2 ⟨rfl, b2⟩)
    go_ret2
    rw [HE.out]
    exact ⟨_, rfl, World.ownsRow_nil _ _ _ _, below_next HB0.out b2⟩

/-- Whether a sequence is in canonical order. -/
def sortedB (T : Tab) (xs : List Int) : Bool := accE T xs == 0 && decide (ordL T xs = xs)

set_option maxRecDepth 100000 in
set_option maxHeartbeats 1000000 in
theorem sorted_any (t : Tv) (T : Tab) (v : Value) (xs : List Int) (w : World) (ht : TabR w w.heap.size t T) (hg : Glob w) (hv : Ints w w.heap.size .i64 v xs) :
    Calls Tryd.prog 29 #[t.val, v] w fun e w' => e = .returned (.bool (sortedB T xs)) ∧ Below w.heap.size w w' := by
  obtain ⟨A, c, rfl, _⟩ := id hv
  have HB0 : Hid (Below w.heap.size w (w.alloc (.cells t.cells 26))) := Lib.hid ((Below.refl _ _).alloc (Nat.le_refl _) _)
  have HT : Hid (Tbl (w.alloc (.cells t.cells 26)) w.heap.size t T) := Lib.hid ⟨Blk.new _ _ _, ht.later HB0.out⟩
  have HV := Lib.hid (hv.later HB0.out)
  have HO := Lib.hid (order_any t T _ xs _ HT.out.2 (hg.later HB0.out) HV.out)
  clear hv ht hg
  obtain ⟨R, hR⟩ : ∃ R, R = decide (ordL T xs = xs) := ⟨_, rfl⟩
  have HR := Lib.hid hR
  unfold sortedB
  rw [← hR]
  clear hR
  generalize ordL T xs = ys at *
  generalize accE T xs = er at *
  go_enter Tryd.func29, Tryd.ntmps29
  go_upto_region 1 with fail
  generalize w.alloc (.cells t.cells 26) = w1 at *
  obtain ⟨x0, x1, x2, x3, x4, x5, x6, x7, x8, x9, x10, x11⟩ := HT.out.1.tab
  go_upto_region 2 with (go_at_call 19; refine HO.out.mono ?_; rintro e w2 ⟨u, rfl, ho2, b2⟩; obtain ⟨A2, c2, rfl, _⟩ := id (Ints.of_own ho2); have HU := Lib.hid (Ints.of_own ho2); clear ho2)
  have HEQ : Hid (∀ V, Below w2.heap.size w2 V → Calls Tryd.prog 54 #[.slice A2 ys.length c2, .slice A xs.length c] V fun e V' => e = .returned (.bool R) ∧ Below V.heap.size V V') := Lib.hid fun V hV => by
    have h := equal_any _ _ ys xs V (HU.out.later hV) ((HV.out.later b2).later hV)
    rw [← HR.out] at h; exact h
  clear x0 x1 x2 x3 x4 x5 x6 x7 x8 x9 x10 x11
  by_cases h0 : er = 0
  · have hb : (er == 0) = true := by rw [h0]; rfl
    clear h0
    go_wp2_with (go_at_call 54; refine (HEQ.out _ (Below.refl _ _)).mono ?_; rintro e w3 ⟨rfl, b3⟩)
    go_ret
    exact ⟨by rw [hb]; rfl, below_next (below_next HB0.out b2) b3⟩
  · have hb : (er == 0) = false := by simpa using h0
    clear h0
    go_wp2_with fail
    go_ret
    exact ⟨by rw [hb]; rfl, below_next HB0.out b2⟩
end Go.Proofs.YtneinkpfhkojgaaDoor
/-
  keep.Pick.
-/
namespace Go.Proofs.YtneinkpfhkojgaaDoor
open Go.RowKit

/-- keep.Pick: from 0 to n - 1. -/
def pick (v n : Int) : Int := v % 18446744073709551616 % n
theorem pick_in (v : Int) {n : Int} (h : 0 < n) : 0 ≤ pick v n ∧ pick v n < n := ⟨Int.emod_nonneg _ (by omega), Int.emod_lt_of_pos _ h⟩

theorem pick_eq {v n : Int} (h0 : 0 < n) (h1 : n < 9223372036854775808) : wrap64 ((IntKind.u64.wrap v).tmod n) = pick v n := by
  have hp := pick_in v h0
  have e : (IntKind.u64.wrap v).tmod n = pick v n := by
    rw [IntKind.wrap_u64, Int.tmod_eq_emod_of_nonneg (by omega)]; rfl
  rw [e, IntWalk.wrap64_in _ ⟨by omega, by omega⟩]

set_option maxHeartbeats 400000 in
theorem pick_any (a b : Int) (w : World) (h0 : 0 < b) (h1 : b < 9223372036854775808) :
    Calls Tryd.prog 17 #[.int .i64 a, .int .i64 b] w fun e w' => e = .returned (.int .i64 (pick a b)) ∧ w = w' := by
  have HP := Lib.hid (pick_eq (v := a) h0 h1)
  go_enter Tryd.func17, Tryd.ntmps17
  go_wp2
  go_ret
  refine ⟨?_, rfl⟩
  show Ending.returned (.int .i64 (wrap64 ((IntKind.u64.wrap a).tmod b))) = _
  rw [HP.out]

end Go.Proofs.YtneinkpfhkojgaaDoor
/-
  The walks through keep.From and Source.Next.
-/
namespace Go.Proofs.YtneinkpfhkojgaaDoor
open Go.RowKit ND

/-- The source that lies in block g: the list v, of which xs are the numbers, and how many have been used. -/
def Src (w : World) (g : Nat) (v : Value) (n : Nat) : Prop := ∃ i : Nat, i ≤ n ∧ Blk w g 72 #[v, .int .i64 i]

def RetNext (w : World) (g : Nat) (v : Value) (n : Nat) (m : Int) (e : Ending) (w' : World) : Prop :=
  ∃ r : Int, e = .returned (.int .i64 r) ∧ 0 ≤ r ∧ r < m ∧ Src w' g v n ∧ w.grownBy w' (some g)

set_option maxRecDepth 100000 in
set_option maxHeartbeats 400000 in
theorem from_any (A : Option Addr) (n c : Nat) (w : World) : Calls Tryd.prog 31 #[.slice A n c] w fun e w' => e = .returned (.pointer (some ⟨w.heap.size, 0, none⟩)) ∧ w' = w.alloc (.cells #[.slice A n c, .int .i64 0] 72) := by
  go_enter Tryd.func31, Tryd.ntmps31
  go_wp2_with fail
  go_ret
  exact ⟨rfl, rfl⟩

set_option maxRecDepth 100000 in
set_option maxHeartbeats 400000 in
theorem next_src (w : World) (g : Nat) (v : Value) (xs : List Int) (m : Int) (hv : Ints w g .i64 v xs) (hs : Src w g v xs.length) (h0 : 0 < m) (h1 : m ≤ 1000000) :
    Calls Tryd.prog 32 #[.pointer (some ⟨g, 0, none⟩), .int .i64 m] w (RetNext w g v xs.length m) := by
  obtain ⟨i, hi, hb⟩ := hs
  obtain ⟨A, c, rfl, hc1, hc2, _, hcell⟩ := hv
  have HC := Lib.hid hcell; clear hcell
  have hx : xs.length ≤ 9223372036854775807 := by unfold maxLen at hc2; omega
  have c0 : w.cell? ⟨g, 0, none⟩ = some (.slice A xs.length c) := by rw [hb.cell]; rfl
  have c1 : w.cell? ⟨g, 1, none⟩ = some (.int .i64 i) := by rw [hb.cell]; rfl
  have f1 := hb.free 1
  have HB := Lib.hid hb; clear hb
  by_cases hlt : i < xs.length
  · go_enter Tryd.func32, Tryd.ntmps32
    go_wp2_with fail
    go_quiet (fail)
    go_wp2_with fail
    have hb1 : Blk ((w.drewN nq).setCell ⟨g, 1, none⟩ (.int .i64 (i + 1))) g 72 #[.slice A xs.length c, .int .i64 (i + 1)] :=
      (show Blk (w.drewN nq) g 72 #[.slice A xs.length c, .int .i64 i] from HB.out).put 1 (.int .i64 (i + 1))
    have hbel1 : Below g w ((w.drewN nq).setCell ⟨g, 1, none⟩ (.int .i64 (i + 1))) := (below_drewN (Below.refl g w) nq).setCell (p := ⟨g, 1, none⟩) (Nat.le_refl _) _
    have hgr1 : w.grownBy ((w.drewN nq).setCell ⟨g, 1, none⟩ (.int .i64 (i + 1))) (some g) := grown_setCell (grown_drewN (grown_refl w _) nq) _ _
    generalize (w.drewN nq).setCell ⟨g, 1, none⟩ (.int .i64 ((i : Int) + 1)) = w1 at *
    obtain ⟨x, hxk, _⟩ := get_of hlt
    obtain ⟨ad, rfl, ha, hce⟩ := HC.out i x hxk
    have e1 := (hbel1.cell (p := ad.add i) (by rw [block_of_add]; exact ha)).trans hce
    have d0 : w1.cell? ⟨g, 0, none⟩ = some (.slice (some ad) xs.length c) := by rw [hb1.cell]; rfl
    have d1 : w1.cell? ⟨g, 1, none⟩ = some (.int .i64 (i + 1)) := by rw [hb1.cell]; rfl
    have hw : IntKind.i64.wrap ((i : Int) + 1 - 1) = i := by rw [IntWalk.i64_in _ (by omega)]; omega
    have k0 : (0 : Int) ≤ (i : Int) := by omega
    have k1 : (i : Int) < (xs.length : Int) := by omega
    have HB1 := Lib.hid hb1; clear hb1 HB hce hxk
    have hpk := pick_in x h0
    go_quiet ((go_at_call 17; exact quiet_left (pick_any _ _ _ h0 (by omega))))
    rename_i nq2
    go_wp2_with fail
    go_ret
    exact ⟨_, rfl, hpk.1, hpk.2, ⟨i + 1, by omega, HB1.out⟩, grown_drewN hgr1 _⟩
  · go_enter Tryd.func32, Tryd.ntmps32
    go_wp2_with fail
    go_quiet (fail)
    go_wp2_with fail
    go_ret
    exact ⟨0, rfl, by omega, h0, ⟨i, hi, HB.out⟩, grown_drewN (grown_refl w _) nq⟩
end Go.Proofs.YtneinkpfhkojgaaDoor
/-
  Worlds in which some blocks are not looked at: readings that lean on the other blocks alone.
-/
namespace Go.Proofs.YtneinkpfhkojgaaDoor
open Go.RowKit ND

/-- The world, with nothing in the blocks S. -/
def veil (S : List Nat) (w : World) : World := { w with heap := w.heap.mapIdx fun i o => if i ∈ S then .cells #[] 0 (0, 0) else o }
theorem veil_size (S : List Nat) (w : World) : (veil S w).heap.size = w.heap.size := by simp [veil]
theorem veil_at (S : List Nat) (w : World) (k : Nat) (h : k ∉ S) : (veil S w).heap[k]? = w.heap[k]? := by
  simp [veil, Array.getElem?_mapIdx, h]
theorem veil_in (S : List Nat) (w : World) (k : Nat) (h : k ∈ S) (hk : k < w.heap.size) : (veil S w).heap[k]? = some (.cells #[] 0 (0, 0)) := by
  simp [veil, h, hk]
theorem veil_cell {S : List Nat} {w : World} {p : Addr} {v : Value} (h : (veil S w).cell? p = some v) : w.cell? p = some v := by
  by_cases hp : p.block ∈ S
  · exfalso
    have hlt := World.block_lt_of_cell? _ _ h
    rw [veil_size] at hlt
    have := veil_in S w p.block hp hlt
    unfold World.cell? at h
    rw [this] at h
    simp at h
  · have e := veil_at S w p.block hp
    unfold World.cell? at h ⊢
    rw [e] at h
    exact h
/-- What changes the blocks S alone. -/
def onlyIn (S : List Nat) (w w' : World) : Prop := w'.os = w.os ∧ w'.tape = w.tape ∧ w'.output = w.output ∧ w.heap.size ≤ w'.heap.size ∧ ∀ k, k ∉ S → k < w.heap.size → w'.heap[k]? = w.heap[k]?
theorem onlyIn.refl (S : List Nat) (w : World) : onlyIn S w w := ⟨rfl, rfl, rfl, Nat.le_refl _, fun _ _ _ => rfl⟩
theorem onlyIn.trans {S : List Nat} {a b c : World} (h : onlyIn S a b) (k : onlyIn S b c) : onlyIn S a c :=
  ⟨k.1.trans h.1, k.2.1.trans h.2.1, k.2.2.1.trans h.2.2.1, Nat.le_trans h.2.2.2.1 k.2.2.2.1, fun i hi hl => (k.2.2.2.2 i hi (Nat.lt_of_lt_of_le hl h.2.2.2.1)).trans (h.2.2.2.2 i hi hl)⟩
theorem onlyIn.of_below {S : List Nat} {w w' : World} (h : Below w.heap.size w w') : onlyIn S w w' := ⟨h.os, h.tape, h.output, h.size, fun k _ hk => h.block k hk⟩
theorem onlyIn.of_grown {S : List Nat} {w w' : World} {g : Nat} (h : w.grownBy w' (some g)) (hg : g ∈ S) : onlyIn S w w' :=
  ⟨h.os, h.tape, h.output, h.size, fun k hk hl => h.block k hl (fun e => hk (by cases e; exact hg))⟩
theorem onlyIn.of_own {S : List Nat} {w w' : World} {v : Value} (h : w.grownBy w' v.ownBlock) (hg : ∀ g, v.ownBlock = some g → g ∈ S) : onlyIn S w w' :=
  ⟨h.os, h.tape, h.output, h.size, fun k hk hl => h.block k hl (fun e => hk (hg k e.symm))⟩
theorem onlyIn.more {S S' : List Nat} {w w' : World} (h : onlyIn S w w') (hs : ∀ x ∈ S, x ∈ S') : onlyIn S' w w' := ⟨h.1, h.2.1, h.2.2.1, h.2.2.2.1, fun k hk hl => h.2.2.2.2 k (fun hx => hk (hs k hx)) hl⟩
/-- Below a block that lies below all of S. -/
theorem onlyIn.below {S : List Nat} {w w' : World} {B : Nat} (h : onlyIn S w w') (hB : ∀ x ∈ S, B ≤ x) (hs : B ≤ w.heap.size) : Below B w w' :=
  ⟨h.1, h.2.1, h.2.2.1, h.2.2.2.1, fun k hk => h.2.2.2.2 k (fun hx => by have := hB k hx; omega) (Nat.lt_of_lt_of_le hk hs)⟩
theorem onlyIn.veiled {S : List Nat} {w w' : World} (h : onlyIn S w w') : Below (veil S w).heap.size (veil S w) (veil S w') := by
  refine ⟨h.1, h.2.1, h.2.2.1, by rw [veil_size, veil_size]; exact h.2.2.2.1, fun k hk => ?_⟩
  rw [veil_size] at hk
  by_cases hx : k ∈ S
  · rw [veil_in S w k hx hk, veil_in S w' k hx (Nat.lt_of_lt_of_le hk h.2.2.2.1)]
  · rw [veil_at S w k hx, veil_at S w' k hx]; exact h.2.2.2.2 k hx hk
theorem onlyIn.blk {S : List Nat} {w w' : World} {g : Nat} {t : TypeId} {cs : Array Value} (h : onlyIn S w w') (hb : Blk w g t cs) (hg : g ∉ S) : Blk w' g t cs := (h.2.2.2.2 g hg hb.lt).trans hb

section
variable {S : List Nat} {w : World} {B : Nat}
theorem Ints.unveil {k : IntKind} {v : Value} {xs : List Int} (h : Ints (veil S w) B k v xs) : Ints w B k v xs := by
  obtain ⟨A, c, hv, h1, h2, h3, h4⟩ := h
  refine ⟨A, c, hv, h1, h2, h3, fun i x hi => ?_⟩
  obtain ⟨ad, e, hb, hc⟩ := h4 i x hi
  exact ⟨ad, e, hb, veil_cell hc⟩
theorem Spans.unveil {v : Value} {xs : List (Int × Int × Int)} (h : Spans (veil S w) B v xs) : Spans w B v xs := by
  obtain ⟨A, c, hv, h1, h2, h3, h4⟩ := h
  refine ⟨A, c, hv, h1, h2, h3, fun i x hi => ?_⟩
  obtain ⟨ad, e, hb, c0, c1, c2⟩ := h4 i x hi
  exact ⟨ad, e, hb, veil_cell c0, veil_cell c1, veil_cell c2⟩
theorem Mapps.unveil {v : Value} {xs : List Mp} (h : Mapps (veil S w) B v xs) : Mapps w B v xs := by
  obtain ⟨A, c, hv, h1, h2, h3, h4⟩ := h
  refine ⟨A, c, hv, h1, h2, h3, fun i x hi => ?_⟩
  obtain ⟨ad, sv, e, hb, c0, c1, hi'⟩ := h4 i x hi
  exact ⟨ad, sv, e, hb, veil_cell c0, veil_cell c1, hi'.unveil⟩
theorem TabR.unveil {t : Tv} {T : Tab} (h : TabR (veil S w) B t T) : TabR w B t T :=
  ⟨h.r0.unveil, h.r1.unveil, h.r2.unveil, h.r3.unveil, h.r4.unveil, h.r5.unveil, h.r6.unveil, h.r7.unveil, h.r8.unveil, h.r9.unveil, h.r10.unveil, h.r11.unveil⟩
/-- A reading of a block that is not veiled. -/
theorem cell_veil {p : Addr} (hp : p.block ∉ S) : (veil S w).cell? p = w.cell? p := by
  have e := veil_at S w p.block hp
  unfold World.cell?
  rw [e]
theorem Spans.veil_own {base : Nat} {e : TypeId} {v : Value} {xs : List (Int × Int × Int)} (h : w.ownsRow base e 3 v xs.length (xs.flatMap spCells)) (hS : ∀ x ∈ S, x < base) : Spans (veil S w) (veil S w).heap.size v xs := by
  have h1 := Spans.of_own h
  obtain ⟨A, c, hv, h1, h2, h3, h4⟩ := h1
  refine ⟨A, c, hv, h1, h2, h3, fun i x hi => ?_⟩
  obtain ⟨ad, rfl, hb, c0, c1, c2⟩ := h4 i x hi
  have hob : base ≤ ad.block := by
    have hlt := h.lt ad.block
    rcases h.2 with ⟨hv', _⟩ | ⟨g, cap, cur, hv', hbg, _⟩
    · rw [hv] at hv'; cases hv'
    · rw [hv] at hv'; cases hv'; exact hbg
  have hn : ad.block ∉ S := fun hx => by have := hS _ hx; omega
  refine ⟨ad, rfl, by rw [veil_size]; exact hb, ?_, ?_, ?_⟩
  · rw [cell_veil (by rw [block_of_add]; exact hn)]; exact c0
  · rw [cell_veil (by rw [block_of_add]; exact hn)]; exact c1
  · rw [cell_veil (by rw [block_of_add]; exact hn)]; exact c2
end
end Go.Proofs.YtneinkpfhkojgaaDoor
/-
  The walk through keep.choose.
-/
namespace Go.Proofs.YtneinkpfhkojgaaDoor
open Go.RowKit ND

def RetChoose (w : World) (g : Nat) (v : Value) (n : Nat) (ys : List Int) (e : Ending) (w' : World) : Prop :=
  ∃ r : Int, e = .returned (.int .i64 r) ∧ r ∈ ys ∧ Src w' g v n ∧ w.grownBy w' (some g)

theorem grown_cell {w w' : World} {g : Nat} {p : Addr} {x : Value} (h : w.grownBy w' (some g)) (hp : p.block ≠ g) (hc : w.cell? p = some x) : w'.cell? p = some x := by
  have hlt := World.block_lt_of_cell? _ _ hc
  have e := h.block p.block hlt (fun e => hp (by cases e; rfl))
  unfold World.cell? at hc ⊢
  rw [e]; exact hc

set_option maxRecDepth 100000 in
set_option maxHeartbeats 1000000 in
theorem choose_any (w : World) (g : Nat) (v : Value) (xs : List Int) (hv : Ints w g .i64 v xs) (hs : Src w g v xs.length) (ys : List Int) (ad : Addr) (c : Nat)
    (hy : ∀ i x, ys[i]? = some x → w.cell? (ad.add i) = some (.int .i64 x)) (hb : ad.block ≠ g) (hl : 0 < ys.length) (hl2 : ys.length ≤ 1000) :
    Calls Tryd.prog 35 #[.pointer (some ⟨g, 0, none⟩), .slice (some ad) ys.length c] w (RetChoose w g v xs.length ys) := by
  have HN : Hid (∀ (W : World) (m : Int), w.grownBy W (some g) → Src W g v xs.length → 0 < m → m ≤ 1000000 → Calls Tryd.prog 32 #[.pointer (some ⟨g, 0, none⟩), .int .i64 m] W (RetNext W g v xs.length m)) := by
    refine Lib.hid fun W m hW hS h0 h1 => next_src W g v xs m ?_ hS h0 h1
    obtain ⟨A, c, hv', h1, h2, h3, h4⟩ := hv
    refine ⟨A, c, hv', h1, h2, h3, fun i x hi => ?_⟩
    obtain ⟨a, e, hb, hc⟩ := h4 i x hi
    exact ⟨a, e, hb, grown_cell hW (by rw [block_of_add]; omega) hc⟩
  have HY : Hid (∀ (W : World), w.grownBy W (some g) → ∀ i x, ys[i]? = some x → W.cell? (ad.add i) = some (.int .i64 x)) := by
    refine Lib.hid fun W hW i x hi => grown_cell hW (by rw [block_of_add]; exact hb) (hy i x hi)
  clear hy hv
  obtain ⟨y0, hy0, hy0m⟩ := get_of hl
  have l0 : (0 : Int) < (ys.length : Int) := by omega
  have l1 : (ys.length : Int) ≤ 1000000 := by omega
  have HS := Lib.hid hs; clear hs
  go_enter Tryd.func35, Tryd.ntmps35
  go_wp2_with (first | (go_at_call 32; refine (HN.out w _ (grown_refl w _) HS.out ?_ ?_).mono ?_; decide; decide; rintro e w1 ⟨r, rfl, r0, r3, hs1, hg1⟩; have c1 : w1.cell? ad = some (.int .i64 y0) := HY.out w1 hg1 0 y0 hy0) | (go_at_call 32; refine (HN.out w1 _ hg1 hs1 l0 l1).mono ?_; rintro e w2 ⟨q, rfl, q0, q1, hs2, hg2⟩; obtain ⟨k, rfl⟩ := Int.eq_ofNat_of_zero_le q0; obtain ⟨x, hx, hxm⟩ := get_of (show k < ys.length by omega); have hg3 := hg1.trans hg2; have c2 := HY.out w2 hg3 k x hx))
  all_goals go_ret
  · exact ⟨y0, rfl, hy0m, hs1, hg1⟩
  · exact ⟨x, rfl, hxm, hs2, hg3⟩
end Go.Proofs.YtneinkpfhkojgaaDoor
/-
  One integer is appended, at a step of a region that draws its order: a law for go_region_law.
-/
namespace Go.Proofs.YtneinkpfhkojgaaDoor
open Go.RowKit

theorem step_push_int {P : Program} {ops : Array Oper} {o : Oper} {a : Act} {W w : World} {K : Act → World → Prop} {Q : Exit → Act → World → Prop} {E : Prop} {T e : TypeId} {i0 : TypeInfo} (hgd : o.guard = none) (s x : Operand)
    (ho : o.op = .call { callee := .builtin .append, args := #[s, x], argTypes := #[T, T] }) (ht : P.underlying T = some (.slice e)) (hi : P.info? e = some i0) (hz : i0.zero = some (.int .i64 0)) (h1 : i0.size = 1) (h2 : i0.bytes = 8)
    (v : Value) (acc : List Int) (y : Int) (hs : a.eval s = v) (hown : w.ownsRow W.heap.size e 1 v acc.length (acc.map (Value.int .i64))) (hbel : Below W.heap.size W w) (hx : a.eval x = .slice (some ⟨w.heap.size, 0, none⟩) 1 1) (hl : acc.length ≤ 1000000)
    (h : ∀ v' w', w'.ownsRow W.heap.size e 1 v' (acc ++ [y]).length ((acc ++ [y]).map (Value.int .i64)) → Below W.heap.size W w' → K (a.put o.dst v') w') :
    if Region.wanted o (yielded ops a.tmps) = true then Oper.wp P o a ((w.alloc (.cells #[.int .i64 y] e)).drew) K Q else E := by
  refine step_append_lies _ hgd s x T ho W.heap.size e i0 (.int .i64 0) 1 8 ht hi hz h1 h2 rfl (by omega) v acc.length (acc.map (Value.int .i64)) hs ((hown.alloc _).drew) ⟨w.heap.size, 0, none⟩ 1 1 [.int .i64 y] hx rfl
    (World.news_of_block (cs := #[.int .i64 y]) (t := e) (fr := (0, 0)) (heap_alloc_new w _)) (by simp [Value.oneCell']) (by omega) (by unfold maxLen; omega) (by omega) (by have := hbel.size; simp; omega) _ rfl ?_
  intro g cap w1 hown1 hgrow hat hlt
  refine h _ _ (by simpa using hown1) ?_
  refine ((hbel.alloc hbel.size _).drew).grown hgrow ?_ ?_
  · have := hbel.size; simp; omega
  · intro k hk
    exact (hown.lt k hk).1
end Go.Proofs.YtneinkpfhkojgaaDoor
/-
  The walk through keep.add.
-/
namespace Go.Proofs.YtneinkpfhkojgaaDoor
open Go.RowKit ND

theorem flat_len3 (acc : List Sp) : (acc.flatMap spCells).length = acc.length * 3 := by
  induction acc with
  | nil => rfl
  | cons a r ih => simp only [List.flatMap_cons, List.length_append, ih, List.length_cons]; have : (spCells a).length = 3 := rfl; omega

/-- The cells of spans that can be read, one after the other. -/
theorem spans_news {X : World} {L : List Sp} {ad : Addr}
    (h : ∀ i x, L[i]? = some x → X.cell? (ad.add (i * 3)) = some (.int .i64 x.1) ∧ X.cell? (ad.add (i * 3 + 1)) = some (.int .i64 x.2.1) ∧ X.cell? (ad.add (i * 3 + 2)) = some (.int .i64 x.2.2)) :
    ∀ j u, (L.flatMap spCells)[j]? = some u → X.cell? (ad.add j) = some u := by
  intro j u hj
  have hlt : j < (L.flatMap spCells).length := (List.getElem?_eq_some_iff.1 hj).1
  rw [flat_len3] at hlt
  have hi : j / 3 < L.length := by omega
  obtain ⟨x, hx⟩ : ∃ x, L[j / 3]? = some x := ⟨_, List.getElem?_eq_getElem hi⟩
  obtain ⟨a0, a1, a2⟩ := spCells_at hx
  obtain ⟨b0, b1, b2⟩ := h _ x hx
  have hc : j = j / 3 * 3 ∨ j = j / 3 * 3 + 1 ∨ j = j / 3 * 3 + 2 := by omega
  rcases hc with e | e | e
  · rw [e] at hj ⊢; rw [a0] at hj; rw [b0]; exact hj
  · rw [e] at hj ⊢; rw [a1] at hj; rw [b1]; exact hj
  · rw [e] at hj ⊢; rw [a2] at hj; rw [b2]; exact hj

theorem step_app_nil {P : Program} {ops : Array Oper} {o : Oper} {a : Act} {X : World} {K : Act → World → Prop} {Q : Exit → Act → World → Prop} {E : Prop} {T e : TypeId} {i0 : TypeInfo} (hgd : o.guard = none) (s x : Operand)
    (ho : o.op = .call { callee := .builtin .append, args := #[s, x], argTypes := #[T, T] }) (ht : P.underlying T = some (.slice e)) (hi : P.info? e = some i0) (hz : i0.zero = some (.agg #[.int .i64 0, .int .i64 0, .int .i64 0])) (h1 : i0.size = 3) (h2 : i0.bytes = 24)
    (R : World) (u : Value) (L : List Sp) (B : Nat) (hs : a.eval s = .slice none 0 0) (hx : a.eval x = u) (hu : Spans X B u L) (hl : L.length ≤ 1000000) (hb : R.heap.size ≤ X.heap.size)
    (h : ∀ v' w', w'.ownsRow R.heap.size e 3 v' L.length (L.flatMap spCells) → X.grownBy w' none → K (a.put o.dst v') w') :
    if Region.wanted o (yielded ops a.tmps) = true then Oper.wp P o a X K Q else E := by
  have hw : Region.wanted o (yielded ops a.tmps) = true := by simp [Region.wanted, hgd]
  rw [if_pos hw]
  have hown : X.ownsRow R.heap.size e 3 (.slice none 0 0) 0 [] := World.ownsRow_nil _ _ _ _
  obtain ⟨A, c, rfl, hc1, hc2, hA, hcell⟩ := hu
  cases A with
  | none =>
    obtain rfl : c = 0 := hA rfl
    obtain rfl : L = [] := List.eq_nil_of_length_eq_zero (by omega)
    have hr := run_append_none (P := P) (ty := o.type) ht hi hown
    have h3 := h (.slice none 0 0) X (by simpa using hown) (grown_refl X none)
    unfold Oper.wp execOp
    simp only [ho, resolve, invoke, builtin, Sem.run_bind, Sem.run_pure, Result.andThen_ok, List.map_toArray, List.map_cons, List.map_nil, hs, hx, List.length_nil, hr]
    exact h3
  | some ad =>
    refine wp_append_own X s x T ho R.heap.size e i0 (.agg #[.int .i64 0, .int .i64 0, .int .i64 0]) 3 24 ht hi hz h1 h2 rfl (by omega) (.slice none 0 0) 0 [] hs hown ad L.length c (L.flatMap spCells) hx (flat_len3 L) ?_ ?_ (by unfold maxLen; omega) (by omega) hb ?_
    · refine spans_news fun i x hi => ?_
      obtain ⟨ad', e1, _, e2⟩ := hcell i x hi
      cases e1; exact e2
    · intro q hq
      obtain ⟨y, _, hy⟩ := List.mem_flatMap.1 hq
      simp only [spCells, List.mem_cons, List.not_mem_nil, or_false] at hy
      rcases hy with rfl | rfl | rfl <;> rfl
    · intro v' w' p q r
      exact h v' w' (by simpa using p) q

theorem step_app_one {P : Program} {ops : Array Oper} {o : Oper} {a : Act} {X : World} {K : Act → World → Prop} {Q : Exit → Act → World → Prop} {E : Prop} {T e : TypeId} {i0 : TypeInfo} (hgd : o.guard = none) (s x : Operand)
    (ho : o.op = .call { callee := .builtin .append, args := #[s, x], argTypes := #[T, T] }) (ht : P.underlying T = some (.slice e)) (hi : P.info? e = some i0) (hz : i0.zero = some (.agg #[.int .i64 0, .int .i64 0, .int .i64 0])) (h1 : i0.size = 3) (h2 : i0.bytes = 24)
    (R : World) (v : Value) (k : Nat) (L : List Sp) (f t u : Int) (hs : a.eval s = v) (hx : a.eval x = .slice (some ⟨k, 0, none⟩) 1 1) (hown : X.ownsRow R.heap.size e 3 v L.length (L.flatMap spCells)) (hk : Blk X k e #[.int .i64 f, .int .i64 t, .int .i64 u]) (hl : L.length ≤ 1000000) (hb : R.heap.size ≤ X.heap.size)
    (h : ∀ v' w', w'.ownsRow R.heap.size e 3 v' (L ++ [(f, t, u)]).length ((L ++ [(f, t, u)]).flatMap spCells) → X.grownBy w' v.ownBlock → K (a.put o.dst v') w') :
    if Region.wanted o (yielded ops a.tmps) = true then Oper.wp P o a X K Q else E := by
  have hw : Region.wanted o (yielded ops a.tmps) = true := by simp [Region.wanted, hgd]
  rw [if_pos hw]
  refine wp_append_own X s x T ho R.heap.size e i0 (.agg #[.int .i64 0, .int .i64 0, .int .i64 0]) 3 24 ht hi hz h1 h2 rfl (by omega) v L.length _ hs hown ⟨k, 0, none⟩ 1 1 [.int .i64 f, .int .i64 t, .int .i64 u] hx rfl
    (World.news_of_block (cs := #[.int .i64 f, .int .i64 t, .int .i64 u]) hk) ?_ (by unfold maxLen; omega) (by omega) hb ?_
  · intro q hq; simp at hq; rcases hq with rfl | rfl | rfl <;> rfl
  · intro v' w' p q r
    exact h v' w' (by rw [spans_snoc]; simpa [spCells] using p) q

theorem own_slice {w : World} {base : Nat} {e : TypeId} {size : Nat} {v : Value} {n : Nat} {xs : List Value} (h : w.ownsRow base e size v n xs) : ∃ A m c, v = .slice A m c := by
  rcases h.2 with ⟨rfl, _⟩ | ⟨g, cap, cur, rfl, _⟩
  · exact ⟨_, _, _, rfl⟩
  · exact ⟨_, _, _, rfl⟩

theorem undrew {a b : World} {row : Option Nat} (h : a.drew.grownBy b row) : a.grownBy b row := ⟨h.os, h.tape, h.output, h.size, h.block⟩
theorem grown_any {a b : World} {row : Option Nat} (h : a.grownBy b none) : a.grownBy b row := ⟨h.os, h.tape, h.output, h.size, fun k hk _ => h.block k hk (by simp)⟩
theorem grown_new {a c d : World} {b : Nat} {row : Option Nat} (h : a.grownBy c (some b)) (k : c.grownBy d row) (hr : ∀ x, row = some x → a.heap.size ≤ x) : a.grownBy d (some b) :=
  ⟨k.os.trans h.os, k.tape.trans h.tape, k.output.trans h.output, Nat.le_trans h.size k.size, fun i hi hn => (k.block i (Nat.lt_of_lt_of_le hi h.size) (fun e => by have := hr i e.symm; omega)).trans (h.block i hi hn)⟩

/-- keep.add: the list behind the pointer has one span more, or stands as it was. -/
def RetAdd (w : World) (b o : Nat) (TT : TypeId) (cs : Array Value) (v : Value) (L : List Sp) (f t val : Int) (e : Ending) (w' : World) : Prop :=
  ∃ v', e = .returned (.tuple #[]) ∧ Blk w' b TT (cs.setIfInBounds o v') ∧ w.grownBy w' (some b) ∧
    (val ≤ 0 → v' = v) ∧ (0 < val → ∀ S : List Nat, (∀ x ∈ S, x < w.heap.size) → Spans (veil S w') (veil S w').heap.size v' (L ++ [(f, t, val)]))

set_option maxRecDepth 100000 in
set_option maxHeartbeats 1000000 in
theorem add_any (w : World) (b o : Nat) (TT : TypeId) (cs : Array Value) (v : Value) (L : List Sp) (f t u val : Int) (hb : Blk w b TT cs) (hc : cs[o]? = some v) (hv : Spans w w.heap.size v L) (hl : L.length ≤ 1000000) :
    Calls Tryd.prog 36 #[.pointer (some ⟨b, o, none⟩), .agg #[.int .i64 f, .int .i64 t, .int .i64 u], .int .i64 val] w (RetAdd w b o TT cs v L f t val) := by
  by_cases h0 : 0 < val
  · go_enter Tryd.func36, Tryd.ntmps36
    go_wp2
    have hN : Blk (w.alloc (.cells #[.int .i64 f, .int .i64 t, .int .i64 val] 44)) w.heap.size 44 #[.int .i64 f, .int .i64 t, .int .i64 val] := Blk.new _ _ _
    have hb1 := hb.alloc (.cells #[.int .i64 f, .int .i64 t, .int .i64 val] 44)
    have hv1 : Spans (w.alloc (.cells #[.int .i64 f, .int .i64 t, .int .i64 val] 44)) w.heap.size v L := hv.below (Below.alloc (Below.refl _ _) (Nat.le_refl _) _)
    have hg1 := grown_alloc w (.cells #[.int .i64 f, .int .i64 t, .int .i64 val] 44) (some b)
    generalize w.alloc (.cells #[.int .i64 f, .int .i64 t, .int .i64 val] 44) = R at *
    obtain ⟨i0, hi, hz0, hz1, hz2⟩ := info_parts Tryd.infoSpan
    have d0 := hN.at_ (i := 0) (u := .int .i64 f) rfl
    have d1 := hN.at_ (i := 1) (u := .int .i64 t) rfl
    have d2 := hN.at_ (i := 2) (u := .int .i64 val) rfl
    have e0 := hb1.at_ hc
    have hRs : w.heap.size < R.heap.size := hN.lt
    obtain ⟨A, c, rfl, _⟩ := id hv1
    have HV1 := Lib.hid hv1
    have HB1 := Lib.hid hb1
    have HN := Lib.hid hN
    clear hv hb hv1 hb1 hN
    have hfree : ∀ (W : World) (v2 : Value) (n : Nat) (xs : List Value), W.ownsRow R.heap.size 44 3 v2 n xs → ∀ k, k < R.heap.size → some k ≠ v2.ownBlock := fun W v2 n xs h k hk e => by have := (h.lt k e.symm).1; omega
    have eA : (R.alloc (.cells #[.int .i64 f, .int .i64 t, .int .i64 val] 44)).cell? ⟨b, o, none⟩ = some (.slice A L.length c) := (HB1.out.alloc (.cells #[.int .i64 f, .int .i64 t, .int .i64 val] 44)).at_ hc
    have hbR := HB1.out.lt
    go_region_law (first
      | (refine step_app_nil rfl (.const (.slice none 0 0)) (.tmp 13) rfl Tryd.underlying23 hi hz0 hz1 hz2 R _ L w.heap.size rfl rfl (show Spans R.drew w.heap.size _ L from HV1.out) hl (Nat.le_refl _) ?_; intro v2 w2 hown2 hg2; have hb2 := (show Blk R.drew b TT cs from HB1.out).grown hg2 (by simp); have hN2 := (show Blk R.drew w.heap.size 44 #[.int .i64 f, .int .i64 t, .int .i64 val] from HN.out).grown hg2 (by simp); have d02 := hN2.at_ (i := 0) (u := .int .i64 f) rfl; have d12 := hN2.at_ (i := 1) (u := .int .i64 t) rfl; have d22 := hN2.at_ (i := 2) (u := .int .i64 val) rfl; have hgr2 : w.grownBy w2 (some b) := hg1.trans (grown_any (undrew hg2)))
      | (refine step_app_one rfl (.tmp 14) (.tmp 16) rfl Tryd.underlying23 hi hz0 hz1 hz2 R _ w2.heap.size L f t val rfl rfl (hown2.alloc (.cells #[.int .i64 f, .int .i64 t, .int .i64 val] 44)) (Blk.new w2 44 #[.int .i64 f, .int .i64 t, .int .i64 val]) hl (by have := hg2.size; simp at this ⊢; omega) ?_; intro v3 w3 hown3 hg3; have hb3 := (hb2.alloc (.cells #[.int .i64 f, .int .i64 t, .int .i64 val] 44)).grown hg3 (hfree _ _ _ _ hown2 b HB1.out.lt); have e3 := hb3.at_ hc; have f3 := hb3.free o; have hgr3 := grown_new (hgr2.trans (grown_alloc w2 (.cells #[.int .i64 f, .int .i64 t, .int .i64 val] 44) (some b))) hg3 (fun x hx => by have := (hown2.lt x hx).1; omega); obtain ⟨A3, m3, c3, rfl⟩ := own_slice hown3)
      | (refine step_app_one rfl (.tmp 14) (.tmp 16) rfl Tryd.underlying23 hi hz0 hz1 hz2 R _ R.heap.size L f t val rfl rfl hown2 hK2 hl (by have := hg2.size; simp at this ⊢; omega) ?_; intro v3 w3 hown3 hg3; have hb3 := hb2.grown hg3 (hfree _ _ _ _ hown2 b HB1.out.lt); have e3 := hb3.at_ hc; have f3 := hb3.free o; have hgr3 := grown_new hgr2 hg3 (fun x hx => by have := (hown2.lt x hx).1; omega); obtain ⟨A3, m3, c3, rfl⟩ := own_slice hown3)
      | (refine step_app_nil rfl (.const (.slice none 0 0)) (.tmp 13) rfl Tryd.underlying23 hi hz0 hz1 hz2 R _ L w.heap.size rfl rfl (show Spans (R.alloc (.cells #[.int .i64 f, .int .i64 t, .int .i64 val] 44)).drew w.heap.size _ L from HV1.out.below (show Below w.heap.size R (R.alloc (.cells #[.int .i64 f, .int .i64 t, .int .i64 val] 44)).drew from (show Below w.heap.size R (R.alloc (.cells #[.int .i64 f, .int .i64 t, .int .i64 val] 44)) from Below.alloc (Below.refl _ _) (Nat.le_of_lt hRs) _).drew)) hl (by simp) ?_; intro v2 w2 hown2 hg2; have hb2 := (show Blk (R.alloc (.cells #[.int .i64 f, .int .i64 t, .int .i64 val] 44)).drew b TT cs from HB1.out.alloc (.cells #[.int .i64 f, .int .i64 t, .int .i64 val] 44)).grown hg2 (by simp); have hK2 := (show Blk (R.alloc (.cells #[.int .i64 f, .int .i64 t, .int .i64 val] 44)).drew R.heap.size 44 #[.int .i64 f, .int .i64 t, .int .i64 val] from Blk.new R 44 #[.int .i64 f, .int .i64 t, .int .i64 val]).grown hg2 (by simp); have hgr2 : w.grownBy w2 (some b) := (hg1.trans (grown_alloc R (.cells #[.int .i64 f, .int .i64 t, .int .i64 val] 44) (some b))).trans (grown_any (undrew hg2))))
    all_goals go_wp2
    all_goals go_end0
    all_goals exact ⟨_, rfl, hb3.put o _, grown_setCell hgr3 o _, fun h => absurd h0 (by omega), fun _ S hS => Spans.veil_own (base := R.heap.size) (own_grown hown3 (grown_setCell (grown_refl _ (some b)) o _) hbR) (fun x hx => by have := hS x hx; omega)⟩
  · have HB := Lib.hid hb
    clear hb hv
    go_enter Tryd.func36, Tryd.ntmps36
    go_wp2
    go_end0
    have e1 : cs.setIfInBounds o v = cs := by
      refine Array.ext_getElem? fun i => ?_
      rw [Array.getElem?_setIfInBounds]
      by_cases h : o = i
      · subst h
        have := (Array.getElem?_eq_some_iff.1 hc).1
        simp [this]
        exact ((Array.getElem?_eq_some_iff.1 hc).2).symm
      · simp [h]
    exact ⟨v, rfl, by rw [e1]; exact HB.out.alloc _, grown_alloc _ _ _, fun _ => rfl, fun h => absurd h (by omega)⟩
end Go.Proofs.YtneinkpfhkojgaaDoor
/-
  One element is appended to an own row in a drawn region; rows of mappings; readings that outlive what is appended.
-/
namespace Go.Proofs.YtneinkpfhkojgaaDoor
open Go.RowKit ND

/-- A reading in a veiled world goes over to another world that has the cells it leans on. -/
theorem Ints.reveil {S S' : List Nat} {w w' : World} {B : Nat} {k : IntKind} {v : Value} {xs : List Int} (h : Ints (veil S w) B k v xs)
    (hk : ∀ p x, p.block < B → p.block ∉ S → w.cell? p = some x → p.block ∉ S' ∧ w'.cell? p = some x) : Ints (veil S' w') B k v xs := by
  obtain ⟨A, c, hv, h1, h2, h3, h4⟩ := h
  refine ⟨A, c, hv, h1, h2, h3, fun i x hi => ?_⟩
  obtain ⟨ad, e, hb, hc⟩ := h4 i x hi
  have hlt := World.block_lt_of_cell? _ _ hc
  have hn : (ad.add i).block ∉ S := by
    intro hx
    rw [veil_size] at hlt
    have := veil_in S w _ hx hlt
    unfold World.cell? at hc
    rw [this] at hc
    simp at hc
  obtain ⟨g1, g2⟩ := hk _ _ (by rw [block_of_add]; exact hb) hn (veil_cell hc)
  exact ⟨ad, e, hb, by rw [cell_veil g1]; exact g2⟩

theorem unveil_at {S : List Nat} {w : World} {p : Addr} {x : Value} (h : (veil S w).cell? p = some x) : p.block ∉ S := by
  have hlt := World.block_lt_of_cell? _ _ h
  intro hx
  rw [veil_size] at hlt
  have := veil_in S w _ hx hlt
  unfold World.cell? at h
  rw [this] at h
  simp at h
theorem Spans.reveil {S S' : List Nat} {w w' : World} {B : Nat} {v : Value} {xs : List Sp} (h : Spans (veil S w) B v xs)
    (hk : ∀ p x, p.block < B → p.block ∉ S → w.cell? p = some x → p.block ∉ S' ∧ w'.cell? p = some x) : Spans (veil S' w') B v xs := by
  obtain ⟨A, c, hv, h1, h2, h3, h4⟩ := h
  refine ⟨A, c, hv, h1, h2, h3, fun i x hi => ?_⟩
  obtain ⟨ad, e, hb, c0, c1, c2⟩ := h4 i x hi
  have go : ∀ p y, p.block < B → (veil S w).cell? p = some y → (veil S' w').cell? p = some y := fun p y hp hy => by
    obtain ⟨g1, g2⟩ := hk p y hp (unveil_at hy) (veil_cell hy)
    rw [cell_veil g1]; exact g2
  exact ⟨ad, e, hb, go _ _ (by rw [block_of_add]; exact hb) c0, go _ _ (by rw [block_of_add]; exact hb) c1, go _ _ (by rw [block_of_add]; exact hb) c2⟩
theorem Mapps.reveil {S S' : List Nat} {w w' : World} {B : Nat} {v : Value} {xs : List Mp} (h : Mapps (veil S w) B v xs)
    (hk : ∀ p x, p.block < B → p.block ∉ S → w.cell? p = some x → p.block ∉ S' ∧ w'.cell? p = some x) : Mapps (veil S' w') B v xs := by
  obtain ⟨A, c, hv, h1, h2, h3, h4⟩ := h
  refine ⟨A, c, hv, h1, h2, h3, fun i x hi => ?_⟩
  obtain ⟨ad, sv, e, hb, c0, c1, hI⟩ := h4 i x hi
  have go : ∀ p y, p.block < B → (veil S w).cell? p = some y → (veil S' w').cell? p = some y := fun p y hp hy => by
    obtain ⟨g1, g2⟩ := hk p y hp (unveil_at hy) (veil_cell hy)
    rw [cell_veil g1]; exact g2
  exact ⟨ad, sv, e, hb, go _ _ (by rw [block_of_add]; exact hb) c0, go _ _ (by rw [block_of_add]; exact hb) c1, hI.reveil hk⟩
/-- What keeps a row of mappings: nothing but blocks of S may change. -/
theorem grown_reveil {S : List Nat} {X w' : World} {v v' : Value} (q : X.grownBy w' v.ownBlock) (r : ∀ g, v'.ownBlock = some g → v.ownBlock = some g ∨ g = X.heap.size) :
    ∀ (p : Addr) (x : Value), p.block < X.heap.size → p.block ∉ S ++ v.ownBlock.toList → X.cell? p = some x → p.block ∉ S ++ v'.ownBlock.toList ∧ w'.cell? p = some x := by
  intro pp xx hpb hpn hpc
  refine ⟨?_, ?_⟩
  · intro hx
    rcases List.mem_append.1 hx with hx | hx
    · exact hpn (List.mem_append_left _ hx)
    · rw [Option.mem_toList] at hx
      rcases r _ hx with e | e
      · exact hpn (List.mem_append_right _ (by rw [Option.mem_toList]; exact e))
      · omega
  · have e := q.block pp.block hpb (fun e => hpn (List.mem_append_right _ (by rw [Option.mem_toList]; exact e.symm)))
    unfold World.cell? at hpc ⊢
    rw [e]; exact hpc
theorem onlyIn_reveil {S S1 : List Nat} {X w' : World} (h : onlyIn S X w') (hS : ∀ x ∈ S, x ∈ S1) :
    ∀ (p : Addr) (x : Value), p.block < X.heap.size → p.block ∉ S1 → X.cell? p = some x → p.block ∉ S1 ∧ w'.cell? p = some x := by
  intro pp xx hpb hpn hpc
  refine ⟨hpn, ?_⟩
  have e := h.2.2.2.2 pp.block (fun hx => hpn (hS _ hx)) hpb
  unfold World.cell? at hpc ⊢
  rw [e]; exact hpc

/-- The cells of mappings. -/
def mpCells (ps : List (Int × Value)) : List Value := ps.flatMap fun p => [.int .i64 p.1, p.2]
theorem mpCells_snoc (ps : List (Int × Value)) (p : Int × Value) : mpCells (ps ++ [p]) = mpCells ps ++ [.int .i64 p.1, p.2] := by simp [mpCells]
theorem mpCells_at {ps : List (Int × Value)} {i : Nat} {p : Int × Value} (h : ps[i]? = some p) : (mpCells ps)[i * 2]? = some (.int .i64 p.1) ∧ (mpCells ps)[i * 2 + 1]? = some p.2 := by
  induction ps generalizing i with
  | nil => simp at h
  | cons a r ih =>
    cases i with
    | zero => simp at h; subst h; exact ⟨rfl, rfl⟩
    | succ j =>
      obtain ⟨a0, a1⟩ := ih (i := j) (by simpa using h)
      have e : mpCells (a :: r) = [.int .i64 a.1, a.2] ++ mpCells r := by simp [mpCells]
      rw [e]
      refine ⟨?_, ?_⟩
      · rw [List.getElem?_append_right (by simp; omega)]; simpa [show (j + 1) * 2 - 2 = j * 2 by omega] using a0
      · rw [List.getElem?_append_right (by simp; omega)]; simpa [show (j + 1) * 2 + 1 - 2 = j * 2 + 1 by omega] using a1

/-- An own row of mappings: its sequences lie in blocks that neither the list S nor the row itself touches. -/
def OwnM (S : List Nat) (w : World) (base : Nat) (v : Value) (D : List Mp) : Prop :=
  ∃ ps : List (Int × Value), ps.map (·.1) = D.map (·.1) ∧ ps.length = D.length ∧ w.ownsRow base 46 2 v ps.length (mpCells ps) ∧
    ∀ (i : Nat) (p : Int × Value) (d : Mp), ps[i]? = some p → D[i]? = some d → Ints (veil (S ++ v.ownBlock.toList) w) w.heap.size .i64 p.2 d.2
theorem OwnM.nil (S : List Nat) (w : World) (base : Nat) : OwnM S w base (.slice none 0 0) [] :=
  ⟨[], rfl, rfl, World.ownsRow_nil _ _ _ _, fun i p d h => by simp at h⟩

theorem step_app_blk {P : Program} {ops : Array Oper} {o : Oper} {a : Act} {X : World} {K : Act → World → Prop} {Q : Exit → Act → World → Prop} {E : Prop} {T e : TypeId} {i0 : TypeInfo} (hgd : o.guard = none) (s x : Operand)
    (ho : o.op = .call { callee := .builtin .append, args := #[s, x], argTypes := #[T, T] }) (ht : P.underlying T = some (.slice e)) (hi : P.info? e = some i0) (z : Value) (size bytes : Nat) (hz : i0.zero = some z) (h1 : i0.size = size) (h2 : i0.bytes = bytes) (hzs : z.cells.size = size) (hsz : 0 < size) (hby : bytes ≤ 1000)
    (base : Nat) (v : Value) (n : Nat) (xs : List Value) (k : Nat) (news : Array Value) (hs : a.eval s = v) (hx : a.eval x = .slice (some ⟨k, 0, none⟩) 1 1) (hown : X.ownsRow base e size v n xs) (hk : Blk X k e news) (hl : news.toList.length = 1 * size) (hone : ∀ u ∈ news.toList, u.oneCell' = true) (hn : n ≤ 1000000) (hb : base ≤ X.heap.size)
    (h : ∀ v' w', w'.ownsRow base e size v' (n + 1) (xs ++ news.toList) → X.grownBy w' v.ownBlock → (∀ g, v'.ownBlock = some g → v.ownBlock = some g ∨ g = X.heap.size) → (∃ A m c, v' = .slice A m c) → K (a.put o.dst v') w') :
    if Region.wanted o (yielded ops a.tmps) = true then Oper.wp P o a X K Q else E := by
  refine step_append_lies _ hgd s x T ho base e i0 z size bytes ht hi hz h1 h2 hzs hsz v n xs hs hown ⟨k, 0, none⟩ 1 1 news.toList hx hl (World.news_of_block (cs := news) hk) hone (by omega) (by unfold maxLen; omega) ?_ hb X.heap.size rfl ?_
  · calc (n + 1) * bytes ≤ 1000001 * 1000 := Nat.mul_le_mul (by omega) hby
      _ ≤ _ := by decide
  · intro g cap w' p q r _
    refine h _ w' p q (fun g' hg' => ?_) ⟨_, _, _, rfl⟩
    simp only [Value.ownBlock, Option.some.injEq] at hg'
    subst hg'; exact r

theorem OwnM.kept {S : List Nat} {w w' : World} {base : Nat} {v : Value} {D : List Mp} (h : OwnM S w base v D) (hw : onlyIn S w w') (hv : ∀ g, v.ownBlock = some g → g ∉ S) : OwnM S w' base v D := by
  obtain ⟨ps, hm, hlen, hown, hr⟩ := h
  refine ⟨ps, hm, hlen, ?_, fun i p d hp hd => Ints.more ((hr i p d hp hd).reveil (onlyIn_reveil hw fun x hx => List.mem_append_left _ hx)) hw.2.2.2.1⟩
  refine ⟨hown.1, ?_⟩
  rcases hown.2 with hn | ⟨g, cap, cur, rfl, hb, hg, hrest⟩
  · exact .inl hn
  · exact .inr ⟨g, cap, cur, rfl, hb, (hw.2.2.2.2 g (hv g rfl) (Array.getElem?_eq_some_iff.1 hg).1).trans hg, hrest⟩

theorem OwnM.mapps {S : List Nat} {w : World} {base : Nat} {v : Value} {D : List Mp} (h : OwnM S w base v D) (hS : ∀ x ∈ S, x < base) : Mapps (veil S w) (veil S w).heap.size v D := by
  obtain ⟨ps, hm, hlen, hown, hr⟩ := h
  rcases hown.2 with ⟨rfl, hn⟩ | ⟨g, cap, cur, rfl, hb, hg, hnc, hcm, _⟩
  · have : D = [] := List.eq_nil_of_length_eq_zero (by omega)
    subst this
    exact ⟨none, 0, rfl, Nat.le_refl _, Nat.zero_le _, fun _ => rfl, fun _ _ h => by simp at h⟩
  · have hlt : g < w.heap.size := (Array.getElem?_eq_some_iff.1 hg).1
    refine ⟨some ⟨g, 0, none⟩, cap, by rw [hlen], by omega, hcm, (by intro h; cases h), fun i d hd => ?_⟩
    obtain ⟨p, hp⟩ : ∃ p, ps[i]? = some p := by
      have := (List.getElem?_eq_some_iff.1 hd).1
      exact ⟨_, List.getElem?_eq_getElem (by omega)⟩
    obtain ⟨a0, a1⟩ := mpCells_at hp
    have e1 : p.1 = d.1 := by
      have h1 : (ps.map (·.1))[i]? = (D.map (·.1))[i]? := by rw [hm]
      rw [List.getElem?_map, List.getElem?_map, hp, hd] at h1
      simpa using h1
    have hgS : g ∉ S := fun hx => by have := hS g hx; omega
    have hi := hr i p d hp hd
    refine ⟨⟨g, 0, none⟩, p.2, rfl, by rw [veil_size]; exact hlt, ?_, ?_, ?_⟩
    · rw [cell_veil (by rw [block_of_add]; exact hgS), ← e1]; exact hown.cells (g := g) rfl _ _ a0
    · rw [cell_veil (by rw [block_of_add]; exact hgS)]; exact hown.cells (g := g) rfl _ _ a1
    · rw [veil_size]
      exact hi.reveil fun q x _ hq hx => ⟨fun h => hq (List.mem_append_left _ h), hx⟩

theorem step_app_map {P : Program} {ops : Array Oper} {o : Oper} {a : Act} {X : World} {K : Act → World → Prop} {Q : Exit → Act → World → Prop} {E : Prop} {T : TypeId} {i0 : TypeInfo} (hgd : o.guard = none) (s x : Operand)
    (ho : o.op = .call { callee := .builtin .append, args := #[s, x], argTypes := #[T, T] }) (ht : P.underlying T = some (.slice 46)) (hi : P.info? 46 = some i0) (z : Value) (hz : i0.zero = some z) (h1 : i0.size = 2) (h2 : i0.bytes = 32) (hzs : z.cells.size = 2)
    (S : List Nat) (base : Nat) (v : Value) (D : List Mp) (k : Nat) (c : Int) (sv : Value) (l : List Int) (hs : a.eval s = v) (hx : a.eval x = .slice (some ⟨k, 0, none⟩) 1 1) (hown : OwnM S X base v D) (hk : Blk X k 46 #[.int .i64 c, sv]) (hsv : Ints (veil (S ++ v.ownBlock.toList) X) X.heap.size .i64 sv l)
    (hn : D.length ≤ 1000000) (hb : base ≤ X.heap.size)
    (h : ∀ v' w', OwnM S w' base v' (D ++ [(c, l)]) → X.grownBy w' v.ownBlock → (∀ g, v'.ownBlock = some g → v.ownBlock = some g ∨ g = X.heap.size) → (∃ A m c, v' = .slice A m c) → K (a.put o.dst v') w') :
    if Region.wanted o (yielded ops a.tmps) = true then Oper.wp P o a X K Q else E := by
  obtain ⟨ps, hm, hlen, ho', hr⟩ := hown
  refine step_app_blk hgd s x ho ht hi z 2 32 hz h1 h2 hzs (by omega) (by omega) base v ps.length (mpCells ps) k #[.int .i64 c, sv] hs hx ho' hk rfl ?_ (by omega) hb ?_
  · intro u hu
    obtain ⟨A, cc, e, _⟩ := hsv
    simp at hu
    rcases hu with rfl | rfl
    · rfl
    · rw [e]; rfl
  · intro v' w' p q r sl
    refine h v' w' ⟨ps ++ [(c, sv)], by simp [hm], by simp [hlen], by rw [mpCells_snoc]; simpa using p, ?_⟩ q r sl
    have key : ∀ sv l, Ints (veil (S ++ v.ownBlock.toList) X) X.heap.size .i64 sv l → Ints (veil (S ++ v'.ownBlock.toList) w') w'.heap.size .i64 sv l := by
      intro sv l hI
      refine Ints.more (hI.reveil fun pp xx hpb hpn hpc => ⟨?_, ?_⟩) q.size
      · intro hx
        rcases List.mem_append.1 hx with hx | hx
        · exact hpn (List.mem_append_left _ hx)
        · rw [Option.mem_toList] at hx
          rcases r _ hx with e | e
          · exact hpn (List.mem_append_right _ (by rw [Option.mem_toList]; exact e))
          · omega
      · have e := q.block pp.block hpb (fun e => hpn (List.mem_append_right _ (by rw [Option.mem_toList]; exact e.symm)))
        unfold World.cell? at hpc ⊢
        rw [e]; exact hpc
    intro i p d hp hd
    by_cases hil : i < ps.length
    · rw [List.getElem?_append_left hil] at hp
      rw [List.getElem?_append_left (by omega)] at hd
      exact key _ _ (hr i p d hp hd)
    · have hi2 : i = ps.length := by
        have := (List.getElem?_eq_some_iff.1 hp).1
        simp at this; omega
      subst hi2
      rw [List.getElem?_append_right (Nat.le_refl _)] at hp
      rw [List.getElem?_append_right (by omega), hlen] at hd
      simp at hp hd
      subst hp; subst hd
      exact key _ _ hsv
end Go.Proofs.YtneinkpfhkojgaaDoor
/-
  The walks through keep.pool, keep.point and keep.Points.
-/
namespace Go.Proofs.YtneinkpfhkojgaaDoor
open Go.RowKit ND

def poolL : List Int := [0xad, 0xb7, 0x301, 0x308, 0x323, 0x345, 0x375, 0x3b1, 0x3b2, 0x3b3, 0x430, 0x5d0, 0x5f3, 0x628, 0x629, 0x660, 0x6f0, 0x94d, 0x1e00, 0x1e01, 0x1e02, 0x1e03, 0x1e04, 0x200c, 0x200d, 0x30fb, 0x4e00, 0x1f600]
theorem pool_scal : ∀ c ∈ poolL, scalarB c = true := by decide

set_option maxRecDepth 100000 in
set_option maxHeartbeats 400000 in
theorem pool_any (w : World) : Calls Tryd.prog 33 #[] w fun e w' => e = .returned (.slice (some ⟨w.heap.size, 0, none⟩) 28 28) ∧ w' = w.alloc (.cells (poolL.map (Value.int .i64)).toArray 3) := by
  go_enter Tryd.func33, Tryd.ntmps33
  go_wp2_with fail
  go_ret
  exact ⟨rfl, rfl⟩

theorem Src.lt {w : World} {g : Nat} {v : Value} {n : Nat} (h : Src w g v n) : g < w.heap.size := by
  obtain ⟨i, _, hb⟩ := h; exact hb.lt
theorem Src.alloc {w : World} {g : Nat} {v : Value} {n : Nat} (h : Src w g v n) (o : Obj) : Src (w.alloc o) g v n := by
  obtain ⟨i, hi, hb⟩ := h; exact ⟨i, hi, hb.alloc o⟩
theorem Src.grown {w w' : World} {g : Nat} {v : Value} {n : Nat} {row : Option Nat} (h : Src w g v n) (hg : w.grownBy w' row) (hr : some g ≠ row) : Src w' g v n := by
  obtain ⟨i, hi, hb⟩ := h; exact ⟨i, hi, hb.grown hg hr⟩

def RetPoint (w : World) (g : Nat) (v : Value) (n : Nat) (e : Ending) (w' : World) : Prop :=
  ∃ r : Int, e = .returned (.int .i64 r) ∧ scalarB r = true ∧ Src w' g v n ∧ w.grownBy w' (some g)


set_option maxRecDepth 100000 in
set_option maxHeartbeats 1000000 in
theorem point_src (w : World) (g : Nat) (v : Value) (xs : List Int) (hv : Ints w g .i64 v xs) (hs : Src w g v xs.length) :
    Calls Tryd.prog 48 #[.pointer (some ⟨g, 0, none⟩)] w (RetPoint w g v xs.length) := by
  have hlt := hs.lt
  go_enter Tryd.func48, Tryd.ntmps48
  go_wp2_with fail
  refine (pool_any _).mono ?_
  rintro e w1 ⟨rfl, rfl⟩
  have hs1 := hs.alloc (.cells (poolL.map (Value.int .i64)).toArray 3)
  have hg1 := grown_alloc w (.cells (poolL.map (Value.int .i64)).toArray 3) (some g)
  have hv1 := hv.grown hg1 hlt
  have hcells := cells_new w (poolL.map (Value.int .i64)) 3
  have hlt1 := hs1.lt
  have hsz : w.heap.size < (w.alloc (.cells (poolL.map (Value.int .i64)).toArray 3)).heap.size := by simp
  generalize w.alloc (.cells (poolL.map (Value.int .i64)).toArray 3) = w1 at *
  go_wp2_with fail
  refine (next_src w1 g v xs 8 hv1 hs1 (by decide) (by decide)).mono ?_
  rintro e w2 ⟨r, rfl, hr0, hr1, hs2, hg2⟩
  have hv2 := hv1.grown hg2 hlt1
  have hG2 := grown_trans hg1 hg2
  have hc2 : r = 0 ∨ r = 1 ∨ r = 2 ∨ r = 3 ∨ r = 4 ∨ (5 ≤ r ∧ (r == 0) = false ∧ (r == 1) = false ∧ (r == 2) = false ∧ (r == 3) = false ∧ (r == 4) = false) := by
    have : r = 0 ∨ r = 1 ∨ r = 2 ∨ r = 3 ∨ r = 4 ∨ 5 ≤ r := by omega
    rcases this with h | h | h | h | h | h
    · exact .inl h
    · exact .inr (.inl h)
    · exact .inr (.inr (.inl h))
    · exact .inr (.inr (.inr (.inl h)))
    · exact .inr (.inr (.inr (.inr (.inl h))))
    · exact .inr (.inr (.inr (.inr (.inr ⟨h, beq_eq_false_iff_ne.2 (by omega), beq_eq_false_iff_ne.2 (by omega), beq_eq_false_iff_ne.2 (by omega), beq_eq_false_iff_ne.2 (by omega), beq_eq_false_iff_ne.2 (by omega)⟩))))
  rcases hc2 with rfl | rfl | rfl | rfl | rfl | ⟨h5, q0, q1, q2, q3, q4⟩
  · go_wp2_with fail
    refine (next_src w2 g v xs 12 hv2 hs2 (by decide) (by decide)).mono ?_
    rintro e w3 ⟨s, rfl, hs0, hs1', hs3, hg3⟩
    have hG3 := grown_trans hG2 hg3
    have h12 : s = 0 ∨ s = 1 ∨ s = 2 ∨ s = 3 ∨ s = 4 ∨ s = 5 ∨ s = 6 ∨ s = 7 ∨ s = 8 ∨ s = 9 ∨ s = 10 ∨ s = 11 := by omega
    clear hs0 hs1' hg3 hv2 hs2 hG2 hv1 hs1 hg1 hv hs hcells
    rcases h12 with rfl | rfl | rfl | rfl | rfl | rfl | rfl | rfl | rfl | rfl | rfl | rfl
    all_goals
      go_wp2_with fail
      go_ret
      exact ⟨_, rfl, by first | decide +kernel | kernel_rfl | rfl, hs3, hG3⟩
  · go_wp2_with fail
    refine (next_src w2 g v xs 12 hv2 hs2 (by decide) (by decide)).mono ?_
    rintro e w3 ⟨s, rfl, hs0, hs1', hs3, hg3⟩
    have hG3 := grown_trans hG2 hg3
    have h12 : s = 0 ∨ s = 1 ∨ s = 2 ∨ s = 3 ∨ s = 4 ∨ s = 5 ∨ s = 6 ∨ s = 7 ∨ s = 8 ∨ s = 9 ∨ s = 10 ∨ s = 11 := by omega
    clear hs0 hs1' hg3 hv2 hs2 hG2 hv1 hs1 hg1 hv hs hcells
    rcases h12 with rfl | rfl | rfl | rfl | rfl | rfl | rfl | rfl | rfl | rfl | rfl | rfl
    all_goals
      go_wp2_with fail
      go_ret
      exact ⟨_, rfl, by first | decide +kernel | kernel_rfl | rfl, hs3, hG3⟩
  · go_wp2_with fail
    refine (next_src w2 g v xs 12 hv2 hs2 (by decide) (by decide)).mono ?_
    rintro e w3 ⟨s, rfl, hs0, hs1', hs3, hg3⟩
    have hG3 := grown_trans hG2 hg3
    have h12 : s = 0 ∨ s = 1 ∨ s = 2 ∨ s = 3 ∨ s = 4 ∨ s = 5 ∨ s = 6 ∨ s = 7 ∨ s = 8 ∨ s = 9 ∨ s = 10 ∨ s = 11 := by omega
    clear hs0 hs1' hg3 hv2 hs2 hG2 hv1 hs1 hg1 hv hs hcells
    rcases h12 with rfl | rfl | rfl | rfl | rfl | rfl | rfl | rfl | rfl | rfl | rfl | rfl
    all_goals
      go_wp2_with fail
      go_ret
      exact ⟨_, rfl, by first | decide +kernel | kernel_rfl | rfl, hs3, hG3⟩
  · go_wp2_with fail
    refine (next_src w2 g v xs 60 hv2 hs2 (by decide) (by decide)).mono ?_
    rintro e w3 ⟨s, rfl, hs0, hs1', hs3, hg3⟩
    have hG3 := grown_trans hG2 hg3
    go_wp2_with fail
    go_ret
    exact ⟨_, rfl, (scalarB_iff _).2 (by omega), hs3, hG3⟩
  · go_wp2_with fail
    have hg' := grown_alloc w2 (.cells #[.int .i64 4352, .int .i64 4449, .int .i64 4520, .int .i64 46] 3) (some g)
    refine (next_src _ g v xs 4 (hv2.grown hg' hs2.lt) (hs2.alloc _) (by decide) (by decide)).mono ?_
    rintro e w3 ⟨s, rfl, hs0, hs1', hs3, hg3⟩
    have hG3 := grown_trans hG2 (grown_trans hg' hg3)
    have hk := cell_kept w2.heap.size (cells_new w2 [.int .i64 4352, .int .i64 4449, .int .i64 4520, .int .i64 46] 3) hg3 (by simp) (by have := hs2.lt; omega)
    have k0 := hk 0 _ rfl
    have k1 := hk 1 _ rfl
    have k2 := hk 2 _ rfl
    have k3 := hk 3 _ rfl
    clear hk hg' hg3
    have h4 : s = 0 ∨ s = 1 ∨ s = 2 ∨ s = 3 := by omega
    clear hs0 hs1'
    rcases h4 with rfl | rfl | rfl | rfl
    all_goals
      go_wp2_with fail
      go_ret
      exact ⟨_, rfl, by decide, hs3, hG3⟩
  · go_wp2_with fail
    refine (next_src w2 g v xs 28 hv2 hs2 (by decide) (by decide)).mono ?_
    rintro e w3 ⟨s, rfl, hs0, hs1', hs3, hg3⟩
    have hG3 := grown_trans hG2 hg3
    have hk := cell_kept w.heap.size hcells (grown_trans hg2 hg3) hsz (by omega)
    obtain ⟨m, rfl⟩ := Int.eq_ofNat_of_zero_le hs0
    have hm : m < 28 := by omega
    obtain ⟨x, hx, hxm⟩ := get_of (xs := poolL) (k := m) hm
    have k0 := hk m (.int .i64 x) (by rw [List.getElem?_map, hx]; rfl)
    have hsx := Lib.hid (pool_scal x hxm)
    clear hk hx hxm hcells hg3
    go_wp2_with fail
    go_ret
    exact ⟨_, rfl, hsx.out, hs3, hG3⟩
end Go.Proofs.YtneinkpfhkojgaaDoor
/-
  The state of keep.maps' loop, and what keeps it.
-/
namespace Go.Proofs.YtneinkpfhkojgaaDoor
open Go.RowKit ND

/-- The statuses from the k-th code point on. -/
def StRow (w : World) (sb k : Nat) (st : List Int) : Prop := ∃ cs, Blk w sb 3 cs ∧ ∀ j x, k ≤ j → st[j]? = some x → cs[j]? = some (.int .i64 x)

theorem Tryd.infoMap : (Tryd.prog.info? 46).map (fun i => (i.zero, i.size, i.bytes)) = some (some (.agg #[.int .i64 0, .slice none 0 0]), 2, 32) := by kernel_rfl

theorem Ints.veil_own {S : List Nat} {w : World} {base : Nat} {e : TypeId} {k : IntKind} {v : Value} {xs : List Int} (h : w.ownsRow base e 1 v xs.length (xs.map (Value.int k))) (hS : ∀ x ∈ S, x < base) : Ints (veil S w) (veil S w).heap.size k v xs := by
  obtain ⟨A, c, hv, h1, h2, h3, h4⟩ := Ints.of_own h
  refine ⟨A, c, hv, h1, h2, h3, fun i x hi => ?_⟩
  obtain ⟨ad, rfl, hb, c0⟩ := h4 i x hi
  have hob : base ≤ ad.block := by
    rcases h.2 with ⟨hv', _⟩ | ⟨g, cap, cur, hv', hbg, _⟩
    · rw [hv] at hv'; cases hv'
    · rw [hv] at hv'; cases hv'; exact hbg
  have hn : ad.block ∉ S := fun hx => by have := hS _ hx; omega
  exact ⟨ad, rfl, by rw [veil_size]; exact hb, by rw [cell_veil (by rw [block_of_add]; exact hn)]; exact c0⟩
theorem own_ne {W : World} {base g : Nat} {t e : TypeId} {size n : Nat} {v : Value} {xs : List Value} {cs : Array Value} (h : W.ownsRow base e size v n xs) (hb : Blk W g t cs) (hne : t ≠ e) : v.ownBlock ≠ some g := by
  rcases h.2 with ⟨rfl, _⟩ | ⟨g', cap, cur, rfl, _, hg, _⟩
  · intro h; cases h
  · intro he
    simp only [Value.ownBlock, Option.some.injEq] at he
    subst he
    rw [hb] at hg
    cases hg
    exact hne rfl

/-- A new block of integers is an own row. -/
theorem own_new (w : World) (e : TypeId) (ys : List Int) (hl : ys.length ≤ 1000000) :
    (w.alloc (.cells (ys.map (Value.int .i64)).toArray e)).ownsRow w.heap.size e 1 (.slice (some ⟨w.heap.size, 0, none⟩) ys.length ys.length) ys.length (ys.map (Value.int .i64)) :=
  ⟨by simp, .inr ⟨w.heap.size, ys.length, (ys.map (Value.int .i64)).toArray, rfl, Nat.le_refl _, heap_alloc_new w _, Nat.le_refl _, by unfold maxLen; omega, by simp, by simp [List.take_of_length_le]⟩⟩

/-- A mapping of the call's own: its block x, its sequence an own row from block B on. -/
def XAt (W : World) (x B : Nat) (c : Int) (sv : Value) (l : List Int) : Prop :=
  Blk W x 46 #[.int .i64 c, sv] ∧ W.ownsRow B 3 1 sv l.length (l.map (Value.int .i64))
theorem XAt.grown {W W' : World} {x B g : Nat} {c : Int} {sv : Value} {l : List Int} (h : XAt W x B c sv l) (hg : W.grownBy W' (some g)) (hx : g ≠ x) (hB : g < B) : XAt W' x B c sv l :=
  ⟨h.1.grown hg (by intro e; injection e with e; exact hx e.symm), own_grown h.2 hg hB⟩

theorem onlyIn.far {S : List Nat} {a w w' : World} {row : Option Nat} (h : onlyIn S a w) (hg : w.grownBy w' row) (hr : ∀ x, row = some x → a.heap.size ≤ x) : onlyIn S a w' :=
  ⟨hg.os.trans h.1, hg.tape.trans h.2.1, hg.output.trans h.2.2.1, Nat.le_trans h.2.2.2.1 hg.size, fun k hk hl => (hg.block k (Nat.lt_of_lt_of_le hl h.2.2.2.1) (fun e => by have := hr k e.symm; omega)).trans (h.2.2.2.2 k hk hl)⟩
theorem XAt.put1 {W : World} {x B : Nat} {c : Int} {sv sv' : Value} {l : List Int} (hb : Blk W x 46 #[.int .i64 c, sv]) (ho : W.ownsRow B 3 1 sv' l.length (l.map (Value.int .i64))) : XAt (W.setCell ⟨x, 1, none⟩ sv') x B c sv' l :=
  ⟨by simpa using hb.put 1 sv', ho.kept (grown_setCell (grown_refl W (some x)) 1 sv') (.inr (own_ne ho hb (by decide)))⟩

structure MSt (w : World) (g b sb n : Nat) (v c0 c1 c2 c3 c4 c6 c7 c9 c10 c11 : Value) (k : Nat) (v5 v8 : Value) (S : List Sp) (M : List Mp) (st : List Int) (wr : World) : Prop where
  blk : Blk wr b 26 #[c0, c1, c2, c3, c4, v5, c6, c7, v8, c9, c10, c11]
  sp : Spans (veil ([g, b, sb] ++ v8.ownBlock.toList) wr) wr.heap.size v5 S
  om : OwnM [g, b, sb] wr (w.heap.size + 1) v8 M
  src : Src wr g v n
  oi : onlyIn [g, b, sb] w wr
  pool : Blk wr w.heap.size 3 (poolL.map (Value.int .i64)).toArray
  row : StRow wr sb k st

section
variable {w : World} {g b sb n : Nat} {v c0 c1 c2 c3 c4 c6 c7 c9 c10 c11 : Value} {k : Nat} {v5 v8 : Value} {S : List Sp} {M : List Mp} {st : List Int} {wr w' : World}
theorem MSt.own (h : MSt w g b sb n v c0 c1 c2 c3 c4 c6 c7 c9 c10 c11 k v5 v8 S M st wr) : ∀ q, v8.ownBlock = some q → w.heap.size + 1 ≤ q ∧ q < wr.heap.size := fun q hq => by
  obtain ⟨ps, _, _, ho, _⟩ := h.om
  exact ho.lt q hq
theorem MSt.only (h : MSt w g b sb n v c0 c1 c2 c3 c4 c6 c7 c9 c10 c11 k v5 v8 S M st wr) (hgb : g < b) (hbs : b < sb) (hsb : sb < w.heap.size) (ho : onlyIn [g] wr w') (hs : Src w' g v n) :
    MSt w g b sb n v c0 c1 c2 c3 c4 c6 c7 c9 c10 c11 k v5 v8 S M st w' := by
  have ho3 : onlyIn [g, b, sb] wr w' := ho.more fun x hx => by simp at hx ⊢; exact .inl hx
  have hown := h.own
  refine ⟨ho.blk h.blk (by simp; omega), ?_, h.om.kept ho3 (fun q hq hx => by have := hown q hq; simp at hx; omega), hs, h.oi.trans ho3, ho.blk h.pool (by simp; omega), ?_⟩
  · exact (h.sp.reveil (onlyIn_reveil ho3 fun x hx => List.mem_append_left _ hx)).more ho.2.2.2.1
  · obtain ⟨cs, h1, h2⟩ := h.row
    exact ⟨cs, ho.blk h1 (by simp; omega), h2⟩
/-- One status is added; the rest stands. -/
theorem MSt.add (h : MSt w g b sb n v c0 c1 c2 c3 c4 c6 c7 c9 c10 c11 k v5 v8 S M st wr) (hgb : g < b) (hbs : b < sb) (hsb : sb < w.heap.size) {c x : Int} {e : Ending}
    (ret : RetAdd wr.drew b 5 26 #[c0, c1, c2, c3, c4, v5, c6, c7, v8, c9, c10, c11] v5 S c c x e w') :
    ∃ v5' S', e = .returned (.tuple #[]) ∧ MSt w g b sb n v c0 c1 c2 c3 c4 c6 c7 c9 c10 c11 k v5' v8 S' M st w' ∧ (x ≤ 0 → S' = S) ∧ (0 < x → S' = S ++ [(c, c, x)]) := by
  obtain ⟨v5', rfl, hb5, hg0, hz5, hp5⟩ := ret
  have hg5 := undrew hg0
  have ho5 : onlyIn [g, b, sb] wr w' := onlyIn.of_grown hg5 (by simp)
  have hsz := h.oi.2.2.2.1
  have hown := h.own
  have hP5 := h.pool.grown hg5 (by intro e; injection e; omega)
  have hT5 : StRow w' sb k st := by
    obtain ⟨cs, h1, h2⟩ := h.row
    exact ⟨cs, h1.grown hg5 (by intro e; injection e; omega), h2⟩
  have hs5 : Src w' g v n := by
    obtain ⟨i, h1, h2⟩ := h.src
    exact ⟨i, h1, h2.grown hg5 (by intro e; injection e; omega)⟩
  have hM5 := h.om.kept ho5 (fun q hq hx => by have := hown q hq; simp at hx; omega)
  by_cases h0 : x ≤ 0
  · refine ⟨v5', S, rfl, ⟨by simpa using hb5, ?_, hM5, hs5, h.oi.trans ho5, hP5, hT5⟩, fun _ => rfl, fun h => absurd h (by omega)⟩
    rw [hz5 h0]
    exact (h.sp.reveil (onlyIn_reveil ho5 fun x hx => List.mem_append_left _ hx)).more hg5.size
  · refine ⟨v5', S ++ [(c, c, x)], rfl, ⟨by simpa using hb5, ?_, hM5, hs5, h.oi.trans ho5, hP5, hT5⟩, fun h => absurd h h0, fun _ => rfl⟩
    have h' := hp5 (by omega) ([g, b, sb] ++ v8.ownBlock.toList) (fun q hq => by
      show q < wr.heap.size
      rcases List.mem_append.1 hq with hq | hq
      · simp at hq; omega
      · rw [Option.mem_toList] at hq; exact (hown q hq).2)
    rw [veil_size] at h'
    exact h'
theorem MSt.up (h : MSt w g b sb n v c0 c1 c2 c3 c4 c6 c7 c9 c10 c11 k v5 v8 S M st wr) {st' : List Int} (hst : ∀ j x, k + 1 ≤ j → st'[j]? = some x → st[j]? = some x) : MSt w g b sb n v c0 c1 c2 c3 c4 c6 c7 c9 c10 c11 (k + 1) v5 v8 S M st' wr :=
  ⟨h.blk, h.sp, h.om, h.src, h.oi, h.pool, by
    obtain ⟨cs, h1, h2⟩ := h.row
    exact ⟨cs, h1, fun j x hj hx => h2 j x (by omega) (hst j x hj hx)⟩⟩
/-- A mapping is appended to the own row. -/
theorem MSt.append (h : MSt w g b sb n v c0 c1 c2 c3 c4 c6 c7 c9 c10 c11 k v5 v8 S M st wr) (hgb : g < b) (hbs : b < sb) (hsb : sb < w.heap.size) {X : World} {v8' : Value} {M' : List Mp}
    (ho : onlyIn [] wr X) (hg : X.grownBy w' v8.ownBlock) (hr : ∀ q, v8'.ownBlock = some q → v8.ownBlock = some q ∨ q = X.heap.size) (hM : OwnM [g, b, sb] w' (w.heap.size + 1) v8' M') :
    MSt w g b sb n v c0 c1 c2 c3 c4 c6 c7 c9 c10 c11 k v5 v8' S M' st (w'.setCell ⟨b, 8, none⟩ v8') := by
  have hown := h.own
  have hsz := h.oi.2.2.2.1
  have hnot : ∀ q, q < w.heap.size + 1 → some q ≠ v8.ownBlock := fun q hq e => by have := hown q e.symm; omega
  have hbX : Blk X b 26 #[c0, c1, c2, c3, c4, v5, c6, c7, v8, c9, c10, c11] := ho.blk h.blk (by simp)
  have ho3 : onlyIn [g, b, sb] wr X := ho.more (by simp)
  have hset : onlyIn [g, b, sb] w' (w'.setCell ⟨b, 8, none⟩ v8') := onlyIn.of_grown (grown_setCell (grown_refl w' (some b)) 8 v8') (by simp)
  have hgs : w'.grownBy (w'.setCell ⟨b, 8, none⟩ v8') (some b) := grown_setCell (grown_refl w' (some b)) 8 v8'
  have hXs : wr.heap.size ≤ X.heap.size := ho.2.2.2.1
  refine ⟨?_, ?_, ?_, ?_, ?_, ?_, ?_⟩
  · simpa using (hbX.grown hg (hnot b (by omega))).put 8 v8'
  · exact (((((h.sp.reveil (onlyIn_reveil ho3 fun x hx => List.mem_append_left _ hx)).more hXs).reveil (grown_reveil (v' := v8') hg hr)).more hg.size).reveil (onlyIn_reveil hset fun x hx => List.mem_append_left _ hx)).more hset.2.2.2.1
  · exact hM.kept hset (fun q hq hx => by
      rcases hr q hq with e | e
      · have := hown q e; simp at hx; omega
      · simp at hx; omega)
  · obtain ⟨i, h1, h2⟩ := h.src
    exact ⟨i, h1, ((ho.blk h2 (by simp)).grown hg (hnot g (by omega))).far (by simp; omega) _⟩
  · have oX := h.oi.trans ho3
    refine onlyIn.trans ⟨hg.os.trans oX.1, hg.tape.trans oX.2.1, hg.output.trans oX.2.2.1, Nat.le_trans oX.2.2.2.1 hg.size, fun q hq hl => (hg.block q (by have := oX.2.2.2.1; omega) (hnot q (by omega))).trans (oX.2.2.2.2 q hq hl)⟩ hset
  · exact ((ho.blk h.pool (by simp)).grown hg (hnot _ (by omega))).far (by simp; omega) _
  · obtain ⟨cs, h1, h2⟩ := h.row
    exact ⟨cs, ((ho.blk h1 (by simp)).grown hg (hnot _ (by omega))).far (by simp; omega) _, h2⟩
theorem MSt.status (h : MSt w g b sb n v c0 c1 c2 c3 c4 c6 c7 c9 c10 c11 k v5 v8 S M st wr) (hgb : g < b) (hbs : b < sb) (hsb : sb < w.heap.size) (x : Int) :
    MSt w g b sb n v c0 c1 c2 c3 c4 c6 c7 c9 c10 c11 k v5 v8 S M (st.set k x) (wr.setCell ⟨sb, k, none⟩ (.int .i64 x)) := by
  have ho : onlyIn [g, b, sb] wr (wr.setCell ⟨sb, k, none⟩ (.int .i64 x)) := onlyIn.of_grown (grown_setCell (grown_refl wr (some sb)) k _) (by simp)
  have hown := h.own
  refine ⟨h.blk.far (by simp; omega) _, (h.sp.reveil (onlyIn_reveil ho fun x hx => List.mem_append_left _ hx)).more ho.2.2.2.1, h.om.kept ho (fun q hq hx => by have := hown q hq; simp at hx; omega), ?_, h.oi.trans ho, h.pool.far (by simp; omega) _, ?_⟩
  · obtain ⟨i, h1, h2⟩ := h.src
    exact ⟨i, h1, h2.far (by simp; omega) _⟩
  · obtain ⟨cs, h1, h2⟩ := h.row
    refine ⟨_, h1.put k _, fun j y hj hy => ?_⟩
    rw [Array.getElem?_setIfInBounds]
    by_cases hjk : k = j
    · subst hjk
      rw [List.getElem?_set] at hy
      simp only [if_true] at hy
      split at hy
      · cases hy
        have := h2 k _ (Nat.le_refl _) (List.getElem?_eq_getElem (by assumption))
        have := (Array.getElem?_eq_some_iff.1 this).1
        simp [this]
      · cases hy
    · rw [if_neg hjk]
      exact h2 j y hj (by rw [List.getElem?_set_ne hjk] at hy; exact hy)
end
end Go.Proofs.YtneinkpfhkojgaaDoor
/-
  Sequences out of a list of mappings: the walk through table.copied.
-/
namespace Go.Proofs.YtneinkpfhkojgaaDoor
open Go.RowKit ND

theorem find_len {l : List Mp} {c : Int} (h : ∀ m ∈ l, m.2.length ≤ 1000) : (findL l c).length ≤ 1000 := by
  by_cases hf : findL l c = []
  · rw [hf]; simp
  · exact h _ (findL_mem hf)

set_option maxRecDepth 100000 in
set_option maxHeartbeats 400000 in
theorem copied_any (v : Value) (ys : List Int) (w : World) (hv : Ints w w.heap.size .i64 v ys) (hl : ys.length ≤ 1000) :
    Calls Tryd.prog 63 #[v] w (RetSeq w ys) := by
  obtain ⟨i0, hi, hz0, hz1, hz2⟩ := info_parts Tryd.infoInt'
  have HV := Lib.hid hv; clear hv
  go_enter Tryd.func63, Tryd.ntmps63
  go_wp2_with (at_builtin
               refine wpList_append_ints (by rfl) (.const (.slice none 0 0)) (.tmp 3) rfl Tryd.underlying22 hi hz0 hz1 hz2 w.heap.size w.heap.size (.slice none 0 0) [] v ys rfl (World.ownsRow_nil _ _ _ _) rfl HV.out (by simp; omega) (Nat.le_refl _) ?_
               intro v1 w1 hown1 hg1 hn1)
  go_ret
  exact ⟨_, rfl, Ints.of_own (by simpa using hown1), fun h => hn1 h (by trivial), (Below.refl _ _).grown hg1 (Nat.le_refl _) (by simp [Value.ownBlock])⟩
end Go.Proofs.YtneinkpfhkojgaaDoor
/-
  The walk through one sequence of table.
-/
namespace Go.Proofs.YtneinkpfhkojgaaDoor
open Go.RowKit ND

set_option maxRecDepth 100000 in
set_option maxHeartbeats 400000 in
theorem maps_any (t : Tv) (T : Tab) (c : Int) (w : World) (ht : TabR w w.heap.size t T) (hs : sortM T.maps) (hne : ∀ m ∈ T.maps, m.2 ≠ [] ∧ m.2.length ≤ 1000) (hlen : T.maps.length ≤ 256) :
    Calls Tryd.prog 47 #[t.val, .int .i64 c] w (RetSeq w (T.mapsOf c)) := by
  have HP := Lib.hid (fun W (h : Mapps W W.heap.size t.c8 T.maps) => find_any t.c8 T.maps c W h hs (fun m hm => (hne m hm).1) hlen)
  have HS := Lib.hid (find_len (c := c) (fun m hm => (hne m hm).2))
  have hr := ht.r8
  have HR := Lib.hid (fun o : Obj => hr.later ((Below.refl _ _).alloc (Nat.le_refl _) o))
  clear hr ht hs hlen hne
  by_cases hc : 65 ≤ c ∧ c ≤ 90
  · have hm : T.mapsOf c = [c + 32] := by unfold Tab.mapsOf; rw [if_pos hc]
    rw [hm]
    clear hm HP HS HR
    obtain ⟨h0, h1⟩ := hc
    have hw : c + 97 - 65 = c + 32 := by omega
    have HW := Lib.hid hw
    clear hw
    go_enter Tryd.func47, Tryd.ntmps47
    go_wp2_with fail
    go_ret
    refine ⟨_, rfl, ⟨some ⟨w.heap.size + 1, 0, none⟩, 1, rfl, Nat.le_refl _, by decide, (by intro h; cases h), fun i x hi => ⟨_, rfl, by simp, ?_⟩⟩, fun h => (by cases h), ((Below.refl _ _).alloc (Nat.le_refl _) _).alloc (by simp) _⟩
    have h := cells_new (w.alloc (.cells t.cells 26)) [.int .i64 (c + 32)] 3 i (.int .i64 x) (by
      cases i with
      | zero => simp at hi ⊢; exact hi
      | succ i => simp at hi)
    rw [show (w.alloc (.cells t.cells 26)).heap.size = w.heap.size + 1 by simp, ← HW.out] at h
    exact h
  · have hm : T.mapsOf c = findL T.maps c := by unfold Tab.mapsOf; rw [if_neg hc]
    rw [hm]
    clear hm
    have hc' : c < 65 ∨ 90 < c := by omega
    clear hc
    rcases hc' with hc | hc
    all_goals
      go_enter Tryd.func47, Tryd.ntmps47
      go_wp2_with fail
      refine (HP.out _ (HR.out _)).mono ?_
      rintro e w1 ⟨v, rfl, hv, hn, b1⟩
      go_wp2_with fail
      refine (copied_any v _ w1 hv HS.out).mono ?_
      rintro e w2 ⟨v', rfl, hv', hn', b2⟩
      go_wp2_with fail
      go_ret
      exact ⟨_, rfl, hv', hn', below_next ((Below.refl _ _).alloc (Nat.le_refl _) _) (below_next b1 b2)⟩
end Go.Proofs.YtneinkpfhkojgaaDoor
/-
  What mapping computes, and the walk through mapping.Map.
-/
namespace Go.Proofs.YtneinkpfhkojgaaDoor
open Go.RowKit ND

/-- What a code point is mapped to. -/
def mapOne (T : Tab) (c : Int) : List Int := if T.statusOf c = 1 ∨ T.statusOf c = 4 then [c] else if T.statusOf c = 3 then T.mapsOf c else []
/-- The first code point that is Disallowed. -/
def badAt (T : Tab) : Nat → List Int → Option Nat
  | _, [] => none
  | i, c :: r => if T.statusOf c = 0 then some i else badAt T (i + 1) r
def mapOut (T : Tab) (l : List Int) : List Int := l.flatMap (mapOne T)
/-- What Map hands back. -/
def mapR (T : Tab) (l : List Int) : List Int × Int × Int :=
  if accE T l ≠ 0 then ([], 0, accE T l) else match badAt T 0 l with
    | some i => ([], (i : Int), 16)
    | none => if 4096 < (mapOut T l).length then ([], 0, 7) else (mapOut T l, 0, 0)
theorem mapR_err {T : Tab} {l : List Int} (h : accE T l ≠ 0) : mapR T l = ([], 0, accE T l) := by unfold mapR; rw [if_pos h]
theorem mapR_bad {T : Tab} {l : List Int} {i : Nat} (h : accE T l = 0) (h2 : badAt T 0 l = some i) : mapR T l = ([], (i : Int), 16) := by unfold mapR; rw [if_neg (by omega), h2]
theorem mapR_full {T : Tab} {l : List Int} (h : accE T l = 0) (h2 : badAt T 0 l = none) (h3 : 4096 < (mapOut T l).length) : mapR T l = ([], 0, 7) := by unfold mapR; rw [if_neg (by omega), h2]; simp only; rw [if_pos h3]
theorem mapR_ok {T : Tab} {l : List Int} (h : accE T l = 0) (h2 : badAt T 0 l = none) (h3 : (mapOut T l).length ≤ 4096) : mapR T l = (mapOut T l, 0, 0) := by unfold mapR; rw [if_neg (by omega), h2]; simp only; rw [if_neg (by omega)]

theorem drop_at {l : List Int} {i : Nat} {c : Int} (h : l[i]? = some c) : l.drop i = c :: l.drop (i + 1) := by
  obtain ⟨h1, e⟩ := List.getElem?_eq_some_iff.1 h
  rw [List.drop_eq_getElem_cons h1, e]
theorem bad_hit {T : Tab} {l : List Int} {i : Nat} {c : Int} {R : Option Nat} (hc : l[i]? = some c) (h : badAt T i (l.drop i) = R) (h0 : T.statusOf c = 0) : R = some i := by
  rw [drop_at hc, badAt, if_pos h0] at h; exact h.symm
theorem bad_go {T : Tab} {l : List Int} {i : Nat} {c : Int} {R : Option Nat} (hc : l[i]? = some c) (h : badAt T i (l.drop i) = R) (h0 : T.statusOf c ≠ 0) : badAt T (i + 1) (l.drop (i + 1)) = R := by
  rw [drop_at hc, badAt, if_neg h0] at h; exact h
theorem bad_end {T : Tab} {l : List Int} {i : Nat} {R : Option Nat} (hi : l.length ≤ i) (h : badAt T i (l.drop i) = R) : R = none := by
  rw [List.drop_of_length_le hi, badAt] at h; exact h.symm
theorem out_step {T : Tab} {l : List Int} {i : Nat} {c : Int} (hc : l[i]? = some c) : mapOut T (l.take (i + 1)) = mapOut T (l.take i) ++ mapOne T c := by
  obtain ⟨h1, e⟩ := List.getElem?_eq_some_iff.1 hc
  unfold mapOut
  rw [List.take_succ_eq_append_getElem h1, List.flatMap_append, e]; simp
theorem mapsOf_len {T : Tab} (h : T.check = 0) (c : Int) : (T.mapsOf c).length ≤ 18 := by
  unfold Tab.mapsOf
  split
  · simp
  · by_cases h0 : findL T.maps c = []
    · rw [h0]; simp
    · have h4 := (rules_of h).2.2.2.1
      unfold Tab.rule4 at h4
      simp only [Bool.and_eq_true] at h4
      exact (toB_iff.1 (List.all_eq_true.1 h4.2.1 _ (findL_mem h0))).2.1
theorem mapOne_len {T : Tab} (h : T.check = 0) (c : Int) : (mapOne T c).length ≤ 18 := by
  unfold mapOne
  split
  · simp
  · split
    · exact mapsOf_len h c
    · simp

/-- A sequence, an index and an error come back. -/
def RetMap (w : World) (r : List Int × Int × Int) (e : Ending) (w' : World) : Prop := ∃ v, e = .returned (.tuple #[v, .int .i64 r.2.1, .int .i64 r.2.2]) ∧ w'.ownsRow w.heap.size 3 1 v r.1.length (r.1.map (Value.int .i64)) ∧ Below w.heap.size w w'

set_option maxRecDepth 100000 in
set_option maxHeartbeats 4000000 in
theorem map_any (t : Tv) (T : Tab) (v : Value) (xs : List Int) (w : World) (ht : TabR w w.heap.size t T) (hg : Glob w) (hv : Ints w w.heap.size .i64 v xs) :
    Calls Tryd.prog 23 #[t.val, v] w (RetMap w (mapR T xs)) := by
  obtain ⟨A, c, rfl, _⟩ := id hv
  have HB0 : Hid (Below w.heap.size w (w.alloc (.cells t.cells 26))) := Lib.hid ((Below.refl _ _).alloc (Nat.le_refl _) _)
  have HT : Hid (Tbl (w.alloc (.cells t.cells 26)) w.heap.size t T) := Lib.hid ⟨Blk.new _ _ _, ht.later HB0.out⟩
  have HV := Lib.hid (hv.later HB0.out)
  have HO := Lib.hid (order_any t T _ xs _ HT.out.2 (hg.later HB0.out) HV.out)
  clear hv ht hg
  by_cases h0 : accE T xs = 0
  · obtain ⟨hck, hlen, _⟩ := accE_zero h0
    have H0 := Lib.hid h0
    have HCK := Lib.hid hck
    have hsh := shape_of hck
    have hsz := sized_of hck
    have HC : Hid (∀ (b : Nat) (W : World) (x : Int), Tbl W b t T → Calls Tryd.prog 46 #[.agg #[t.c0, t.c1, t.c2, t.c3, t.c4, t.c5, t.c6, t.c7, t.c8, t.c9, t.c10, t.c11], .int .i64 x] W fun e W' => e = .returned (.int .i64 (T.statusOf x)) ∧ Below W.heap.size W W') := Lib.hid fun b W x h => status_any t T x 0 1114111 W h.2 hsh.c5.1 hsh.c5.2.1
    have HM : Hid (∀ (b : Nat) (W : World) (x : Int), Tbl W b t T → Calls Tryd.prog 47 #[.agg #[t.c0, t.c1, t.c2, t.c3, t.c4, t.c5, t.c6, t.c7, t.c8, t.c9, t.c10, t.c11], .int .i64 x] W (RetSeq W (T.mapsOf x))) := Lib.hid fun b W x h => maps_any t T x W h.2 (keysB_sort hsh.km) hsz.nm hsh.lm
    rw [h0] at HO
    clear h0 hck hsh hsz
    generalize ordL T xs = ol at *
    go_enter Tryd.func23, Tryd.ntmps23
    go_upto_region 1 with fail
    generalize w.alloc (.cells t.cells 26) = w1 at *
    obtain ⟨x0, x1, x2, x3, x4, x5, x6, x7, x8, x9, x10, x11⟩ := HT.out.1.tab
    go_upto_region 2 with (go_at_call 19; refine HO.out.mono ?_; rintro e w2 ⟨u2, rfl, ho2, b2⟩; obtain ⟨A2, c2, rfl, _⟩ := id (Ints.of_own ho2); clear ho2)
    clear x0 x1 x2 x3 x4 x5 x6 x7 x8 x9 x10 x11
    obtain ⟨tb, htb⟩ : ∃ tb, w.heap.size = tb := ⟨_, rfl⟩
    have HT2 : Hid (Tbl w2 tb t T) := Lib.hid (htb ▸ HT.out.later b2)
    have HV2 := Lib.hid (HV.out.later b2)
    have HB2 := Lib.hid (below_next HB0.out b2)
    simp only [htb]
    clear HT HV HB0 HO b2
    obtain ⟨i0, hi, hz0, hz1, hz2⟩ := info_parts Tryd.infoInt'
    go_wp2_with fail
    go_loopw [23, 9] (fun s23 s9 wr => ∃ (k : Nat) (acc : List Int) (A9 : Option Addr) (c9 : Nat), k ≤ xs.length ∧ s23 = .int .i64 k ∧ s9 = .slice A9 acc.length c9 ∧ acc.length ≤ 18 * k ∧ Hid (acc = mapOut T (xs.take k) ∧ badAt T k (xs.drop k) = badAt T 0 xs) ∧ Hid (wr.ownsRow w2.heap.size 3 1 (.slice A9 acc.length c9) acc.length (acc.map (Value.int .i64))) ∧ Hid (Below w2.heap.size w2 wr)) (fun i _ _ => xs.length - (intOf i).toNat)
    case atStart => exact ⟨0, [], none, 0, by omega, rfl, rfl, by simp, Lib.hid ⟨rfl, rfl⟩, Lib.hid (World.ownsRow_nil _ _ _ _), Lib.hid (Below.refl _ _)⟩
    case round =>
      obtain ⟨k, acc, A9, c9, hk, rfl, rfl, hal, HS, HOr, HBr⟩ := hrel
      by_cases hlt : k < xs.length
      · obtain ⟨x, hxk, _⟩ := get_of hlt
        obtain ⟨_, _, hve, _, _, _, hcell⟩ := HV2.out
        cases hve
        obtain ⟨ad, rfl, ha, hce⟩ := hcell k x hxk
        have e1 := (HBr.out.cell (p := ad.add k) (by rw [block_of_add]; exact ha)).trans hce
        have HX := Lib.hid hxk
        have k0 : (0 : Int) ≤ (k : Int) := by omega
        have k1 : (k : Int) < (xs.length : Int) := by omega
        have HTr := Lib.hid (HT2.out.later HBr.out)
        obtain ⟨x0, x1, x2, x3, x4, x5, x6, x7, x8, x9, x10, x11⟩ := HTr.out.1.tab
        have HCx := Lib.hid (HC.out tb wr x HTr.out)
        have HOS := Lib.hid (out_step (T := T) HX.out)
        clear hcell hxk ha hce
        obtain ⟨st, hst⟩ : ∃ st, T.statusOf x = st := ⟨_, rfl⟩
        rw [hst] at HCx
        by_cases s1 : st = 1
        · subst s1
          have HN : Hid (acc ++ [x] = mapOut T (xs.take (k + 1)) ∧ badAt T (k + 1) (xs.drop (k + 1)) = badAt T 0 xs) := Lib.hid ⟨by rw [HOS.out, ← HS.out.1]; unfold mapOne; rw [if_pos (.inl hst)], bad_go HX.out HS.out.2 (by omega)⟩
          clear hst
          go_upto_region 11 with (go_at_call 46; refine HCx.out.mono ?_; rintro e w5 ⟨rfl, b5⟩)
          have HO5 := Lib.hid (own_later HOr.out b5)
          have HB5 := Lib.hid (below_then HBr.out (Nat.le_refl _) b5)
          clear x0 x1 x2 x3 x4 x5 x6 x7 x8 x9 x10 x11 e1 HCx HTr HOr HBr b5 HS HX HOS
          go_wp2_with (at_builtin; refine wpList_append_ints (by rfl) (.tmp 34) (.tmp 36) rfl Tryd.underlying22 hi hz0 hz1 hz2 (w5.heap.size + 1) w2.heap.size (.slice A9 acc.length c9) acc (.slice (some ⟨w5.heap.size, 0, none⟩) 1 1) [x] rfl (HO5.out.alloc _) rfl (by have h := Ints.of_own (own_new w5 3 [x] (by simp)); simpa using h) (by simp; omega) (by have := HB5.out.size; simp; omega) ?_; intro v6 w6 ho6 hg6 _; obtain ⟨A6, c6, rfl, _⟩ := id (Ints.of_own ho6); have HO6 := Lib.hid ho6; have HB6 := Lib.hid ((HB5.out.alloc HB5.out.size (.cells #[.int .i64 x] 3)).grown hg6 (by have := HB5.out.size; simp; omega) (fun q hq => (HO5.out.lt q hq).1)); clear ho6 hg6)
          go_roundw
          case rel => exact ⟨k + 1, acc ++ [x], A6, c6, by omega, by go_num, by simp, by simp; omega, HN, HO6, HB6⟩
          case measure => simp [intOf]; omega
        by_cases s4 : st = 4
        · subst s4
          have HN : Hid (acc ++ [x] = mapOut T (xs.take (k + 1)) ∧ badAt T (k + 1) (xs.drop (k + 1)) = badAt T 0 xs) := Lib.hid ⟨by rw [HOS.out, ← HS.out.1]; unfold mapOne; rw [if_pos (.inr hst)], bad_go HX.out HS.out.2 (by omega)⟩
          clear hst
          go_upto_region 11 with (go_at_call 46; refine HCx.out.mono ?_; rintro e w5 ⟨rfl, b5⟩)
          have HO5 := Lib.hid (own_later HOr.out b5)
          have HB5 := Lib.hid (below_then HBr.out (Nat.le_refl _) b5)
          clear x0 x1 x2 x3 x4 x5 x6 x7 x8 x9 x10 x11 e1 HCx HTr HOr HBr b5 HS HX HOS
          go_wp2_with (at_builtin; refine wpList_append_ints (by rfl) (.tmp 34) (.tmp 36) rfl Tryd.underlying22 hi hz0 hz1 hz2 (w5.heap.size + 1) w2.heap.size (.slice A9 acc.length c9) acc (.slice (some ⟨w5.heap.size, 0, none⟩) 1 1) [x] rfl (HO5.out.alloc _) rfl (by have h := Ints.of_own (own_new w5 3 [x] (by simp)); simpa using h) (by simp; omega) (by have := HB5.out.size; simp; omega) ?_; intro v6 w6 ho6 hg6 _; obtain ⟨A6, c6, rfl, _⟩ := id (Ints.of_own ho6); have HO6 := Lib.hid ho6; have HB6 := Lib.hid ((HB5.out.alloc HB5.out.size (.cells #[.int .i64 x] 3)).grown hg6 (by have := HB5.out.size; simp; omega) (fun q hq => (HO5.out.lt q hq).1)); clear ho6 hg6)
          go_roundw
          case rel => exact ⟨k + 1, acc ++ [x], A6, c6, by omega, by go_num, by simp, by simp; omega, HN, HO6, HB6⟩
          case measure => simp [intOf]; omega
        by_cases s3 : st = 3
        · subst s3
          have HN : Hid (acc ++ T.mapsOf x = mapOut T (xs.take (k + 1)) ∧ badAt T (k + 1) (xs.drop (k + 1)) = badAt T 0 xs) := Lib.hid ⟨by rw [HOS.out, ← HS.out.1]; unfold mapOne; rw [if_neg (by omega), if_pos hst], bad_go HX.out HS.out.2 (by omega)⟩
          have hml := mapsOf_len HCK.out x
          have HMx := Lib.hid (fun W (h : Below wr.heap.size wr W) => HM.out tb W x (HTr.out.later h))
          clear hst HX
          generalize T.mapsOf x = ml at *
          go_upto_region 13 with (go_at_call 46; refine HCx.out.mono ?_; rintro e w5 ⟨rfl, b5⟩)
          have HO5 := Lib.hid (own_later HOr.out b5)
          have HB5 := Lib.hid (below_then HBr.out (Nat.le_refl _) b5)
          clear x0 x1 x2 x3 x4 x5 x6 x7 x8 x9 x10 x11 e1 HCx HOr HOS
          obtain ⟨x0, x1, x2, x3, x4, x5, x6, x7, x8, x9, x10, x11⟩ := (HTr.out.later b5).1.tab
          go_wp2_with (first
            | (go_at_call 47; refine (HMx.out _ b5).mono ?_; rintro e w7 ⟨u7, rfl, hi7, _, b7⟩; obtain ⟨A7, c7, rfl, _⟩ := id hi7; have HI7 := Lib.hid hi7; have HO7 := Lib.hid (own_later HO5.out b7); have HB7 := Lib.hid (below_then HB5.out (Nat.le_refl _) b7); clear hi7 b7)
            | (at_builtin; refine wpList_append_ints (by rfl) (.tmp 40) (.tmp 43) rfl Tryd.underlying22 hi hz0 hz1 hz2 w7.heap.size w2.heap.size (.slice A9 acc.length c9) acc (.slice A7 ml.length c7) ml rfl HO7.out rfl HI7.out (by omega) HB7.out.size ?_; intro v6 w6 ho6 hg6 _; obtain ⟨A6, c6, rfl, _⟩ := id (Ints.of_own ho6); have HO6 := Lib.hid ho6; have HB6 := Lib.hid (HB7.out.grown hg6 HB7.out.size (fun q hq => (HO7.out.lt q hq).1)); clear ho6 hg6))
          go_roundw
          case rel => exact ⟨k + 1, acc ++ ml, A6, c6, by omega, by go_num, by simp, by simp; omega, HN, HO6, HB6⟩
          case measure => simp [intOf]; omega
        by_cases s0 : st = 0
        · subst s0
          have HR : Hid (mapR T xs = ([], (k : Int), 16)) := Lib.hid (mapR_bad H0.out (bad_hit HX.out HS.out.2 hst))
          clear hst
          go_wp2_with (go_at_call 46; refine HCx.out.mono ?_; rintro e w5 ⟨rfl, b5⟩)
          go_ret3
          rw [HR.out]
          exact ⟨_, rfl, World.ownsRow_nil _ _ _ _, below_next HB2.out (below_then HBr.out (Nat.le_refl _) b5)⟩
        · have g1 : (st == 1) = false := by simpa using s1
          have g4 : (st == 4) = false := by simpa using s4
          have g3 : (st == 3) = false := by simpa using s3
          have g0 : (st == 0) = false := by simpa using s0
          have HN : Hid (acc = mapOut T (xs.take (k + 1)) ∧ badAt T (k + 1) (xs.drop (k + 1)) = badAt T 0 xs) := Lib.hid ⟨by rw [HOS.out, ← HS.out.1]; unfold mapOne; rw [if_neg (by omega), if_neg (by omega)]; simp, bad_go HX.out HS.out.2 (by omega)⟩
          clear hst s1 s4 s3 s0
          go_wp2_with (go_at_call 46; refine HCx.out.mono ?_; rintro e w5 ⟨rfl, b5⟩)
          go_roundw
          case rel => exact ⟨k + 1, acc, A9, c9, by omega, by go_num, rfl, by omega, HN, Lib.hid (own_later HOr.out b5), Lib.hid (below_then HBr.out (Nat.le_refl _) b5)⟩
          case measure => simp [intOf]; omega
      · have HE := Lib.hid (bad_end (by omega) HS.out.2)
        have HA : Hid (acc = mapOut T xs) := Lib.hid (by have := HS.out.1; rwa [List.take_of_length_le (by omega)] at this)
        by_cases hfl : 4096 < acc.length
        · have HR : Hid (mapR T xs = ([], 0, 7)) := Lib.hid (mapR_full H0.out HE.out (by rw [← HA.out]; exact hfl))
          have g : (4096 : Int) < (acc.length : Int) := by omega
          clear hfl
          go_wp2_with fail
          go_ret3
          rw [HR.out]
          exact ⟨_, rfl, World.ownsRow_nil _ _ _ _, below_next HB2.out HBr.out⟩
        · have HR : Hid (mapR T xs = (acc, 0, 0)) := Lib.hid (by rw [mapR_ok H0.out HE.out (by rw [← HA.out]; omega), HA.out])
          have g : ¬ (4096 : Int) < (acc.length : Int) := by omega
          clear hfl
          go_wp2_with fail
          go_ret3
          rw [HR.out]
          exact ⟨_, rfl, row_le HOr.out HB2.out.size, below_next HB2.out HBr.out⟩
  · have HR := Lib.hid (mapR_err h0)
    have hb : (accE T xs != 0) = true := by simpa using h0
    clear h0
    go_enter Tryd.func23, Tryd.ntmps23
    go_upto_region 1 with fail
    generalize w.alloc (.cells t.cells 26) = w1 at *
    obtain ⟨x0, x1, x2, x3, x4, x5, x6, x7, x8, x9, x10, x11⟩ := HT.out.1.tab
    go_wp2_with (go_at_call 19; refine HO.out.mono ?_; rintro e w2 ⟨u2, rfl, ho2, b2⟩; obtain ⟨A2, c2, rfl, _⟩ := id (Ints.of_own ho2); clear ho2)
    go_ret3
    rw [HR.out]
    exact ⟨_, rfl, World.ownsRow_nil _ _ _ _, below_next HB0.out b2⟩
end Go.Proofs.YtneinkpfhkojgaaDoor
/-
  Laws of mapping, in plain Lean: one by one, and once for all.
-/
namespace Go.Proofs.YtneinkpfhkojgaaDoor
open Go.RowKit ND

theorem badAt_none {T : Tab} : ∀ (l : List Int) (i : Nat), badAt T i l = none ↔ ∀ c ∈ l, T.statusOf c ≠ 0 := by
  intro l
  induction l with
  | nil => intro i; simp [badAt]
  | cons c r ih =>
    intro i
    rw [badAt]
    by_cases h : T.statusOf c = 0
    · rw [if_pos h]; simp [h]
    · rw [if_neg h, ih]; simp [h]
theorem badAt_shift {T : Tab} : ∀ (l : List Int) (i : Nat), badAt T i l = (badAt T 0 l).map (· + i) := by
  intro l
  induction l with
  | nil => intro i; rfl
  | cons c r ih =>
    intro i
    rw [badAt, badAt]
    by_cases h : T.statusOf c = 0
    · rw [if_pos h, if_pos h]; simp
    · rw [if_neg h, if_neg h, ih (i + 1), ih (0 + 1), Option.map_map]
      congr 1
      funext x; simp only [Function.comp]; omega
theorem badAt_at {T : Tab} : ∀ (l : List Int) (i k : Nat), badAt T i l = some k → i ≤ k ∧ ∃ c, l[k - i]? = some c ∧ T.statusOf c = 0 ∧ ∀ j d, j < k - i → l[j]? = some d → T.statusOf d ≠ 0 := by
  intro l
  induction l with
  | nil => intro i k h; cases h
  | cons c r ih =>
    intro i k h
    rw [badAt] at h
    by_cases h0 : T.statusOf c = 0
    · rw [if_pos h0] at h; cases h
      exact ⟨Nat.le_refl _, c, by simp, h0, fun j d hj => by omega⟩
    · rw [if_neg h0] at h
      obtain ⟨h1, d, h2, h3, h4⟩ := ih (i + 1) k h
      refine ⟨by omega, d, ?_, h3, fun j e hj he => ?_⟩
      · rw [show k - i = k - (i + 1) + 1 by omega]; simpa using h2
      · cases j with
        | zero => simp at he; subst he; exact h0
        | succ j => exact h4 j e (by omega) (by simpa using he)
theorem badAt_app {T : Tab} (a b : List Int) : badAt T 0 (a ++ b) = match badAt T 0 a with | some k => some k | none => (badAt T 0 b).map (· + a.length) := by
  have key : ∀ (a : List Int) (i : Nat), badAt T i (a ++ b) = match badAt T i a with | some k => some k | none => badAt T (i + a.length) b := by
    intro a
    induction a with
    | nil => intro i; rfl
    | cons c r ih =>
      intro i
      rw [List.cons_append, badAt, badAt]
      by_cases h : T.statusOf c = 0
      · rw [if_pos h, if_pos h]
      · rw [if_neg h, if_neg h, ih, List.length_cons, show i + 1 + r.length = i + (r.length + 1) by omega]
  rw [key a 0]
  cases badAt T 0 a with
  | some k => rfl
  | none => simp only; rw [badAt_shift b (0 + a.length)]; simp
theorem mapOut_app {T : Tab} (a b : List Int) : mapOut T (a ++ b) = mapOut T a ++ mapOut T b := by unfold mapOut; rw [List.flatMap_append]
theorem mapOut_len {T : Tab} (h : T.check = 0) : ∀ l : List Int, (mapOut T l).length ≤ 18 * l.length := by
  intro l
  induction l with
  | nil => simp [mapOut]
  | cons c r ih =>
    have := mapOne_len h c
    unfold mapOut at ih ⊢
    rw [List.flatMap_cons, List.length_append, List.length_cons]; omega
end Go.Proofs.YtneinkpfhkojgaaDoor
/-
  A region that draws its order, walked by what holds of each slot: one obligation for each operation serves every order.
-/
namespace Go.Proofs.YtneinkpfhkojgaaDoor
open Go.RowKit

/-- How many operations are still to come. -/
def unl (n : Nat) (listed : Array Bool) : Nat := (List.range n).countP fun i => !listed.getD i true
theorem countP_one {l : List Nat} {p q : Nat → Bool} {i : Nat} (hnd : l.Nodup) (hi : i ∈ l) (hp : p i = true) (hq : q i = false) (he : ∀ j, j ≠ i → q j = p j) : l.countP q + 1 = l.countP p := by
  induction l with
  | nil => cases hi
  | cons a r ih =>
    rw [List.nodup_cons] at hnd
    rw [List.countP_cons, List.countP_cons]
    by_cases h : a = i
    · subst h
      rw [hp, hq]
      have : r.countP q = r.countP p := List.countP_congr fun j hj => by
        have hne : j ≠ a := fun e => hnd.1 (e ▸ hj)
        rw [he j hne]
      simp [this]
    · have hi' : i ∈ r := by
        rcases List.mem_cons.1 hi with e | e
        · exact absurd e.symm h
        · exact e
      have := ih hnd.2 hi'
      rw [he a h]
      omega
theorem unl_set {n i : Nat} {listed : Array Bool} (hi : i < n) (hs : i < listed.size) (hu : listed.getD i true = false) : unl n (listed.setIfInBounds i true) + 1 = unl n listed := by
  unfold unl
  refine countP_one List.nodup_range (List.mem_range.2 hi) (by rw [hu]; rfl) ?_ fun j hj => ?_
  · simp [Array.getD_eq_getD_getElem?, hs]
  · simp [Array.getD_eq_getD_getElem?, Ne.symm hj]

/-- What holds in the midst of the region. -/
structure InvS (ops : Array Oper) (F : Act → Prop) (C : World → Prop) (R : Nat → Value → World → Prop) (listed : Array Bool) (a : Act) (w : World) : Prop where
  size : listed.size = ops.size
  c : C w
  f : F a
  r : ∀ (i : Nat) (o : Oper) (d : Tmp), ops[i]? = some o → listed.getD i false = true → o.dst = some d → ∃ v, a.tmps[d]? = some v ∧ R i v w

/-- What an operation may lean on. -/
def Deps (md : Region.Mode) (ops : Array Oper) (R : Nat → Value → World → Prop) (o : Oper) (a : Act) (w : World) : Prop :=
  ∀ e ∈ o.after, Region.binds md e = true → ∀ (oe : Oper) (d : Tmp), ops[e.on]? = some oe → oe.dst = some d → ∃ v, a.tmps[d]? = some v ∧ R e.on v w

theorem ready_spec {md : Region.Mode} {ops : Array Oper} {listed : Array Bool} {i : Nat} (h : i ∈ Region.ready md ops listed) : i < ops.size ∧ listed.getD i true = false ∧ ∃ o, ops[i]? = some o ∧ ∀ e ∈ o.after, Region.binds md e = true → listed.getD e.on false = true := by
  unfold Region.ready at h
  obtain ⟨h1, h2⟩ := List.mem_filter.1 h
  have h1 := List.mem_range.1 h1
  rw [Bool.and_eq_true] at h2
  refine ⟨h1, by simpa using h2.1, ops[i], Array.getElem?_eq_getElem h1, fun e he hb => ?_⟩
  have h3 := h2.2
  rw [Array.getElem?_eq_getElem h1] at h3
  simp only [Option.map_some, Option.getD_some, Array.all_eq_true'] at h3
  have h4 := h3 e he
  rw [hb] at h4
  simpa using h4

/-- All operations are listed, if none may come up. -/
theorem ready_nil {md : Region.Mode} {ops : Array Oper} {listed : Array Bool} (hs : listed.size = ops.size) (hlow : ∀ (i : Nat) (o : Oper), ops[i]? = some o → ∀ e ∈ o.after, Region.binds md e = true → e.on < i) (h : Region.ready md ops listed = []) : ∀ i, i < ops.size → listed.getD i false = true := by
  intro i
  induction i using Nat.strongRecOn with
  | ind i ih =>
    intro hi
    cases hl : listed.getD i false with
    | true => rfl
    | false =>
      have hm : i ∈ Region.ready md ops listed := by
        unfold Region.ready
        refine List.mem_filter.2 ⟨List.mem_range.2 hi, ?_⟩
        rw [Bool.and_eq_true]
        refine ⟨?_, ?_⟩
        · have : listed.getD i true = false := by
            rw [Array.getD_eq_getD_getElem?, Array.getElem?_eq_getElem (by omega)] at hl ⊢
            simpa using hl
          rw [this]; rfl
        · rw [Array.getElem?_eq_getElem hi]
          simp only [Option.map_some, Option.getD_some, Array.all_eq_true']
          intro e he
          cases hb : Region.binds md e with
          | false => rfl
          | true =>
            have := hlow i _ (Array.getElem?_eq_getElem hi) e he hb
            simp [ih e.on this (by omega)]
      rw [h] at hm; cases hm

theorem wpAny_inv {P : Program} {md : Region.Mode} {ops : Array Oper} {Q : Exit → Act → World → Prop} {F : Act → Prop} {C : World → Prop} {R : Nat → Value → World → Prop}
    (hlow : ∀ (i : Nat) (o : Oper), ops[i]? = some o → ∀ e ∈ o.after, Region.binds md e = true → e.on < i)
    (hdst : ∀ (i j : Nat) (o o' : Oper) (d : Tmp), ops[i]? = some o → ops[j]? = some o' → i ≠ j → o.dst = some d → o'.dst ≠ some d)
    (hF : ∀ (i : Nat) (o : Oper) (a : Act) (v : Value), ops[i]? = some o → F a → F (a.put o.dst v))
    (hput : ∀ (i : Nat) (o : Oper) (d : Tmp) (a : Act), ops[i]? = some o → o.dst = some d → F a → d < a.tmps.size)
    (hst : ∀ i v w w', R i v w → Below w.heap.size w w' → R i v w')
    (hob : ∀ (i : Nat) (o : Oper), ops[i]? = some o → ∀ a w, C w → F a → Deps md ops R o a w → ∀ K : Act → World → Prop, (∀ v w', (∀ d, o.dst = some d → R i v w') → C w' → Below w.heap.size w w' → K (a.put o.dst v) w') →
      if Region.wanted o (yielded ops a.tmps) = true then o.wp P a w K Q else K (a.put o.dst undef) w)
    (hend : ∀ a w, C w → F a → (∀ (i : Nat) (o : Oper) (d : Tmp), ops[i]? = some o → o.dst = some d → ∃ v, a.tmps[d]? = some v ∧ R i v w) → Q .normal a w) :
    ∀ (fuel : Nat) (listed : Array Bool) (a : Act) (w : World), InvS ops F C R listed a w → unl ops.size listed ≤ fuel → wpAny P md ops Q fuel listed a w := by
  have fin : ∀ listed a w, InvS ops F C R listed a w → Region.ready md ops listed = [] → Q .normal a w := fun listed a w h hr =>
    hend a w h.c h.f fun i o d ho hd => h.r i o d ho (ready_nil h.size hlow hr i (Array.getElem?_eq_some_iff.1 ho).1) hd
  intro fuel
  induction fuel with
  | zero =>
    intro listed a w h hu
    have hr : Region.ready md ops listed = [] := by
      refine List.eq_nil_iff_forall_not_mem.2 fun i hi => ?_
      obtain ⟨h1, h2, _⟩ := ready_spec hi
      have := unl_set h1 (by rw [h.size]; exact h1) h2
      omega
    exact ⟨hr, fin _ _ _ h hr⟩
  | succ fuel ih =>
    intro listed a w h hu
    refine ⟨fin _ _ _ h, fun i hi => ?_⟩
    obtain ⟨h1, h2, o, ho, hdep⟩ := ready_spec hi
    have hsz := unl_set h1 (by rw [h.size]; exact h1) h2
    have hd : Deps md ops R o a w := fun e he hb oe d hoe hd => h.r e.on oe d hoe (hdep e he hb) hd
    have key : ∀ v w', (∀ d, o.dst = some d → R i v w') → C w' → Below w.heap.size w w' → wpAny P md ops Q fuel (listed.setIfInBounds i true) (a.put o.dst v) w' := fun v w' hv hc hb => by
      refine ih _ _ _ ⟨by simpa using h.size, hc, hF i o a v ho h.f, fun j oj d hj hlj hdj => ?_⟩ (by omega)
      by_cases hji : j = i
      · subst hji
        rw [ho] at hj; cases hj
        refine ⟨v, ?_, hv d hdj⟩
        rw [hdj]
        simp [Act.put, hput j o d a ho hdj h.f]
      · have hlj' : listed.getD j false = true := by
          rw [Array.getD_eq_getD_getElem?, Array.getElem?_setIfInBounds, if_neg (Ne.symm hji)] at hlj
          rw [Array.getD_eq_getD_getElem?]; exact hlj
        obtain ⟨u, hu1, hu2⟩ := h.r j oj d hj hlj' hdj
        refine ⟨u, ?_, hst j u w w' hu2 hb⟩
        cases hod : o.dst with
        | none => exact hu1
        | some d' =>
          have hne : d' ≠ d := fun e => hdst j i oj o d hj ho hji hdj (by rw [hod, e])
          simp [Act.put, hne, hu1]
    have h3 := hob i o ho a w h.c h.f hd (fun a' w' => wpAny P md ops Q fuel (listed.setIfInBounds i true) a' w') key
    unfold wpOp
    rw [ho]
    simp only
    split
    · rename_i hw; rw [if_pos hw] at h3; exact .inl h3
    · rename_i hw; rw [if_neg hw] at h3; exact h3
end Go.Proofs.YtneinkpfhkojgaaDoor
/-
  The obligations of single operations: moves, loads of tables, calls, comparisons, picks.
-/
namespace Go.Proofs.YtneinkpfhkojgaaDoor
open Go.RowKit ND

section
variable {P : Program} {o : Oper} {a : Act} {w : World} {K : Act → World → Prop} {Q : Exit → Act → World → Prop}
theorem ob_move {x : Operand} {v : Value} (ho : o.op = .move x) (hv : a.eval x = v) (h : K (a.put o.dst v) w) : o.wp P a w K Q := by
  unfold Oper.wp execOp
  rw [ho]
  simp only [hv]
  exact h
theorem ob_assign {x : Operand} {v : Value} (ho : o.op = .assign x) (hv : a.eval x = v) (h : K (a.put o.dst v) w) : o.wp P a w K Q := by
  unfold Oper.wp execOp
  rw [ho]
  simp only [hv]
  exact h
theorem ob_pick {c x y : Operand} {b : Bool} {v : Value} (ho : o.op = .pick c x y) (hc : a.eval c = .bool b) (hx : a.eval (if b then x else y) = v) (h : K (a.put o.dst v) w) : o.wp P a w K Q := by
  unfold Oper.wp execOp
  rw [ho]
  subst hx
  cases b <;> simpa [hc, asBool, Oper.upon] using h
theorem ob_not {t : TypeId} {x : Operand} {b : Bool} (ho : o.op = .unOp .not t x) (hx : a.eval x = .bool b) (h : K (a.put o.dst (.bool (!b))) w) : o.wp P a w K Q := by
  unfold Oper.wp execOp
  rw [ho]
  simpa [hx, Op.unary, Oper.upon] using h
theorem ob_enter {f : FuncId} {vs : Array Value} {post : Ending → World → Prop} (hr : (execOp a.eval o).run P w = .ok (.enter f vs) w) (hc : Calls P f vs w post) (h : ∀ e w', post e w' → ∃ v, e = .returned v ∧ K (a.put o.dst v) w') : o.wp P a w K Q := by
  unfold Oper.wp
  rw [hr]
  refine Calls.mono hc fun e w' hp => ?_
  obtain ⟨v, rfl, hk⟩ := h e w' hp
  exact hk
theorem ob_value {v : Value} (hr : (execOp a.eval o).run P w = .ok (.value v) w) (h : K (a.put o.dst v) w) : o.wp P a w K Q := by
  unfold Oper.wp
  rw [hr]
  exact h
theorem wanted_none (ops : Array Oper) (hg : o.guard = none) : Region.wanted o (yielded ops a.tmps) = true := by simp [Region.wanted, hg]
theorem wanted_some (ops : Array Oper) {g : Nat} {b : Bool} {og : Oper} {d : Tmp} (hg : o.guard = some (g, b)) (ho : ops[g]? = some og) (hd : og.dst = some d) (hv : a.tmps[d]? = some (.bool b)) : Region.wanted o (yielded ops a.tmps) = true := by
  simp [Region.wanted, hg, yielded, ho, hd, hv]
end
theorem eval_tmp {a : Act} {d : Tmp} {v : Value} (h : a.tmps[d]? = some v) : a.eval (.tmp d) = v := by
  simp [Act.eval, h]
/-- Tables out of a variable. -/
theorem load_tab {W : World} {b : Nat} {t : Tv} {T : Tab} (h : Tbl W b t T) {a : Act} {o : Oper} {x : Operand} (ho : o.op = .load 26 x) (hx : a.eval x = .pointer (some ⟨b, 0, none⟩)) : (execOp a.eval o).run Tryd.prog W = .ok (.value t.val) W := by
  obtain ⟨x0, x1, x2, x3, x4, x5, x6, x7, x8, x9, x10, x11⟩ := h.1.tab
  unfold execOp
  rw [ho]
  simp only [hx]
  go_simp
theorem eql_int {W : World} {a : Act} {o : Oper} {x y : Operand} {n m : Int} (ho : o.op = .binOp .eql 3 x y 3) (hx : a.eval x = .int .i64 n) (hy : a.eval y = .int .i64 m) : (execOp a.eval o).run Tryd.prog W = .ok (.value (.bool (n == m))) W := by
  unfold execOp
  rw [ho]
  simp only [hx, hy]
  go_simp
theorem eql_bool {W : World} {a : Act} {o : Oper} {x y : Operand} {n m : Bool} (ho : o.op = .binOp .eql 4 x y 4) (hx : a.eval x = .bool n) (hy : a.eval y = .bool m) : (execOp a.eval o).run Tryd.prog W = .ok (.value (.bool (n == m))) W := by
  unfold execOp
  rw [ho]
  simp only [hx, hy]
  go_simp
end Go.Proofs.YtneinkpfhkojgaaDoor
/-
  A drawn region by what holds of each slot, as the programs' regions are given: checks by the kernel, the obligations one by one.
-/
namespace Go.Proofs.YtneinkpfhkojgaaDoor
open Go.RowKit ND

/-- The operations of a region, read off a function's text. -/
def findR : Code → Nat → Option (Array Oper)
  | .region n ops _, k => if n = k then some ops else none
  | .seq a b, k => (findR a k).or (findR b k)
  | .cond _ a b, k => (findR a k).or (findR b k)
  | .block _ a, k => findR a k
  | .loop a, k => findR a k
  | .scope a, k => findR a k
  | _, _ => none
def opsAt (f : Func) (k : Nat) : Array Oper := (f.body.bind (findR · k)).getD #[]
theorem wp_region_as {P : Program} {id : Nat} {L ops : Array Oper} {b : Bool} {Q : Exit → Act → World → Prop} {a : Act} {w : World} (h : L = ops) (hw : (Code.region id ops b).wp P Q a w) : (Code.region id L b).wp P Q a w := by
  subst h; exact hw

/-- What is said of a slot: its value, or the list that it reads as. -/
inductive SpecV where
  | val (v : Value)
  | seq (l : List Int)
def SpecV.ok : SpecV → Value → World → Prop
  | .val u, v, _ => v = u
  | .seq l, v, w => Ints w w.heap.size .i64 v l
def RS (specs : List SpecV) (i : Nat) (v : Value) (w : World) : Prop := ∀ s, specs[i]? = some s → s.ok v w
theorem RS.later {specs : List SpecV} {i : Nat} {v : Value} {w w' : World} (h : RS specs i v w) (hb : Below w.heap.size w w') : RS specs i v w' := fun s hs => by
  have h1 := h s hs
  cases s with
  | val u => exact h1
  | seq l => exact Ints.later h1 hb

def FS (n : Nat) (ds : List Deferred) (fixed : List (Tmp × Value)) (a : Act) : Prop := a.tmps.size = n ∧ a.defers = ds ∧ ∀ p ∈ fixed, a.tmps[p.1]? = some p.2

def nodupB : List (Option Tmp) → Bool
  | [] => true
  | a :: r => r.all (fun b => a != b || a == none) && nodupB r
def lowB : Nat → List Oper → Bool
  | _, [] => true
  | k, o :: r => o.after.all (fun e => decide (e.on < k)) && lowB (k + 1) r
def checksB (ops : Array Oper) (n : Nat) (fx : List Tmp) : Bool :=
  lowB 0 ops.toList && nodupB (ops.toList.map (·.dst)) && ops.toList.all fun o => match o.dst with | some d => decide (d < n) && !fx.contains d | none => true

theorem nodupB_at : ∀ {l : List (Option Tmp)} {i j : Nat} {d : Tmp}, nodupB l = true → i < j → l[i]? = some (some d) → l[j]? ≠ some (some d) := by
  intro l
  induction l with
  | nil => intro i j d _ _ h; simp at h
  | cons a r ih =>
    intro i j d h hij hi hj
    rw [nodupB, Bool.and_eq_true, List.all_eq_true] at h
    obtain ⟨k, rfl⟩ : ∃ k, j = k + 1 := ⟨j - 1, by omega⟩
    rw [List.getElem?_cons_succ] at hj
    cases i with
    | zero =>
      simp only [List.getElem?_cons_zero, Option.some.injEq] at hi
      subst hi
      have := h.1 _ (List.mem_of_getElem? hj)
      simp at this
    | succ i =>
      rw [List.getElem?_cons_succ] at hi
      exact ih h.2 (by omega) hi hj
theorem lowB_at : ∀ {l : List Oper} {k i : Nat} {o : Oper}, lowB k l = true → l[i]? = some o → ∀ e ∈ o.after, e.on < k + i := by
  intro l
  induction l with
  | nil => intro k i o _ h; simp at h
  | cons a r ih =>
    intro k i o h hi e he
    rw [lowB, Bool.and_eq_true] at h
    cases i with
    | zero =>
      simp only [List.getElem?_cons_zero, Option.some.injEq] at hi
      subst hi
      have := Array.all_eq_true'.1 h.1 e he
      simpa using this
    | succ i =>
      rw [List.getElem?_cons_succ] at hi
      have := ih h.2 hi e he
      omega

/-- The obligation of one operation. -/
def Ob (P : Program) (ops : Array Oper) (n : Nat) (ds : List Deferred) (fixed : List (Tmp × Value)) (C : World → Prop) (specs : List SpecV) (Q : Exit → Act → World → Prop) (i : Nat) (o : Oper) : Prop :=
  ∀ a w, C w → FS n ds fixed a → Deps .any ops (RS specs) o a w → ∀ K : Act → World → Prop, (∀ v w', RS specs i v w' → C w' → Below w.heap.size w w' → K (a.put o.dst v) w') →
    if Region.wanted o (yielded ops a.tmps) = true then o.wp P a w K Q else K (a.put o.dst undef) w

theorem get_op {β : Type} (f : Oper → β) {ops : Array Oper} {k : Nat} {o : Oper} {x : β} (ho : ops[k]? = some o) (h : (ops[k]?).map f = some x) : f o = x := by
  rw [ho] at h; exact Option.some.inj h
theorem dep_of {ops : Array Oper} {specs : List SpecV} {k : Nat} {o : Oper} {a : Act} {w : World} (ho : ops[k]? = some o) (hd : Deps .any ops (RS specs) o a w) (j : Nat) (d : Tmp) (s : SpecV)
    (h1 : ((ops[k]?).map fun o => o.after.any fun e => Region.binds .any e && e.on == j) = some true) (h2 : ((ops[j]?).map (·.dst)) = some (some d)) (h3 : specs[j]? = some s) : ∃ v, a.tmps[d]? = some v ∧ s.ok v w := by
  have h4 := get_op (fun o => o.after.any fun e => Region.binds .any e && e.on == j) ho h1
  obtain ⟨e, he, hb⟩ := Array.any_eq_true'.1 h4
  rw [Bool.and_eq_true, beq_iff_eq] at hb
  cases hj : ops[j]? with
  | none => rw [hj] at h2; cases h2
  | some oj =>
    rw [hj] at h2
    obtain ⟨v, hv, hr⟩ := hd e he hb.1 oj d (by rw [hb.2, hj]) (by simpa using h2)
    exact ⟨v, hv, hr s (by rw [hb.2]; exact h3)⟩

theorem rs_of {specs : List SpecV} {k : Nat} {s0 : SpecV} {v : Value} {w : World} (h : specs[k]? = some s0) (hok : s0.ok v w) : RS specs k v w := fun s hs => by
  rw [h] at hs; cases hs; exact hok
theorem wanted_at {ops : Array Oper} {k g : Nat} {b : Bool} {o : Oper} {a : Act} {d : Tmp} {v : Value} (ho : ops[k]? = some o) (hg : ((ops[k]?).map (·.guard)) = some (some (g, b))) (h2 : ((ops[g]?).map (·.dst)) = some (some d)) (hv : a.tmps[d]? = some v) (he : v = .bool b) : Region.wanted o (yielded ops a.tmps) = true := by
  subst he
  cases hj : ops[g]? with
  | none => rw [hj] at h2; cases h2
  | some og =>
    rw [hj] at h2
    exact wanted_some ops (get_op (·.guard) ho hg) hj (by simpa using h2) hv
theorem enter2 {P : Program} {f : FuncId} {x y : Operand} {vx vy : Value} {tys : Array TypeId} {a : Act} {o : Oper} {w : World} (ho : o.op = .call { callee := .value (.func f), args := #[x, y], argTypes := tys }) (hx : a.eval x = vx) (hy : a.eval y = vy)
    (eg : ∀ args w, (callFunc f args).run P w = .ok (.enter f args) w) : (execOp a.eval o).run P w = .ok (.enter f #[vx, vy]) w := by
  unfold execOp
  rw [ho]
  have hf : a.eval (.func f) = .func (.func f) #[] #[] := rfl
  simp [resolve, invoke, Deferred.ofValue, hx, hy, hf, eg]

theorem end_at {ops : Array Oper} {specs : List SpecV} {a : Act} {w : World} (hr : ∀ (i : Nat) (o : Oper) (d : Tmp), ops[i]? = some o → o.dst = some d → ∃ v, a.tmps[d]? = some v ∧ RS specs i v w) (i : Nat) (d : Tmp) (s : SpecV)
    (h2 : ((ops[i]?).map (·.dst)) = some (some d)) (h3 : specs[i]? = some s) : ∃ v, a.tmps[d]? = some v ∧ s.ok v w := by
  cases hj : ops[i]? with
  | none => rw [hj] at h2; cases h2
  | some oj =>
    rw [hj] at h2
    obtain ⟨v, hv, h⟩ := hr i oj d hj (by simpa using h2)
    exact ⟨v, hv, h s h3⟩

theorem wp_region_spec {P : Program} {id n : Nat} {ops : Array Oper} {Q : Exit → Act → World → Prop} {a : Act} {w : World} {ds : List Deferred} {fixed : List (Tmp × Value)} {C : World → Prop} {specs : List SpecV} (hm : P.follows .mixedOrders = true)
    (hck : checksB ops n (fixed.map (·.1)) = true) (hf : FS n ds fixed a) (hc : C w.drew)
    (hob : ∀ (i : Nat) (o : Oper), ops[i]? = some o → Ob P ops n ds fixed C specs Q i o)
    (hend : ∀ a w, C w → FS n ds fixed a → (∀ (i : Nat) (o : Oper) (d : Tmp), ops[i]? = some o → o.dst = some d → ∃ v, a.tmps[d]? = some v ∧ RS specs i v w) → Q .normal a w) : (Code.region id ops true).wp P Q a w := by
  unfold checksB at hck
  rw [Bool.and_eq_true, Bool.and_eq_true, List.all_eq_true] at hck
  obtain ⟨⟨h1, h2⟩, h3⟩ := hck
  have hat : ∀ {i : Nat} {o : Oper}, ops[i]? = some o → ops.toList[i]? = some o := fun h => by simpa using h
  have hin : ∀ {i : Nat} {o : Oper} {d : Tmp}, ops[i]? = some o → o.dst = some d → d < n ∧ d ∉ fixed.map (·.1) := fun h hd => by
    have := h3 _ (List.mem_of_getElem? (hat h))
    rw [hd] at this
    simpa using this
  refine wp_region_any hm (wpAny_inv (F := FS n ds fixed) (C := C) (R := RS specs) ?_ ?_ ?_ ?_ (fun i v w w' h hb => h.later hb) ?_ hend _ _ _ _ ⟨by simp, hc, hf, fun i o d _ hl _ => ?_⟩ ?_)
  · intro i o ho e he _
    have := lowB_at h1 (hat ho) e he
    omega
  · intro i j o o' d hi hj hij hd hd'
    have hi' : (ops.toList.map (·.dst))[i]? = some (some d) := by rw [List.getElem?_map, hat hi]; simp [hd]
    have hj' : (ops.toList.map (·.dst))[j]? = some (some d) := by rw [List.getElem?_map, hat hj]; simp [hd']
    rcases Nat.lt_or_gt_of_ne hij with h | h
    · exact nodupB_at h2 h hi' hj'
    · exact nodupB_at h2 h hj' hi'
  · intro i o a v ho ⟨q1, q2, q3⟩
    cases hd : o.dst with
    | none => exact ⟨q1, q2, q3⟩
    | some d =>
      obtain ⟨_, hn⟩ := hin ho hd
      refine ⟨by simpa [Act.put] using q1, q2, fun p hp => ?_⟩
      have hne : d ≠ p.1 := fun e => hn (e ▸ List.mem_map_of_mem hp)
      simp [Act.put, hne, q3 p hp]
  · intro i o d a ho hd hf
    rw [hf.1]; exact (hin ho hd).1
  · intro i o ho a w hc hf hd K hK
    refine hob i o ho a w hc hf hd K fun v w' hr hc' hb => hK v w' (fun _ _ => hr) hc' hb
  · rw [Array.getD_eq_getD_getElem?, Array.getElem?_replicate] at hl
    split at hl <;> simp at hl
  · unfold unl
    exact Nat.le_trans List.countP_le_length (by simp)
end Go.Proofs.YtneinkpfhkojgaaDoor
