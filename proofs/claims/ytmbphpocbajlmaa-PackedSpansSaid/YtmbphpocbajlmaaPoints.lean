/-
  The walks through keep.pool, keep.point and keep.Points.
-/
import Derived.Test.YtmbphpocbajlmaaKeep
import Derived.Test.YtmbphpocbajlmaaPush
import Derived.Test.YtmbphpocbajlmaaUtfPlain
namespace Go.Proofs.Ytmbphpocbajlmaa
open Go.RowKit ND

def poolL : List Int := [0xad, 0xb7, 0x301, 0x308, 0x323, 0x345, 0x375, 0x3b1, 0x3b2, 0x3b3, 0x430, 0x5d0, 0x5f3, 0x628, 0x629, 0x660, 0x6f0, 0x94d, 0x1e00, 0x1e01, 0x1e02, 0x1e03, 0x1e04, 0x200c, 0x200d, 0x30fb, 0x4e00, 0x1f600]
theorem pool_scal : ∀ c ∈ poolL, scalarB c = true := by decide

set_option maxRecDepth 100000 in
set_option maxHeartbeats 400000 in
theorem pool_any (w : World) : Calls Try.prog 62 #[] w fun e w' => e = .returned (.slice (some ⟨w.heap.size, 0, none⟩) 28 28) ∧ w' = w.alloc (.cells (poolL.map (Value.int .i64)).toArray 3) := by
  go_enter Try.func62, Try.ntmps62
  go_wp2_with fail
  go_ret
  exact ⟨rfl, rfl⟩

theorem grown_trans {a b c : World} {row : Option Nat} (h : a.grownBy b row) (k : b.grownBy c row) : a.grownBy c row :=
  ⟨k.os.trans h.os, k.tape.trans h.tape, k.output.trans h.output, Nat.le_trans h.size k.size, fun j hj hne => (k.block j (Nat.lt_of_lt_of_le hj h.size) hne).trans (h.block j hj hne)⟩
theorem grown_alloc (w : World) (o : Obj) (row : Option Nat) : w.grownBy (w.alloc o) row :=
  ⟨rfl, rfl, rfl, by simp, fun j hj _ => Below.heap_alloc w o j hj⟩
theorem Src.lt {w : World} {g : Nat} {v : Value} {n : Nat} (h : Src w g v n) : g < w.heap.size := by
  obtain ⟨i, _, hb⟩ := h; exact hb.lt
theorem Src.alloc {w : World} {g : Nat} {v : Value} {n : Nat} (h : Src w g v n) (o : Obj) : Src (w.alloc o) g v n := by
  obtain ⟨i, hi, hb⟩ := h; exact ⟨i, hi, hb.alloc o⟩
theorem Src.grown {w w' : World} {g : Nat} {v : Value} {n : Nat} {row : Option Nat} (h : Src w g v n) (hg : w.grownBy w' row) (hr : some g ≠ row) : Src w' g v n := by
  obtain ⟨i, hi, hb⟩ := h; exact ⟨i, hi, hb.grown hg hr⟩
theorem Ints.grown {w w' : World} {g : Nat} {k : IntKind} {v : Value} {xs : List Int} (h : Ints w g k v xs) (hg : w.grownBy w' (some g)) (hlt : g < w.heap.size) : Ints w' g k v xs :=
  h.keep fun p hp => World.cell?_of_block (w := w) (hg.block p.block (by omega) (by intro e; cases e; omega))

def RetPoint (w : World) (g : Nat) (v : Value) (n : Nat) (e : Ending) (w' : World) : Prop :=
  ∃ r : Int, e = .returned (.int .i64 r) ∧ scalarB r = true ∧ Src w' g v n ∧ w.grownBy w' (some g)

theorem cell_kept {w w' : World} {g : Nat} {l : List Value} (b : Nat) (h : ∀ j u, l[j]? = some u → w.cell? ((⟨b, 0, none⟩ : Addr).add j) = some u) (hg : w.grownBy w' (some g)) (hb : b < w.heap.size) (hne : b ≠ g) (j : Nat) (u : Value) (hu : l[j]? = some u) : w'.cell? ⟨b, j, none⟩ = some u := by
  have h1 := h j u hu
  have hadd : (⟨b, 0, none⟩ : Addr).add j = ⟨b, j, none⟩ := by unfold Addr.add; split <;> simp_all
  rw [hadd] at h1
  exact (World.cell?_of_block (w := w) (a := ⟨b, j, none⟩) (hg.block b hb (by intro e; cases e; exact hne rfl))).trans h1

set_option maxRecDepth 100000 in
set_option maxHeartbeats 1000000 in
theorem point_src (w : World) (g : Nat) (v : Value) (xs : List Int) (hv : Ints w g .i64 v xs) (hs : Src w g v xs.length) :
    Calls Try.prog 47 #[.pointer (some ⟨g, 0, none⟩)] w (RetPoint w g v xs.length) := by
  have hlt := hs.lt
  go_enter Try.func47, Try.ntmps47
  go_wp2_with fail
  refine (pool_any _).mono ?_
  rintro e w1 ⟨rfl, rfl⟩
  have hs1 := hs.alloc (.cells (poolL.map (Value.int .i64)).toArray 3)
  have hg1 := grown_alloc w (.cells (poolL.map (Value.int .i64)).toArray 3) (some g)
  have hv1 := hv.grown hg1 hlt
  have hcells := cells_new w (poolL.map (Value.int .i64)) 3
  have hlt1 := hs1.lt
  have hsz : w.heap.size < (w.alloc (.cells (poolL.map (Value.int .i64)).toArray 3)).heap.size := by simp
  generalize w.alloc (.cells (poolL.map (Value.int .i64)).toArray 3) = w1 at *
  go_wp2_with fail
  refine (next_src w1 g v xs 8 hv1 hs1 (by decide) (by decide)).mono ?_
  rintro e w2 ⟨r, rfl, hr0, hr1, hs2, hg2⟩
  have hv2 := hv1.grown hg2 hlt1
  have hG2 := grown_trans hg1 hg2
  have hc2 : r = 0 ∨ r = 1 ∨ r = 2 ∨ r = 3 ∨ r = 4 ∨ (5 ≤ r ∧ (r == 0) = false ∧ (r == 1) = false ∧ (r == 2) = false ∧ (r == 3) = false ∧ (r == 4) = false) := by
    have : r = 0 ∨ r = 1 ∨ r = 2 ∨ r = 3 ∨ r = 4 ∨ 5 ≤ r := by omega
    rcases this with h | h | h | h | h | h
    · exact .inl h
    · exact .inr (.inl h)
    · exact .inr (.inr (.inl h))
    · exact .inr (.inr (.inr (.inl h)))
    · exact .inr (.inr (.inr (.inr (.inl h))))
    · exact .inr (.inr (.inr (.inr (.inr ⟨h, beq_eq_false_iff_ne.2 (by omega), beq_eq_false_iff_ne.2 (by omega), beq_eq_false_iff_ne.2 (by omega), beq_eq_false_iff_ne.2 (by omega), beq_eq_false_iff_ne.2 (by omega)⟩))))
  rcases hc2 with rfl | rfl | rfl | rfl | rfl | ⟨h5, q0, q1, q2, q3, q4⟩
  · go_wp2_with fail
    refine (next_src w2 g v xs 12 hv2 hs2 (by decide) (by decide)).mono ?_
    rintro e w3 ⟨s, rfl, hs0, hs1', hs3, hg3⟩
    have hG3 := grown_trans hG2 hg3
    have h12 : s = 0 ∨ s = 1 ∨ s = 2 ∨ s = 3 ∨ s = 4 ∨ s = 5 ∨ s = 6 ∨ s = 7 ∨ s = 8 ∨ s = 9 ∨ s = 10 ∨ s = 11 := by omega
    clear hs0 hs1' hg3 hv2 hs2 hG2 hv1 hs1 hg1 hv hs hcells
    rcases h12 with rfl | rfl | rfl | rfl | rfl | rfl | rfl | rfl | rfl | rfl | rfl | rfl
    all_goals
      go_wp2_with fail
      go_ret
      exact ⟨_, rfl, by first | decide +kernel | kernel_rfl | rfl, hs3, hG3⟩
  · go_wp2_with fail
    refine (next_src w2 g v xs 12 hv2 hs2 (by decide) (by decide)).mono ?_
    rintro e w3 ⟨s, rfl, hs0, hs1', hs3, hg3⟩
    have hG3 := grown_trans hG2 hg3
    have h12 : s = 0 ∨ s = 1 ∨ s = 2 ∨ s = 3 ∨ s = 4 ∨ s = 5 ∨ s = 6 ∨ s = 7 ∨ s = 8 ∨ s = 9 ∨ s = 10 ∨ s = 11 := by omega
    clear hs0 hs1' hg3 hv2 hs2 hG2 hv1 hs1 hg1 hv hs hcells
    rcases h12 with rfl | rfl | rfl | rfl | rfl | rfl | rfl | rfl | rfl | rfl | rfl | rfl
    all_goals
      go_wp2_with fail
      go_ret
      exact ⟨_, rfl, by first | decide +kernel | kernel_rfl | rfl, hs3, hG3⟩
  · go_wp2_with fail
    refine (next_src w2 g v xs 12 hv2 hs2 (by decide) (by decide)).mono ?_
    rintro e w3 ⟨s, rfl, hs0, hs1', hs3, hg3⟩
    have hG3 := grown_trans hG2 hg3
    have h12 : s = 0 ∨ s = 1 ∨ s = 2 ∨ s = 3 ∨ s = 4 ∨ s = 5 ∨ s = 6 ∨ s = 7 ∨ s = 8 ∨ s = 9 ∨ s = 10 ∨ s = 11 := by omega
    clear hs0 hs1' hg3 hv2 hs2 hG2 hv1 hs1 hg1 hv hs hcells
    rcases h12 with rfl | rfl | rfl | rfl | rfl | rfl | rfl | rfl | rfl | rfl | rfl | rfl
    all_goals
      go_wp2_with fail
      go_ret
      exact ⟨_, rfl, by first | decide +kernel | kernel_rfl | rfl, hs3, hG3⟩
  · go_wp2_with fail
    refine (next_src w2 g v xs 60 hv2 hs2 (by decide) (by decide)).mono ?_
    rintro e w3 ⟨s, rfl, hs0, hs1', hs3, hg3⟩
    have hG3 := grown_trans hG2 hg3
    go_wp2_with fail
    go_ret
    exact ⟨_, rfl, (scalarB_iff _).2 (by omega), hs3, hG3⟩
  · go_wp2_with fail
    have hg' := grown_alloc w2 (.cells #[.int .i64 4352, .int .i64 4449, .int .i64 4520, .int .i64 46] 3) (some g)
    refine (next_src _ g v xs 4 (hv2.grown hg' hs2.lt) (hs2.alloc _) (by decide) (by decide)).mono ?_
    rintro e w3 ⟨s, rfl, hs0, hs1', hs3, hg3⟩
    have hG3 := grown_trans hG2 (grown_trans hg' hg3)
    have hk := cell_kept w2.heap.size (cells_new w2 [.int .i64 4352, .int .i64 4449, .int .i64 4520, .int .i64 46] 3) hg3 (by simp) (by have := hs2.lt; omega)
    have k0 := hk 0 _ rfl
    have k1 := hk 1 _ rfl
    have k2 := hk 2 _ rfl
    have k3 := hk 3 _ rfl
    clear hk hg' hg3
    have h4 : s = 0 ∨ s = 1 ∨ s = 2 ∨ s = 3 := by omega
    clear hs0 hs1'
    rcases h4 with rfl | rfl | rfl | rfl
    all_goals
      go_wp2_with fail
      go_ret
      exact ⟨_, rfl, by decide, hs3, hG3⟩
  · go_wp2_with fail
    refine (next_src w2 g v xs 28 hv2 hs2 (by decide) (by decide)).mono ?_
    rintro e w3 ⟨s, rfl, hs0, hs1', hs3, hg3⟩
    have hG3 := grown_trans hG2 hg3
    have hk := cell_kept w.heap.size hcells (grown_trans hg2 hg3) hsz (by omega)
    obtain ⟨m, rfl⟩ := Int.eq_ofNat_of_zero_le hs0
    have hm : m < 28 := by omega
    obtain ⟨x, hx, hxm⟩ := get_of (xs := poolL) (k := m) hm
    have k0 := hk m (.int .i64 x) (by rw [List.getElem?_map, hx]; rfl)
    have hsx := Lib.hid (pool_scal x hxm)
    clear hk hx hxm hcells hg3
    go_wp2_with fail
    go_ret
    exact ⟨_, rfl, hsx.out, hs3, hG3⟩
end Go.Proofs.Ytmbphpocbajlmaa
