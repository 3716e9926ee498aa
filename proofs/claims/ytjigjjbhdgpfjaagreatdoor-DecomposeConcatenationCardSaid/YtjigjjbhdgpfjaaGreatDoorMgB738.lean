/-
  Merged texts: lemmas and walks that the last text of this claim leans on.
-/
import Derived.Test.YtjigjjbhdgpfjaaGreatDoorMgB731
/-
  The walk through the reference's Order.
-/
namespace Go.Proofs.YtjigjjbhdgpfjaaGreatDoor
open Go.RowKit ND

set_option maxRecDepth 100000 in
set_option maxHeartbeats 1000000 in
theorem refOrder_any (t : Tv) (T : Tab) (v : Value) (xs : List Int) (w : World) (ht : TabR w w.heap.size t T) (hv : Ints w w.heap.size .i64 v xs) :
    Calls Tryz.prog 11 #[t.val, v] w (RetTwo w (ordL T xs) (accE T xs)) := by
  obtain ⟨A, c, rfl, _⟩ := id hv
  have HB0 : Hid (Below w.heap.size w (w.alloc (.cells t.cells 26))) := Lib.hid ((Below.refl _ _).alloc (Nat.le_refl _) _)
  have HT : Hid (Tbl (w.alloc (.cells t.cells 26)) w.heap.size t T) := Lib.hid ⟨Blk.new _ _ _, ht.later HB0.out⟩
  have HV := Lib.hid (hv.later HB0.out)
  have HCK := Lib.hid (refAcc_any t T _ xs _ HT.out.2 HV.out)
  clear hv ht
  by_cases h0 : accE T xs = 0
  · have HE := Lib.hid (ordL_ok h0)
    obtain ⟨a1, a2, _⟩ := accE_zero h0
    have HS := Lib.hid (fun W (h : Below (w.alloc (.cells t.cells 26)).heap.size (w.alloc (.cells t.cells 26)) W) => ordered_any t T _ xs W (HT.out.later h).2 a1 a2 (HV.out.later h))
    rw [h0] at HCK ⊢
    clear h0 a1 a2
    go_enter Tryz.func11, Tryz.ntmps11
    go_upto_region 1 with fail
    generalize w.alloc (.cells t.cells 26) = w1 at *
    have HTB := HT.out.1.tab
    obtain ⟨x0, x1, x2, x3, x4, x5, x6, x7, x8, x9, x10, x11⟩ := HTB
    go_upto_region 2 with (go_at_call 36; refine HCK.out.mono ?_; rintro e w2 ⟨rfl, b2⟩)
    clear x0 x1 x2 x3 x4 x5 x6 x7 x8 x9 x10 x11
    have HTB := (HT.out.later b2).1.tab
    obtain ⟨x0, x1, x2, x3, x4, x5, x6, x7, x8, x9, x10, x11⟩ := HTB
    go_wp2_with (go_at_call 37; refine (HS.out _ b2).mono ?_; rintro e w3 ⟨u, rfl, ho3, b3⟩)
    go_ret2
    rw [HE.out]
    exact ⟨u, rfl, row_le ho3 (by have := HB0.out.size; have := b2.size; omega), below_next (below_next HB0.out b2) b3⟩
  · have HE := Lib.hid (ordL_bad h0)
    have hb : (accE T xs != 0) = true := by simpa using h0
    clear h0
    go_enter Tryz.func11, Tryz.ntmps11
    go_upto_region 1 with fail
    generalize w.alloc (.cells t.cells 26) = w1 at *
    have HTB := HT.out.1.tab
    obtain ⟨x0, x1, x2, x3, x4, x5, x6, x7, x8, x9, x10, x11⟩ := HTB
    go_wp2_with (go_at_call 36; refine HCK.out.mono ?_; rintro e w2 ⟨rfl, b2⟩)
    go_ret2
    rw [HE.out]
    exact ⟨_, rfl, World.ownsRow_nil _ _ _ _, below_next HB0.out b2⟩
end Go.Proofs.YtjigjjbhdgpfjaaGreatDoor
