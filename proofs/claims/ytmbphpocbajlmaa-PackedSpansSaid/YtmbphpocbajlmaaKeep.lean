/-
  The walks through keep.From and Source.Next.
-/
import Derived.Test.YtmbphpocbajlmaaMem
import Derived.Test.YtmbphpocbajlmaaL3Awake
import Derived.BigQuiet
namespace Go.Proofs.Ytmbphpocbajlmaa
open Go.RowKit ND

/-- The source that lies in block g: the list v, of which xs are the numbers, and how many have been used. -/
def Src (w : World) (g : Nat) (v : Value) (n : Nat) : Prop := ∃ i : Nat, i ≤ n ∧ Blk w g 79 #[v, .int .i64 i]

def RetNext (w : World) (g : Nat) (v : Value) (n : Nat) (m : Int) (e : Ending) (w' : World) : Prop :=
  ∃ r : Int, e = .returned (.int .i64 r) ∧ 0 ≤ r ∧ r < m ∧ Src w' g v n ∧ w.grownBy w' (some g)

set_option maxRecDepth 100000 in
set_option maxHeartbeats 400000 in
theorem from_any (A : Option Addr) (n c : Nat) (w : World) : Calls Try.prog 45 #[.slice A n c] w fun e w' => e = .returned (.pointer (some ⟨w.heap.size, 0, none⟩)) ∧ w' = w.alloc (.cells #[.slice A n c, .int .i64 0] 79) := by
  go_enter Try.func45, Try.ntmps45
  go_wp2_with fail
  go_ret
  exact ⟨rfl, rfl⟩

set_option maxRecDepth 100000 in
set_option maxHeartbeats 400000 in
theorem next_src (w : World) (g : Nat) (v : Value) (xs : List Int) (m : Int) (hv : Ints w g .i64 v xs) (hs : Src w g v xs.length) (h0 : 0 < m) (h1 : m ≤ 1000000) :
    Calls Try.prog 46 #[.pointer (some ⟨g, 0, none⟩), .int .i64 m] w (RetNext w g v xs.length m) := by
  obtain ⟨i, hi, hb⟩ := hs
  obtain ⟨A, c, rfl, hc1, hc2, _, hcell⟩ := hv
  have HC := Lib.hid hcell; clear hcell
  have hx : xs.length ≤ 9223372036854775807 := by unfold maxLen at hc2; omega
  have c0 : w.cell? ⟨g, 0, none⟩ = some (.slice A xs.length c) := by rw [hb.cell]; rfl
  have c1 : w.cell? ⟨g, 1, none⟩ = some (.int .i64 i) := by rw [hb.cell]; rfl
  have f1 := hb.free 1
  have HB := Lib.hid hb; clear hb
  by_cases hlt : i < xs.length
  · go_enter Try.func46, Try.ntmps46
    go_wp2_with fail
    go_quiet (fail)
    go_wp2_with fail
    have hb1 : Blk ((w.drewN nq).setCell ⟨g, 1, none⟩ (.int .i64 (i + 1))) g 79 #[.slice A xs.length c, .int .i64 (i + 1)] :=
      (show Blk (w.drewN nq) g 79 #[.slice A xs.length c, .int .i64 i] from HB.out).put 1 (.int .i64 (i + 1))
    have hbel1 : Below g w ((w.drewN nq).setCell ⟨g, 1, none⟩ (.int .i64 (i + 1))) := (below_drewN (Below.refl g w) nq).setCell (p := ⟨g, 1, none⟩) (Nat.le_refl _) _
    have hgr1 : w.grownBy ((w.drewN nq).setCell ⟨g, 1, none⟩ (.int .i64 (i + 1))) (some g) := grown_setCell (grown_drewN (grown_refl w _) nq) _ _
    generalize (w.drewN nq).setCell ⟨g, 1, none⟩ (.int .i64 ((i : Int) + 1)) = w1 at *
    obtain ⟨x, hxk, _⟩ := get_of hlt
    obtain ⟨ad, rfl, ha, hce⟩ := HC.out i x hxk
    have e1 := (hbel1.cell (p := ad.add i) (by rw [block_of_add]; exact ha)).trans hce
    have d0 : w1.cell? ⟨g, 0, none⟩ = some (.slice (some ad) xs.length c) := by rw [hb1.cell]; rfl
    have d1 : w1.cell? ⟨g, 1, none⟩ = some (.int .i64 (i + 1)) := by rw [hb1.cell]; rfl
    have hw : IntKind.i64.wrap ((i : Int) + 1 - 1) = i := by rw [IntWalk.i64_in _ (by omega)]; omega
    have k0 : (0 : Int) ≤ (i : Int) := by omega
    have k1 : (i : Int) < (xs.length : Int) := by omega
    have HB1 := Lib.hid hb1; clear hb1 HB hce hxk
    have hpk := pick_in x h0
    go_quiet ((go_at_call 17; exact quiet_left (pick_any _ _ _ h0 (by omega))))
    rename_i nq2
    go_wp2_with fail
    go_ret
    exact ⟨_, rfl, hpk.1, hpk.2, ⟨i + 1, by omega, HB1.out⟩, grown_drewN hgr1 _⟩
  · go_enter Try.func46, Try.ntmps46
    go_wp2_with fail
    go_quiet (fail)
    go_wp2_with fail
    go_ret
    exact ⟨0, rfl, by omega, h0, ⟨i, hi, HB.out⟩, grown_drewN (grown_refl w _) nq⟩
end Go.Proofs.Ytmbphpocbajlmaa
