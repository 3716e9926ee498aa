/-
  The walk through sort.Search, over whatever closure.
-/
import Derived.Test.YtkdhldhbjomiaaaDoorMore
import Derived.Deep.LoopGhost
import Derived.BigQuiet
namespace Go.Proofs.YtkdhldhbjomiaaaDoor
open Go.RowKit

/-- What a search hands back: the first place at which p holds. -/
def RetSearch (w : World) (n : Nat) (p : Nat → Bool) (e : Ending) (w' : World) : Prop :=
  ∃ k : Nat, e = .returned (.int .i64 k) ∧ k ≤ n ∧ (∀ i, i < k → p i = false) ∧ (k < n → p k = true) ∧ Below w.heap.size w w'
/-- A closure, called in whatever later world, says p. -/
def Says (P : Program) (w : World) (g : FuncId) (cb : Array Value) (n : Nat) (p : Nat → Bool) : Prop :=
  ∀ (W : World) (i : Nat), Below w.heap.size w W → i < n → Calls P g (#[.int .i64 i] ++ cb) W fun e W' => e = .returned (.bool (p i)) ∧ Below W.heap.size W W'

set_option maxRecDepth 100000 in
set_option maxHeartbeats 1000000 in
theorem search_any (g : Nat) (cb : Array Value) (n : Nat) (p : Nat → Bool) (w : World) (eg : ∀ args w, (callFunc g args).run Tryd.prog w = .ok (.enter g args) w) (hsz : n < 4611686018427387904)
    (hf : Says Tryd.prog w g cb n p) (hmono : ∀ a b, a ≤ b → b < n → p a = true → p b = true) :
    Calls Tryd.prog 120 #[.int .i64 n, .func (.func g) #[] cb] w (RetSearch w n p) := by
  have HF := Lib.hid hf
  have HM := Lib.hid hmono
  clear hf hmono
  go_enter Tryd.func120, Tryd.ntmps120
  go_wp2_with fail
  go_loopw [5, 6] (fun s5 s6 wr => ∃ (lo hi : Nat), s5 = .int .i64 lo ∧ s6 = .int .i64 hi ∧ lo ≤ hi ∧ hi ≤ n ∧ Below w.heap.size w wr ∧ Hid ((∀ t, t < lo → p t = false) ∧ (∀ t, hi ≤ t → t < n → p t = true))) (fun s5 s6 _ => (intOf s6).toNat - (intOf s5).toNat)
  case atStart => exact ⟨0, n, rfl, rfl, Nat.zero_le _, Nat.le_refl _, Below.refl _ _, Lib.hid ⟨fun t ht => absurd ht (Nat.not_lt_zero _), fun t h1 h2 => by omega⟩⟩
  case round =>
    obtain ⟨lo, hi, rfl, rfl, hlh, hin, hbel, HI⟩ := hrel
    by_cases hlt : lo < hi
    · have hc := HF.out wr ((lo + hi) / 2) hbel (by omega)
      rw [show (((lo + hi) / 2 : Nat) : Int) = ((lo : Int) + (hi : Int)) / 2 by omega] at hc
      cases hp : p ((lo + hi) / 2) <;> rw [hp] at hc
      · have HC := Lib.hid hc
        have HI2 : Hid ((∀ t, t < (lo + hi) / 2 + 1 → p t = false) ∧ (∀ t, hi ≤ t → t < n → p t = true)) := Lib.hid ⟨fun t ht => (by
            cases h : p t with
            | false => rfl
            | true => have := HM.out t ((lo + hi) / 2) (by omega) (by omega) h; rw [hp] at this; cases this), HI.out.2⟩
        clear hp hc HI
        go_wp2_with fail
        refine HC.out.mono ?_
        rintro e w1 ⟨rfl, b1⟩
        clear HC
        go_wp2_with fail
        have hbel2 := below_next hbel b1
        go_roundw
        case rel => exact ⟨(lo + hi) / 2 + 1, hi, by rw [show ((lo : Int) + (hi : Int)) / 2 + 1 = (((lo + hi) / 2 + 1 : Nat) : Int) by omega], rfl, by omega, hin, hbel2, HI2⟩
        case measure => simp [intOf]; omega
      · have HC := Lib.hid hc
        have HI2 : Hid ((∀ t, t < lo → p t = false) ∧ (∀ t, (lo + hi) / 2 ≤ t → t < n → p t = true)) := Lib.hid ⟨HI.out.1, fun t ht htn => HM.out ((lo + hi) / 2) t ht htn hp⟩
        clear hp hc HI
        go_wp2_with fail
        refine HC.out.mono ?_
        rintro e w1 ⟨rfl, b1⟩
        clear HC
        go_wp2_with fail
        have hbel2 := below_next hbel b1
        go_roundw
        case rel => exact ⟨lo, (lo + hi) / 2, rfl, by rw [show ((lo : Int) + (hi : Int)) / 2 = (((lo + hi) / 2 : Nat) : Int) by omega], by omega, by omega, hbel2, HI2⟩
        case measure => simp [intOf]; omega
    · obtain rfl : hi = lo := by omega
      go_wp2_with fail
      go_ret
      exact ⟨hi, rfl, hin, HI.out.1, fun h => HI.out.2 hi (Nat.le_refl _) h, hbel⟩
end Go.Proofs.YtkdhldhbjomiaaaDoor
