/-
  The walks through the reader of packed: next and want.
-/
import Derived.Test.YtmbphpocbajlmaaPkGet
import Derived.Test.YtmbphpocbajlmaaMem
import Derived.BigQuiet
namespace Go.Proofs.Ytmbphpocbajlmaa
open Go.RowKit ND

set_option maxRecDepth 100000 in
set_option maxHeartbeats 400000 in
theorem next_err (w : World) (g : Nat) (s : ByteArray) (p e : Int) (hb : Blk w g 75 #[.string s, .int .i64 p, .int .i64 e]) (he : e ≠ 0) :
    Calls Try.prog 57 #[.pointer (some ⟨g, 0, none⟩)] w fun e w' => e = .returned (.int .i64 0) ∧ w = w' := by
  have h2 : w.cell? ⟨g, 2, none⟩ = some (.int .i64 e) := by rw [hb.cell]; rfl
  have hne : (e != 0) = true := by rw [bne_iff_ne]; exact he
  clear hb he
  go_enter Try.func57, Try.ntmps57
  go_wp2_with fail
  go_ret
  exact ⟨rfl, rfl⟩

set_option maxRecDepth 100000 in
set_option maxHeartbeats 400000 in
theorem next_ok (w : World) (g : Nat) (s : ByteArray) (p : Int) (hs : s.size ≤ maxLen) (hb : Blk w g 75 #[.string s, .int .i64 p, .int .i64 0]) :
    Calls Try.prog 57 #[.pointer (some ⟨g, 0, none⟩)] w fun e w' => e = .returned (.int .i64 (getInt s.data.toList p).1) ∧
      Blk w' g 75 #[.string s, .int .i64 (getInt s.data.toList p).2.1, .int .i64 (getInt s.data.toList p).2.2] ∧ w.grownBy w' (some g) := by
  have h0 : w.cell? ⟨g, 0, none⟩ = some (.string s) := by rw [hb.cell]; rfl
  have h1 : w.cell? ⟨g, 1, none⟩ = some (.int .i64 p) := by rw [hb.cell]; rfl
  have h2 : w.cell? ⟨g, 2, none⟩ = some (.int .i64 0) := by rw [hb.cell]; rfl
  have f1 := hb.free 1
  have f2 := hb.free 2
  have hget := Lib.hid (fun W => getInt_any s p W hs)
  have HB := Lib.hid hb; clear hb
  generalize getInt s.data.toList p = r at *
  obtain ⟨x, y, z⟩ := r
  unfold tri at hget
  simp only at hget ⊢
  go_enter Try.func57, Try.ntmps57
  go_wp2_with fail
  go_quiet ((go_at_call 19; exact quiet_left (hget.out _)))
  go_wp2_with fail
  go_ret
  have hb := HB.out
  refine ⟨rfl, ?_, grown_setCell (grown_setCell (grown_drewN (grown_refl w _) nq) _ _) _ _⟩
  have h3 : Blk (w.drewN nq) g 75 #[.string s, .int .i64 p, .int .i64 0] := hb
  exact (h3.put 1 (.int .i64 y)).put 2 (.int .i64 z)

set_option maxRecDepth 100000 in
set_option maxHeartbeats 400000 in
theorem want_yes (w : World) (g : Nat) (s : ByteArray) (p e : Int) (hb : Blk w g 75 #[.string s, .int .i64 p, .int .i64 e]) :
    Calls Try.prog 58 #[.pointer (some ⟨g, 0, none⟩), .bool true] w fun r w' => r = .returned (.bool (e == 0)) ∧ w = w' := by
  have h2 : w.cell? ⟨g, 2, none⟩ = some (.int .i64 e) := by rw [hb.cell]; rfl
  clear hb
  by_cases he : e = 0
  · subst he
    go_enter Try.func58, Try.ntmps58
    go_wp2_with fail
    go_ret
    exact ⟨by simp, rfl⟩
  · have hb : (e == 0) = false := beq_eq_false_iff_ne.2 he
    clear he
    go_enter Try.func58, Try.ntmps58
    go_wp2_with fail
    go_ret
    exact ⟨by simp [hb], rfl⟩

set_option maxRecDepth 100000 in
set_option maxHeartbeats 400000 in
theorem want_err (w : World) (g : Nat) (s : ByteArray) (p e : Int) (ok : Bool) (hb : Blk w g 75 #[.string s, .int .i64 p, .int .i64 e]) (he : e ≠ 0) :
    Calls Try.prog 58 #[.pointer (some ⟨g, 0, none⟩), .bool ok] w fun r w' => r = .returned (.bool false) ∧ w = w' := by
  have h2 : w.cell? ⟨g, 2, none⟩ = some (.int .i64 e) := by rw [hb.cell]; rfl
  have hb : (e == 0) = false := beq_eq_false_iff_ne.2 he
  clear he
  go_enter Try.func58, Try.ntmps58
  go_wp2_with fail
  go_ret
  exact ⟨by simp, rfl⟩

set_option maxRecDepth 100000 in
set_option maxHeartbeats 400000 in
theorem want_no (w : World) (g : Nat) (s : ByteArray) (p : Int) (hb : Blk w g 75 #[.string s, .int .i64 p, .int .i64 0]) :
    Calls Try.prog 58 #[.pointer (some ⟨g, 0, none⟩), .bool false] w fun r w' => r = .returned (.bool false) ∧
      Blk w' g 75 #[.string s, .int .i64 p, .int .i64 4] ∧ w.grownBy w' (some g) := by
  have h2 : w.cell? ⟨g, 2, none⟩ = some (.int .i64 0) := by rw [hb.cell]; rfl
  have f2 := hb.free 2
  have HB := Lib.hid hb; clear hb
  go_enter Try.func58, Try.ntmps58
  go_wp2_with fail
  go_ret
  exact ⟨by simp, HB.out.put 2 (.int .i64 4), grown_setCell (grown_refl w _) _ _⟩
end Go.Proofs.Ytmbphpocbajlmaa
