/-
  The walks through utf.scan and the reference's decode.
-/
import Derived.Test.YtmbphpocbajlmaaUtfE
namespace Go.Proofs.Ytmbphpocbajlmaa
open Go.RowKit ND

theorem Try.infoInt : (Try.prog.info? 3).map (fun i => (i.zero, i.size, i.bytes)) = some (some (.int .i64 0), 1, 8) := by kernel_rfl

/-- A slice of integers and a number come back; of what was there nothing has turned. -/
def RetInts1 (w : World) (cs : List Int) (k : Int) (e : Ending) (w' : World) : Prop :=
  ∃ v, e = .returned (.tuple #[v, .int .i64 k]) ∧ Ints w' w'.heap.size .i64 v cs ∧ Below w.heap.size w w'

theorem own_later {w w' : World} {B : Nat} {e : TypeId} {size : Nat} {v : Value} {n : Nat} {xs : List Value} (h : w.ownsRow B e size v n xs) (hb : Below w.heap.size w w') : w'.ownsRow B e size v n xs :=
  h.kept (row := none) ⟨hb.os, hb.tape, hb.output, hb.size, fun k hk _ => hb.block k hk⟩ (Classical.em _)

theorem scan_stop {l : List UInt8} {n c : Nat} (hf : firstP l = (c, n)) (h : n = 0) : scanL l = ([], 0) := by
  rw [scanL_eq, hf, if_pos h]
theorem scan_go {l : List UInt8} {n c : Nat} (hf : firstP l = (c, n)) (h : n ≠ 0) : scanL l = ((c : Int) :: (scanL (l.drop n)).1, n + (scanL (l.drop n)).2) := by
  rw [scanL_eq, hf, if_neg h]

theorem scan_rel_stop {s : ByteArray} {p n c : Nat} {acc cs : List Int} {kt : Nat} (h : acc ++ (scanL (s.data.toList.drop p)).1 = cs ∧ p + (scanL (s.data.toList.drop p)).2 = kt) (hf : firstP (s.data.toList.drop p) = (c, n)) (hn : n = 0) :
    acc = cs ∧ p = kt := by
  rw [scan_stop hf hn] at h; simpa using h
theorem scan_rel_end {s : ByteArray} {p : Nat} {acc cs : List Int} {kt : Nat} (h : acc ++ (scanL (s.data.toList.drop p)).1 = cs ∧ p + (scanL (s.data.toList.drop p)).2 = kt) (hp : s.size ≤ p) :
    acc = cs ∧ p = kt := by
  rw [List.drop_of_length_le (by rw [Array.length_toList]; exact hp), scanL_nil] at h; simpa using h
theorem scan_rel_go {s : ByteArray} {p n c : Nat} {acc cs : List Int} {kt : Nat} (h : acc ++ (scanL (s.data.toList.drop p)).1 = cs ∧ p + (scanL (s.data.toList.drop p)).2 = kt) (hf : firstP (s.data.toList.drop p) = (c, n)) (hn : n ≠ 0) :
    (acc ++ [(c : Int)]) ++ (scanL (s.data.toList.drop (p + n))).1 = cs ∧ (p + n) + (scanL (s.data.toList.drop (p + n))).2 = kt := by
  rw [scan_go hf hn, List.drop_drop] at h
  refine ⟨by simpa using h.1, by have := h.2; simp only at this; omega⟩

set_option maxRecDepth 100000 in
set_option maxHeartbeats 1000000 in
theorem scan_any (s : ByteArray) (w : World) (hs : s.size ≤ 2097152) :
    Calls Try.prog 48 #[.string s] w (RetInts1 w (scanL s.data.toList).1 (scanL s.data.toList).2) := by
  obtain ⟨i0, hi, hz0, hz1, hz2⟩ := info_parts Try.infoInt
  have hs1 : s.size ≤ maxLen := by unfold maxLen; omega
  have hin : Hid ([] ++ (scanL (s.data.toList.drop 0)).1 = (scanL s.data.toList).1 ∧ 0 + (scanL (s.data.toList.drop 0)).2 = (scanL s.data.toList).2) := Lib.hid (by simp)
  generalize (scanL s.data.toList).1 = cs at *
  generalize (scanL s.data.toList).2 = kt at *
  go_enter Try.func48, Try.ntmps48
  go_wp2_with fail
  go_loopw [4, 5] (fun out i wr => ∃ (p : Nat) (acc : List Int), p ≤ s.size ∧ i = .int .i64 p ∧ wr.ownsRow w.heap.size 3 1 out acc.length (acc.map (Value.int .i64)) ∧ acc.length ≤ p ∧
      Hid (acc ++ (scanL (s.data.toList.drop p)).1 = cs ∧ p + (scanL (s.data.toList.drop p)).2 = kt) ∧ Below w.heap.size w wr) (fun _ i _ => s.size - (intOf i).toNat)
  case atStart => exact ⟨0, [], by omega, rfl, World.ownsRow_nil _ _ _ _, by simp, hin, Below.refl _ _⟩
  case round =>
    obtain ⟨p, acc, hp, rfl, hown, hal, HU, hbel⟩ := hrel
    clear hin
    by_cases hlt : p < s.size
    · have hfs := firstP_some (s.data.toList.drop p)
      obtain ⟨c, n, hf⟩ : ∃ c n, firstP (s.data.toList.drop p) = (c, n) := ⟨_, _, rfl⟩
      rw [hf] at hfs
      have HF := Lib.hid hf
      have hfirst : ∀ W, Calls Try.prog 63 #[.string s, .int .i64 p] W fun e w' => e = .returned (.tuple #[.int .i64 c, .int .i64 n]) ∧ Below W.heap.size W w' := by
        intro W
        have h := first_any s p W hs1 hlt; rw [hf] at h; exact h
      have hfirst := Lib.hid hfirst
      by_cases hn : n = 0
      · have hb : ((n : Int) == 0) = true := beq_iff_eq.2 (by omega)
        have HX := Lib.hid (scan_rel_stop HU.out HF.out hn)
        clear hfs hf hn
        go_wp2_with (go_at_call 63; refine (hfirst.out _).mono ?_; rintro e w1 ⟨rfl, b1⟩)
        go_ret2
        have h := HX.out
        rw [← h.1, ← h.2]
        exact ⟨_, rfl, (Ints.of_own hown).later b1, below_then hbel (Nat.le_refl _) b1⟩
      · have hb : ((n : Int) == 0) = false := beq_eq_false_iff_ne.2 (by omega)
        have hpn : p + n ≤ s.size := by
          have h := (hfs hn).2.2.1
          rw [List.length_drop, Array.length_toList] at h
          have e : s.data.size = s.size := rfl
          simp only at h
          omega
        have HX := Lib.hid (scan_rel_go HU.out HF.out hn)
        have hn1 : 1 ≤ n := by omega
        clear hfs hf hn HU
        go_wp2_with fail
        refine (hfirst.out _).mono ?_
        rintro e w1 ⟨rfl, b1⟩
        have hown1 := own_later hown b1
        have hbel1 := below_then hbel (Nat.le_refl _) b1
        clear hown b1 hbel
        go_wp2_with (at_builtin; refine wpList_append_own _ rfl _ _ 35 rfl w.heap.size 3 i0 (.int .i64 0) 1 8 Try.underlying35 hi hz0 hz1 hz2 rfl (by decide) _ _ _ rfl (hown1.alloc _) ⟨w1.heap.size, 0, none⟩ 1 1 [.int .i64 (c : Int)] rfl rfl (cell_one_new _ _ _) ?c1 ?c2 ?c3 ?c4 ?_)
        case c1 => intro u hu; simp at hu; subst hu; rfl
        case c2 => unfold maxLen; omega
        case c3 => omega
        case c4 => have := hbel1.size; simp; omega
        intro v' w2 hown2 hgrow _
        have hbel2 : Below w.heap.size w w2 := (hbel1.alloc hbel1.size _).grown hgrow (by have := hbel1.size; simp; omega) (fun k hk => (hown1.lt k hk).1)
        clear hgrow hown1 hbel1
        go_wp2_with fail
        go_roundw
        case rel => exact ⟨p + n, acc ++ [(c : Int)], hpn, by go_num, by simpa using hown2, by simp; omega, HX, hbel2⟩
        case measure => simp [intOf]; omega
    · have HX := Lib.hid (scan_rel_end HU.out (by omega))
      go_wp2_with fail
      go_ret2
      have h := HX.out
      rw [← h.1, ← h.2]
      exact ⟨_, rfl, Ints.of_own hown, hbel⟩
end Go.Proofs.Ytmbphpocbajlmaa
