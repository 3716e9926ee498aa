/-
  Merged texts: lemmas and walks that the last text of this claim leans on.
-/
import Derived.Test.YtikcfoobfobmnaaGreatDoorMgB732
import Derived.Test.YtikcfoobfobmnaaGreatDoorMgB75
import Derived.Test.YtikcfoobfobmnaaGreatDoorMgB73
import Derived.Test.YtikcfoobfobmnaaGreatDoorMgB71
import Derived.Test.YtikcfoobfobmnaaGreatDoorMgB728
import Derived.Test.YtikcfoobfobmnaaGreatDoorMgB729
import Derived.Test.YtikcfoobfobmnaaGreatDoorMgB730
import Derived.Laws.OwnMore
import Derived.Test.YtikcfoobfobmnaaGreatDoorMgB74
/-
  Literals of spans and of mappings, as they lie in memory.
-/
namespace Go.Proofs.YtikcfoobfobmnaaGreatDoor
open Go.RowKit ND

theorem lit_i (w : World) (xs : List Int) (hl : xs.length ≤ 1000000) : Ints (w.alloc (.cells (xs.map (Value.int .i64)).toArray 3)) (w.alloc (.cells (xs.map (Value.int .i64)).toArray 3)).heap.size .i64 (.slice (some ⟨w.heap.size, 0, none⟩) xs.length xs.length) xs :=
  Ints.of_own (own_new w 3 xs hl)
/-- One span. -/
theorem lit_span (w : World) (a b c : Int) : Spans (w.alloc (.cells #[.int .i64 a, .int .i64 b, .int .i64 c] 61)) (w.alloc (.cells #[.int .i64 a, .int .i64 b, .int .i64 c] 61)).heap.size (.slice (some ⟨w.heap.size, 0, none⟩) 1 1) [(a, b, c)] := by
  have h := cells_new w [.int .i64 a, .int .i64 b, .int .i64 c] 61
  refine ⟨_, _, rfl, Nat.le_refl _, by unfold maxLen; omega, (by simp), fun i x hi => ?_⟩
  cases i with
  | zero =>
    simp at hi; subst hi
    exact ⟨_, rfl, by simp, h 0 _ rfl, h 1 _ rfl, h 2 _ rfl⟩
  | succ i => simp at hi
/-- One mapping. -/
theorem lit_map (w : World) (a : Int) (v : Value) (xs : List Int) (hv : Ints w w.heap.size .i64 v xs) : Mapps (w.alloc (.cells #[.int .i64 a, v] 51)) (w.alloc (.cells #[.int .i64 a, v] 51)).heap.size (.slice (some ⟨w.heap.size, 0, none⟩) 1 1) [(a, xs)] := by
  have h := cells_new w [.int .i64 a, v] 51
  have hb : Below w.heap.size w (w.alloc (.cells #[.int .i64 a, v] 51)) := (Below.refl _ _).alloc (Nat.le_refl _) _
  refine ⟨_, _, rfl, Nat.le_refl _, by unfold maxLen; omega, (by simp), fun i x hi => ?_⟩
  cases i with
  | zero =>
    simp at hi; subst hi
    exact ⟨_, v, rfl, by simp, h 0 _ rfl, h 1 _ rfl, hv.later hb⟩
  | succ i => simp at hi
/-- Two mappings. -/
theorem lit_map2 (w : World) (a : Int) (v : Value) (xs : List Int) (a' : Int) (v' : Value) (xs' : List Int) (hv : Ints w w.heap.size .i64 v xs) (hv' : Ints w w.heap.size .i64 v' xs') : Mapps (w.alloc (.cells #[.int .i64 a, v, .int .i64 a', v'] 51)) (w.alloc (.cells #[.int .i64 a, v, .int .i64 a', v'] 51)).heap.size (.slice (some ⟨w.heap.size, 0, none⟩) 2 2) [(a, xs), (a', xs')] := by
  have h := cells_new w [.int .i64 a, v, .int .i64 a', v'] 51
  have hb : Below w.heap.size w (w.alloc (.cells #[.int .i64 a, v, .int .i64 a', v'] 51)) := (Below.refl _ _).alloc (Nat.le_refl _) _
  refine ⟨_, _, rfl, Nat.le_refl _, by unfold maxLen; omega, (by simp), fun i x hi => ?_⟩
  match i, hi with
  | 0, hi =>
    simp at hi; subst hi
    exact ⟨_, v, rfl, by simp, h 0 _ rfl, h 1 _ rfl, hv.later hb⟩
  | 1, hi =>
    simp at hi; subst hi
    exact ⟨_, v', rfl, by simp, h 2 _ rfl, h 3 _ rfl, hv'.later hb⟩
  | i + 2, hi => simp at hi
end Go.Proofs.YtikcfoobfobmnaaGreatDoor
/-
  Below, whatever name the size of the first heap bears.
-/
namespace Go.Proofs.YtikcfoobfobmnaaGreatDoor
open Go.RowKit
theorem below_w {a b c : World} {B : Nat} (h : Below a.heap.size a b) (k : Below b.heap.size b c) (hB : B = a.heap.size := by first | rfl | omega) : Below B a c := hB ▸ below_next h k
end Go.Proofs.YtikcfoobfobmnaaGreatDoor
/-
  The walk through the reference's GetInt: it returns what the plain getInt says.
-/
namespace Go.Proofs.YtikcfoobfobmnaaGreatDoor
open Go.RowKit ND

theorem half_in {u : Nat} (h : u < 18446744073709551616) : wrap64 ((u : Int) / 2) = ((u / 2 : Nat) : Int) := by
  rw [IntWalk.wrap64_in _ ⟨by omega, by omega⟩]; omega
theorem i64_odd {u : Nat} (h : u < 18446744073709551616) (hp : u % 2 = 1) : bits .xor .i64 (-1) (wrap64 ((u : Int) / 2)) = unzz u := by
  rw [half_in h]
  have hx : ∀ (a b : Int), bits .xor .i64 a b = IntKind.i64.wrap ((BitVec.ofInt 64 a ^^^ BitVec.ofInt 64 b).toNat : Int) := fun _ _ => rfl
  have ha : (BitVec.ofInt 64 ((u / 2 : Nat) : Int)) = BitVec.ofNat 64 (u / 2) := BitVec.ofInt_natCast ..
  have hm : BitVec.ofInt 64 (-1) = BitVec.allOnes 64 := by decide
  rw [hx, ha, hm, BitVec.xor_comm, BitVec.xor_allOnes, BitVec.toNat_not, BitVec.toNat_ofNat, IntKind.wrap_i64, Nat.mod_eq_of_lt (by omega)]
  unfold unzz
  rw [if_neg (by omega)]
  omega
theorem i64_even {u : Nat} (h : u < 18446744073709551616) (hp : u % 2 = 0) : wrap64 ((u : Int) / 2) = unzz u := by
  rw [half_in h]; unfold unzz; rw [if_pos hp]

set_option maxRecDepth 100000 in
set_option maxHeartbeats 400000 in
theorem refGetInt_in (s : ByteArray) (p : Nat) (w : World) (hs : s.size ≤ maxLen) (h1 : p ≤ s.size) :
    Calls Tryz.prog 73 #[.string s, .int .i64 p] w fun e w' => e = .returned (tri (getInt s.data.toList p)) ∧ w = w' := by
  unfold maxLen at hs
  have hfin : getInt s.data.toList p = finU p (getU (s.data.toList.drop p) 0 0) := by
    unfold getInt; rw [if_neg (by simp; omega)]; rfl
  rw [hfin]
  clear hfin
  obtain ⟨R, hR⟩ : ∃ R, getU (s.data.toList.drop p) 0 0 = R := ⟨_, rfl⟩
  rw [hR]
  have HR := Lib.hid hR; clear hR
  have hd1 : decide (s.size < p) = false := by simp; omega
  have hd2 : decide ((p : Int) < 0) = false := by simp
  go_enter Tryz.func73, Tryz.ntmps73
  go_wp2
  go_loop [7, 8] (fun u i => ∃ (k : Nat) (n : Nat), k ≤ 9 ∧ p + k ≤ s.size ∧ Hid (n < 2 ^ (7 * k)) ∧ Hid (getU (s.data.toList.drop (p + k)) k n = R) ∧ i = .int .i64 k ∧ u = .int .u64 n) (fun _ i => (10 - intOf i).toNat)
  case atStart => exact ⟨0, 0, by omega, by omega, Lib.hid (by decide), HR, rfl, rfl⟩
  case round =>
    obtain ⟨k, n, hk, hn, HB, HU, rfl, rfl⟩ := hrel
    clear HR
    by_cases hlt : p + k < s.size
    · have hd := bytes_drop s (p + k) hlt
      have HU' : Hid (getU (s[p + k] :: s.data.toList.drop (p + k + 1)) k n = R) := by rw [← hd]; exact HU
      clear hd HU
      have hc := s[p + k].toNat_lt
      rcases show (9 ≤ k ∧ 1 < s[p + k].toNat) ∨ (k < 9 ∧ 128 ≤ s[p + k].toNat) ∨ (s[p + k].toNat < 1 ∧ 0 < k ∧ s[p + k].toNat < 128) ∨ ((9 ≤ k → s[p + k].toNat ≤ 1) ∧ s[p + k].toNat < 128 ∧ (s[p + k].toNat < 1 → k < 1)) by omega with ⟨h9, hb⟩ | ⟨h9, hb⟩ | ⟨h0, hb, hb'⟩ | ⟨h9, hb, h0⟩
      · go_wp2
        go_ret3; exact ⟨tri_ret (getU_nine HU'.out (by omega) (by omega)), rfl⟩
      · go_wp2
        go_round
        case rel => exact ⟨k + 1, n + s[p + k].toNat % 128 * 2 ^ (7 * k), by omega, by omega, Lib.hid ((bound7 hk HB.out hc (by omega)).2 (by omega)), Lib.hid (getU_more HU'.out (by omega) hb), by go_num, by rw [u64_add7 hk HB.out hc (by omega)]⟩
        case measure => simp [intOf]; omega
      · go_wp2
        all_goals
          go_ret3
          exact ⟨tri_ret (getU_zero HU'.out (by omega) (by omega)), rfl⟩
      · have hu := u64_add7 hk HB.out hc (by omega)
        have HL := Lib.hid (getU_last (p := p) HU'.out (by omega) (by omega) (by omega))
        have hlim := (bound7 hk HB.out hc (by omega)).1
        generalize hMe : n + s[p + k].toNat % 128 * 2 ^ (7 * k) = M at hu HL
        have HMl : Hid (M < 18446744073709551616) := Lib.hid (by omega)
        clear hMe hlim HB
        have hand : bits .and .u64 (M : Int) 1 = ((M % 2 : Nat) : Int) := by
          have := u64_and_nat M 1 HMl.out (by omega)
          rw [nat_mask1] at this
          exact this
        by_cases hpar : M % 2 = 1
        · have hb1 : (bits .and .u64 (M : Int) 1 == 1) = true := by rw [beq_iff_eq, hand, hpar]; rfl
          have HP := Lib.hid hpar
          clear hpar hand
          rcases show (9 ≤ k ∧ s[p + k].toNat ≤ 1 ∧ 0 < s[p + k].toNat) ∨ (k < 9 ∧ 0 < s[p + k].toNat) ∨ (k < 1 ∧ s[p + k].toNat < 1) by omega with ⟨a1, a2, a3⟩ | ⟨a1, a3⟩ | ⟨a1, a3⟩
          · have hb9 : ((k : Int) == 9) = true := by simp; omega
            have hb0 : ((s[p + k].toNat : Int) == 0) = false := by simp; omega
            go_wp2
            all_goals
              go_ret3
              refine ⟨tri_ret ?_, rfl⟩
              rw [← HL.out, ← i64_odd HMl.out HP.out]
              try rfl
          · have hb9 : ((k : Int) == 9) = false := by simp; omega
            have hb0 : ((s[p + k].toNat : Int) == 0) = false := by simp; omega
            go_wp2
            all_goals
              go_ret3
              refine ⟨tri_ret ?_, rfl⟩
              rw [← HL.out, ← i64_odd HMl.out HP.out]
              try rfl
          · have hb9 : ((k : Int) == 9) = false := by simp; omega
            have hb0 : ((s[p + k].toNat : Int) == 0) = true := by simp; omega
            go_wp2
            all_goals
              go_ret3
              refine ⟨tri_ret ?_, rfl⟩
              rw [← HL.out, ← i64_odd HMl.out HP.out]
              try rfl
        · have hpar' : M % 2 = 0 := by omega
          have hb1 : (bits .and .u64 (M : Int) 1 == 1) = false := by rw [beq_eq_false_iff_ne, hand, hpar']; decide
          have HP := Lib.hid hpar'
          clear hpar hpar' hand
          rcases show (9 ≤ k ∧ s[p + k].toNat ≤ 1 ∧ 0 < s[p + k].toNat) ∨ (k < 9 ∧ 0 < s[p + k].toNat) ∨ (k < 1 ∧ s[p + k].toNat < 1) by omega with ⟨a1, a2, a3⟩ | ⟨a1, a3⟩ | ⟨a1, a3⟩
          · have hb9 : ((k : Int) == 9) = true := by simp; omega
            have hb0 : ((s[p + k].toNat : Int) == 0) = false := by simp; omega
            go_wp2
            all_goals
              go_ret3
              refine ⟨tri_ret ?_, rfl⟩
              rw [← HL.out, ← i64_even HMl.out HP.out]
              try rfl
          · have hb9 : ((k : Int) == 9) = false := by simp; omega
            have hb0 : ((s[p + k].toNat : Int) == 0) = false := by simp; omega
            go_wp2
            all_goals
              go_ret3
              refine ⟨tri_ret ?_, rfl⟩
              rw [← HL.out, ← i64_even HMl.out HP.out]
              try rfl
          · have hb9 : ((k : Int) == 9) = false := by simp; omega
            have hb0 : ((s[p + k].toNat : Int) == 0) = true := by simp; omega
            go_wp2
            all_goals
              go_ret3
              refine ⟨tri_ret ?_, rfl⟩
              rw [← HL.out, ← i64_even HMl.out HP.out]
              try rfl
    · go_wp2
      go_ret3
      exact ⟨tri_ret (getU_nil' (bytes_drop_nil s _ (by omega)) HU.out), rfl⟩

set_option maxRecDepth 100000 in
set_option maxHeartbeats 400000 in
theorem refGetInt_any (s : ByteArray) (at_ : Int) (w : World) (hs : s.size ≤ maxLen) :
    Calls Tryz.prog 73 #[.string s, .int .i64 at_] w fun e w' => e = .returned (tri (getInt s.data.toList at_)) ∧ w = w' := by
  by_cases h : at_ < 0 ∨ (s.size : Int) < at_
  · have hg : getInt s.data.toList at_ = (0, at_, 3) := by
      unfold getInt; rw [if_pos (by simpa using h)]
    rw [hg]
    unfold maxLen at hs
    rcases h with h | h
    all_goals
      go_enter Tryz.func73, Tryz.ntmps73
      go_wp2
      go_ret3
      exact ⟨rfl, rfl⟩
  · obtain ⟨p, rfl⟩ := Int.eq_ofNat_of_zero_le (show 0 ≤ at_ by omega)
    exact refGetInt_in s p w hs (by omega)
end Go.Proofs.YtikcfoobfobmnaaGreatDoor
/-
  The walk through the reference's GetList.
-/
namespace Go.Proofs.YtikcfoobfobmnaaGreatDoor
open Go.RowKit ND


set_option maxRecDepth 100000 in
set_option maxHeartbeats 2000000 in
theorem refGetListO_any (s : ByteArray) (at_ : Int) (w : World) (hs : s.size ≤ maxLen) :
    Calls Tryz.prog 72 #[.string s, .int .i64 at_] w (RetGetO w (getList s.data.toList at_)) := by
  obtain ⟨i0, hi, hz0, hz1, hz2⟩ := info_parts Tryz.infoInt'
  have hget := Lib.hid (fun W => refGetInt_any s at_ W hs)
  obtain ⟨n, q, e, hg⟩ : ∃ n q e, getInt s.data.toList at_ = (n, q, e) := ⟨_, _, _, rfl⟩
  rw [hg] at hget
  unfold tri at hget
  simp only at hget
  have HG := Lib.hid hg; clear hg
  go_enter Tryz.func72, Tryz.ntmps72
  go_wp2_with fail
  refine (hget.out _).mono ?_
  rintro r w1 ⟨rfl, rfl⟩
  clear hget
  by_cases he : e = 0
  · subst he
    by_cases hn : n < 0 ∨ 4096 < n
    · have HR := Lib.hid (getList_form HG.out hn)
      have hn' : (n < 0 ∧ decide (n < 0) = true) ∨ (4096 < n ∧ decide (n < 0) = false ∧ decide (4096 < n) = true) := by
        rcases hn with h | h
        · exact .inl ⟨h, by simp; omega⟩
        · exact .inr ⟨h, by simp; omega, by simp; omega⟩
      clear hn
      rcases hn' with ⟨hn, hd⟩ | ⟨hn, hd, hd'⟩
      all_goals
        go_wp2_with fail
        go_ret3
        rw [HR.out]
        exact ⟨_, rfl, World.ownsRow_nil _ _ _ _, Below.refl _ _⟩
    · obtain ⟨m, rfl⟩ := Int.eq_ofNat_of_zero_le (show 0 ≤ n by omega)
      have hm : m ≤ 4096 := by omega
      have HR := Lib.hid (getList_go HG.out hm)
      have hd0 : decide ((m : Int) < 0) = false := by simp
      have hd : decide (4096 < (m : Int)) = false := by simp; omega
      clear hn
      go_wp2_with fail
      go_loopw [8, 10, 11, 12] (fun iv out lv kv wr => ∃ (k : Nat) (last p : Int) (acc : List Int), k ≤ m ∧ kv = .int .i64 k ∧ lv = .int .i64 last ∧ iv = .int .i64 p ∧ -1073741824 ≤ last ∧ last ≤ 1073741824 ∧ wr.ownsRow w.heap.size 3 1 out acc.length (acc.map (Value.int .i64)) ∧ acc.length ≤ k ∧
          Hid (finL at_ acc (getL s.data.toList (m - k) last p) = finL at_ [] (getL s.data.toList m 0 q)) ∧ Below w.heap.size w wr) (fun _ _ _ kv _ => m - (intOf kv).toNat)
      case atStart => exact ⟨0, 0, q, [], by omega, rfl, rfl, rfl, by omega, by omega, World.ownsRow_nil _ _ _ _, by simp, Lib.hid rfl, Below.refl _ _⟩
      case round =>
        obtain ⟨k, last, p, acc, hk, rfl, rfl, rfl, hl1, hl2, hown, hal, HU, hbel⟩ := hrel
        by_cases hlt : k < m
        · have hget := Lib.hid (fun W => refGetInt_any s p W hs)
          obtain ⟨d, q1, e, hg⟩ : ∃ d q1 e, getInt s.data.toList p = (d, q1, e) := ⟨_, _, _, rfl⟩
          rw [hg] at hget
          unfold tri at hget
          simp only at hget
          have HG1 := Lib.hid hg; clear hg
          obtain ⟨j, hj⟩ : ∃ j, m - k = j + 1 := ⟨m - k - 1, by omega⟩
          rw [hj] at HU
          have HJ := Lib.hid hj; clear hj
          go_wp2_with fail
          refine (hget.out _).mono ?_
          rintro r w1 ⟨rfl, rfl⟩
          clear hget
          by_cases he : e = 0
          · subst he
            cases hok : okD last d
            · have HX : Hid (getList s.data.toList at_ = ([], at_, 4)) := Lib.hid (by rw [HR.out, ← HU.out, finL_form HG1.out hok])
              have hcase : (d < -2147483648 ∧ decide (d < -2147483648) = true) ∨ (2147483648 < d ∧ decide (d < -2147483648) = false ∧ decide (2147483648 < d) = true) ∨ (-2147483648 ≤ d ∧ d ≤ 2147483648 ∧ fitsB (last + d) = false) := by
                unfold okD at hok
                rw [Bool.and_eq_false_iff] at hok
                by_cases a : -2147483648 ≤ d
                · by_cases b : d ≤ 2147483648
                  · refine .inr (.inr ⟨a, b, hok.resolve_left ?_⟩)
                    simp; omega
                  · exact .inr (.inl ⟨by omega, by simp; omega, by simp; omega⟩)
                · exact .inl ⟨by omega, by simp; omega⟩
              clear hok
              rcases hcase with ⟨h1, h2⟩ | ⟨h1, h2, h3⟩ | ⟨h1, h2, h3⟩
              · go_wp2_with fail
                go_ret3
                rw [HX.out]
                exact ⟨_, rfl, World.ownsRow_nil _ _ _ _, hbel⟩
              · go_wp2_with fail
                go_ret3
                rw [HX.out]
                exact ⟨_, rfl, World.ownsRow_nil _ _ _ _, hbel⟩
              · have hft := Lib.hid (fun W => moderate_any (last + d) W)
                rw [h3] at hft
                have h4 : decide (d < -2147483648) = false := by simp; omega
                have h5 : decide (2147483648 < d) = false := by simp; omega
                clear h3
                go_wp2_with fail
                refine (hft.out _).mono ?_
                rintro r w2 ⟨rfl, rfl⟩
                go_wp2_with fail
                go_ret3
                rw [HX.out]
                exact ⟨_, rfl, World.ownsRow_nil _ _ _ _, hbel⟩
            · have hr : -2147483648 ≤ d ∧ d ≤ 2147483648 ∧ fitsB (last + d) = true := by
                unfold okD at hok
                rw [Bool.and_eq_true, decide_eq_true_eq] at hok
                exact ⟨hok.1.1, hok.1.2, hok.2⟩
              have HX : Hid (finL at_ (acc ++ [last + d]) (getL s.data.toList (m - (k + 1)) (last + d) q1) = finL at_ [] (getL s.data.toList m 0 q)) :=
                Lib.hid (by rw [← HU.out, finL_go HG1.out hok, show m - (k + 1) = j by have := HJ.out; omega])
              obtain ⟨h1, h2, h3⟩ := hr
              have hft := Lib.hid (fun W => moderate_any (last + d) W)
              rw [h3] at hft
              have hf2 := (fitsB_iff _).1 h3
              have h4 : decide (d < -2147483648) = false := by simp; omega
              have h5 : decide (2147483648 < d) = false := by simp; omega
              clear h3 hok HU
              go_wp2_with fail
              refine (hft.out _).mono ?_
              rintro r w2 ⟨rfl, rfl⟩
              go_wp2_with (at_builtin; refine wpList_append_own _ rfl _ _ 22 rfl w.heap.size 3 i0 (.int .i64 0) 1 8 Tryz.underlying22 hi hz0 hz1 hz2 rfl (by decide) _ _ _ rfl (hown.alloc _) ⟨wr.heap.size, 0, none⟩ 1 1 [.int .i64 (last + d)] rfl rfl (cell_one_new _ _ _) ?c1 ?c2 ?c3 ?c4 ?_)
              case c1 => intro u hu; simp at hu; subst hu; rfl
              case c2 => unfold maxLen; omega
              case c3 => omega
              case c4 => have := hbel.size; simp; omega
              intro v' w2 hown2 hgrow _
              have hbel2 : Below w.heap.size w w2 := below_own hbel hown hgrow
              clear hgrow hown hbel
              go_wp2_with fail
              go_roundw
              case rel => exact ⟨k + 1, last + d, q1, acc ++ [last + d], by omega, by go_num, rfl, rfl, by omega, by omega, by simpa using hown2, by simp; omega, HX, hbel2⟩
              case measure => simp [intOf]; omega
          · have HX : Hid (getList s.data.toList at_ = ([], at_, e)) := Lib.hid (by rw [HR.out, ← HU.out, finL_err HG1.out he])
            have hne' : (e != 0) = true := by rw [bne_iff_ne]; exact he
            go_wp2_with fail
            go_ret3
            rw [HX.out]
            exact ⟨_, rfl, World.ownsRow_nil _ _ _ _, hbel⟩
        · obtain rfl : k = m := by omega
          have HX : Hid (getList s.data.toList at_ = (acc, p, 0)) := by
            refine Lib.hid ?_
            rw [HR.out, ← HU.out, Nat.sub_self, finL_end]
          go_wp2_with fail
          go_ret3
          rw [HX.out]
          exact ⟨_, rfl, hown, hbel⟩
  · have HR := Lib.hid (getList_err HG.out he)
    have hne' : (e != 0) = true := by rw [bne_iff_ne]; exact he
    go_wp2_with fail
    go_ret3
    rw [HR.out]
    exact ⟨_, rfl, World.ownsRow_nil _ _ _ _, Below.refl _ _⟩
theorem refGetList_any (s : ByteArray) (at_ : Int) (w : World) (hs : s.size ≤ maxLen) :
    Calls Tryz.prog 72 #[.string s, .int .i64 at_] w (RetGet w (getList s.data.toList at_)) :=
  (refGetListO_any s at_ w hs).mono fun _ _ ⟨v, e, ho, hb⟩ => ⟨v, e, Ints.of_own ho, hb⟩
end Go.Proofs.YtikcfoobfobmnaaGreatDoor
/-
  The walk through the reference's GetSpans.
-/
namespace Go.Proofs.YtikcfoobfobmnaaGreatDoor
open Go.RowKit ND

theorem flat_len (acc : List Sp) : (acc.flatMap spCells).length = acc.length * 3 := by
  induction acc with
  | nil => rfl
  | cons a r ih => simp only [List.flatMap_cons, List.length_append, ih, List.length_cons]; have : (spCells a).length = 3 := rfl; omega
theorem flat_set1 (acc : List Sp) (f t v u : Int) : ((acc ++ [(f, t, v)]).flatMap spCells).set (acc.length * 3 + 1) (.int .i64 u) = (acc ++ [(f, u, v)]).flatMap spCells := by
  rw [spans_snoc, spans_snoc, List.set_append_right _ _ (by rw [flat_len]; omega), flat_len, show acc.length * 3 + 1 - acc.length * 3 = 1 by omega]; rfl
theorem flat_set2 (acc : List Sp) (f t v u : Int) : ((acc ++ [(f, t, v)]).flatMap spCells).set (acc.length * 3 + 2) (.int .i64 u) = (acc ++ [(f, t, u)]).flatMap spCells := by
  rw [spans_snoc, spans_snoc, List.set_append_right _ _ (by rw [flat_len]; omega), flat_len, show acc.length * 3 + 2 - acc.length * 3 = 2 by omega]; rfl

/-- A row of spans of the call's own: the last span's cells, and what a store into them makes. -/
theorem own_last {w : World} {base : Nat} {v : Value} {acc : List Sp} {f t x : Int} (h : w.ownsRow base 61 3 v (acc ++ [(f, t, x)]).length ((acc ++ [(f, t, x)]).flatMap spCells)) :
    ∃ g cap, v = .slice (some ⟨g, 0, none⟩) (acc.length + 1) cap ∧ base ≤ g ∧ g < w.heap.size ∧ w.cell? ⟨g, acc.length * 3, none⟩ = some (.int .i64 f) ∧ w.cell? ⟨g, acc.length * 3 + 1, none⟩ = some (.int .i64 t) ∧ w.cell? ⟨g, acc.length * 3 + 2, none⟩ = some (.int .i64 x) ∧
      (∀ j, w.frozen? ⟨g, j, none⟩ = false) ∧
      (∀ u, (w.setCell ⟨g, acc.length * 3 + 1, none⟩ (.int .i64 u)).ownsRow base 61 3 v (acc ++ [(f, u, x)]).length ((acc ++ [(f, u, x)]).flatMap spCells)) ∧
      (∀ u, (w.setCell ⟨g, acc.length * 3 + 2, none⟩ (.int .i64 u)).ownsRow base 61 3 v (acc ++ [(f, t, u)]).length ((acc ++ [(f, t, u)]).flatMap spCells)) := by
  have hl : (acc ++ [(f, t, x)]).length = acc.length + 1 := by simp
  rw [hl] at h
  obtain ⟨g, cap, hv, hlo, hhi⟩ := h.form (by omega)
  subst hv
  have hx : (acc ++ [(f, t, x)])[acc.length]? = some (f, t, x) := by simp
  obtain ⟨a, b, c⟩ := spCells_at hx
  refine ⟨g, cap, rfl, hlo, hhi, ?_, ?_, ?_, fun j => h.frozenAt j, fun u => ?_, fun u => ?_⟩
  · rw [h.cellAt _ (by omega)]; exact a
  · rw [h.cellAt _ (by omega)]; exact b
  · rw [h.cellAt _ (by omega)]; exact c
  · have := h.stored (acc.length * 3 + 1) (.int .i64 u)
    rw [flat_set1] at this
    simpa using this.1
  · have := h.stored (acc.length * 3 + 2) (.int .i64 u)
    rw [flat_set2] at this
    simpa using this.1

set_option maxRecDepth 100000 in
set_option maxHeartbeats 2000000 in
theorem refGetSpansO_any (s : ByteArray) (at_ : Int) (w : World) (hs : s.size ≤ maxLen) :
    Calls Tryz.prog 70 #[.string s, .int .i64 at_] w (RetSpansO w (getSpans s.data.toList at_)) := by
  obtain ⟨i0, hi, hz0, hz1, hz2⟩ := info_parts Tryz.infoSpan
  have hget := Lib.hid (fun W => refGetInt_any s at_ W hs)
  obtain ⟨n, q, e, hg⟩ : ∃ n q e, getInt s.data.toList at_ = (n, q, e) := ⟨_, _, _, rfl⟩
  rw [hg] at hget
  unfold tri at hget
  simp only at hget
  have HG := Lib.hid hg; clear hg
  go_enter Tryz.func70, Tryz.ntmps70
  go_wp2_with fail
  refine (hget.out _).mono ?_
  rintro r w1 ⟨rfl, rfl⟩
  clear hget
  by_cases he : e = 0
  · subst he
    by_cases hn : n < 0 ∨ 256 < n
    · have HR := Lib.hid (getSpans_form HG.out hn)
      have hn' : (n < 0 ∧ decide (n < 0) = true) ∨ (256 < n ∧ decide (n < 0) = false ∧ decide (256 < n) = true) := by
        rcases hn with h | h
        · exact .inl ⟨h, by simp; omega⟩
        · exact .inr ⟨h, by simp; omega, by simp; omega⟩
      clear hn
      rcases hn' with ⟨hn, hd⟩ | ⟨hn, hd, hd'⟩
      all_goals
        go_wp2_with fail
        go_ret3
        rw [HR.out]
        exact ⟨_, rfl, World.ownsRow_nil _ _ _ _, Below.refl _ _⟩
    · obtain ⟨m, rfl⟩ := Int.eq_ofNat_of_zero_le (show 0 ≤ n by omega)
      have hm : m ≤ 256 := by omega
      obtain ⟨Z, hZ⟩ : ∃ Z, Z = getSpans s.data.toList at_ := ⟨_, rfl⟩
      rw [← hZ]
      have HZ : Hid (finS at_ [] (getS s.data.toList (m - 0) 0 0 q) = Z) := Lib.hid (by rw [hZ, getSpans_go HG.out hm]; rfl)
      have hd0 : decide ((m : Int) < 0) = false := by simp
      have hd : decide (256 < (m : Int)) = false := by simp; omega
      have HZE := Lib.hid hZ
      clear hn hZ HG
      go_wp2_with fail
      go_loopw [8, 10, 11, 12] (fun iv out lv kv wr => ∃ (k i : Nat) (last p : Int) (acc : List Sp), i ≤ m ∧ kv = .int .i64 k ∧ iv = .int .i64 p ∧ lv = .int .i64 last ∧ 0 ≤ last ∧ last ≤ 1114111 ∧ acc.length = i ∧ Below w.heap.size w wr ∧
          ((Hid (k = 3 * i) ∧ wr.ownsRow w.heap.size 61 3 out acc.length (acc.flatMap spCells) ∧ Hid (∃ gap, (k = 0 ∧ gap = 0 ∨ 0 < k ∧ gap = 1) ∧ finS at_ acc (getS s.data.toList (m - i) last gap p) = Z)) ∨
           (Hid (k = 3 * i + 1) ∧ i < m ∧ ∃ f, 0 ≤ f ∧ f ≤ 1114111 ∧ wr.ownsRow w.heap.size 61 3 out (acc ++ [(f, 0, 0)]).length ((acc ++ [(f, 0, 0)]).flatMap spCells) ∧
              Hid (∃ gap p0 d j, f = last + d ∧ getInt s.data.toList p0 = (d, p, 0) ∧ gap ≤ d ∧ d ≤ 1114111 - last ∧ m - i = j + 1 ∧ finS at_ acc (getS s.data.toList (j + 1) last gap p0) = Z)) ∨
           (Hid (k = 3 * i + 2) ∧ i < m ∧ ∃ f, wr.ownsRow w.heap.size 61 3 out (acc ++ [(f, last, 0)]).length ((acc ++ [(f, last, 0)]).flatMap spCells) ∧
              Hid (∃ l0 gap p0 d q d2 j, f = l0 + d ∧ last = l0 + d + d2 ∧ getInt s.data.toList p0 = (d, q, 0) ∧ gap ≤ d ∧ d ≤ 1114111 - l0 ∧ getInt s.data.toList q = (d2, p, 0) ∧ 0 ≤ d2 ∧ d2 ≤ 1114111 - (l0 + d) ∧ m - i = j + 1 ∧ finS at_ acc (getS s.data.toList (j + 1) l0 gap p0) = Z)))) (fun _ _ _ kv _ => 3 * m - (intOf kv).toNat)
      case atStart => exact ⟨0, 0, 0, q, [], by omega, rfl, rfl, rfl, by omega, by omega, rfl, Below.refl _ _, .inl ⟨Lib.hid rfl, World.ownsRow_nil _ _ _ _, Lib.hid ⟨0, .inl ⟨rfl, rfl⟩, HZ.out⟩⟩⟩
      case round =>
        obtain ⟨k, i, last, p, acc, hi', rfl, rfl, rfl, hl1, hl2, hacc, hbel, hcase⟩ := hrel
        clear HZ
        have hget := Lib.hid (fun W => refGetInt_any s p W hs)
        obtain ⟨d, q1, e, hg⟩ : ∃ d q1 e, getInt s.data.toList p = (d, q1, e) := ⟨_, _, _, rfl⟩
        rw [hg] at hget
        unfold tri at hget
        simp only at hget
        have HG1 := Lib.hid hg; clear hg
        rcases hcase with ⟨HK, hown, HP⟩ | ⟨HK, him, f, hf0, hf1, hown, HP⟩ | ⟨HK, him, f, hown, HP⟩
        · subst hacc
          by_cases hlt : acc.length < m
          · have hk := HK.out
            have hlt3 : (k : Int) < 3 * (m : Int) := by omega
            have b0 : ((k : Int) % 3 == 0) = true := by rw [beq_iff_eq]; omega
            obtain ⟨j, hj⟩ : ∃ j, m - acc.length = j + 1 := ⟨m - acc.length - 1, by omega⟩
            rw [hj] at HP
            have HJ := Lib.hid hj; clear hj hk
            obtain ⟨gap, hgap, hfin⟩ := HP.out
            have HF := Lib.hid hfin; clear hfin HP
            have hgap' : (k = 0 ∧ gap = 0 ∧ decide (0 < (k : Int)) = false) ∨ (0 < k ∧ gap = 1 ∧ decide (0 < (k : Int)) = true) := by
              rcases hgap with ⟨h, h'⟩ | ⟨h, h'⟩
              · exact .inl ⟨h, h', by simp; omega⟩
              · exact .inr ⟨h, h', by simp; omega⟩
            have HGAP := Lib.hid hgap'
            clear hgap hgap'
            go_wp2_with fail
            refine (hget.out _).mono ?_
            rintro r w1 ⟨rfl, rfl⟩
            clear hget
            by_cases he : e = 0
            · subst he
              by_cases hbad : d < gap ∨ 1114111 - last < d
              · have HX : Hid (([], at_, 4) = Z) := Lib.hid (by rw [← HF.out, finS_f1 HG1.out hbad])
                have hw : (decide (d < 0) = true) ∨ (decide (d < 0) = false ∧ decide (1114111 - last < d) = true) ∨ (decide (d < 0) = false ∧ decide (1114111 - last < d) = false ∧ decide (0 < (k : Int)) = true ∧ decide (0 < k) = true ∧ (d == 0) = true) := by
                  simp only [decide_eq_true_eq, decide_eq_false_iff_not, beq_iff_eq]
                  have := HGAP.out
                  simp only [decide_eq_true_eq, decide_eq_false_iff_not] at this
                  omega
                clear hbad
                rcases hw with y1 | ⟨y1, y2⟩ | ⟨y1, y2, y3, y5, y4⟩
                all_goals
                  go_wp2_with fail
                  go_ret3
                  rw [← HZE.out, ← HX.out]
                  exact ⟨_, rfl, World.ownsRow_nil _ _ _ _, hbel⟩
              · have hge : gap ≤ d := by omega
                have hle : d ≤ 1114111 - last := by omega
                have HN : Hid (∃ gap p0 d' j, last + d = last + d' ∧ getInt s.data.toList p0 = (d', q1, 0) ∧ gap ≤ d' ∧ d' ≤ 1114111 - last ∧ m - acc.length = j + 1 ∧ finS at_ acc (getS s.data.toList (j + 1) last gap p0) = Z) :=
                  Lib.hid ⟨gap, p, d, j, rfl, HG1.out, hge, hle, HJ.out, HF.out⟩
                have y1 : decide (d < 0) = false := by have := HGAP.out; simp; omega
                have y2 : decide (1114111 - last < d) = false := by simp; omega
                have hw : decide (0 < (k : Int)) = false ∨ (decide (0 < (k : Int)) = true ∧ (d == 0) = false) := by
                  have := HGAP.out
                  simp only [decide_eq_true_eq, decide_eq_false_iff_not, beq_eq_false_iff_ne, ne_eq] at this ⊢
                  omega
                have hd1 : 0 ≤ d := by have := HGAP.out; omega
                clear hbad hge
                have hw' : (decide (0 < (k : Int)) = false ∧ decide (0 < k) = false) ∨ (decide (0 < (k : Int)) = true ∧ decide (0 < k) = true ∧ (d == 0) = false) := by
                  rcases hw with h | ⟨h, h'⟩
                  · exact .inl ⟨h, by rw [decide_eq_false_iff_not] at h ⊢; omega⟩
                  · exact .inr ⟨h, by rw [decide_eq_true_eq] at h ⊢; omega, h'⟩
                clear hw
                rcases hw' with ⟨y3, y5⟩ | ⟨y3, y5, y4⟩
                all_goals
                  go_wp2_with (at_builtin; refine wpList_append_own _ rfl _ _ 26 rfl w.heap.size 61 i0 (.agg #[.int .i64 0, .int .i64 0, .int .i64 0]) 3 24 Tryz.underlying26 hi hz0 hz1 hz2 rfl (by decide) _ _ _ rfl (hown.alloc _) ⟨wr.heap.size, 0, none⟩ 1 1 [.int .i64 (last + d), .int .i64 0, .int .i64 0] rfl rfl (World.news_of_block (cs := #[.int .i64 (last + d), .int .i64 0, .int .i64 0]) (heap_alloc_new wr _)) ?c1 ?c2 ?c3 ?c4 ?_)
                  case c1 => intro u hu; simp at hu; rcases hu with rfl | rfl | rfl <;> rfl
                  case c2 => unfold maxLen; omega
                  case c3 => omega
                  case c4 => have := hbel.size; simp; omega
                  intro v' w2 hown2 hgrow _
                  have hbel2 : Below w.heap.size w w2 := below_own hbel hown hgrow
                  have HK2 : Hid (k + 1 = 3 * acc.length + 1) := Lib.hid (by rw [HK.out])
                  clear hgrow hown hbel
                  go_wp2_with fail
                  go_roundw
                  case rel => exact ⟨k + 1, acc.length, last, q1, acc, hi', by go_num, rfl, rfl, hl1, hl2, rfl, hbel2, .inr (.inl ⟨HK2, hlt, last + d, by omega, by omega, by rw [spans_snoc, List.length_append]; exact hown2, HN⟩)⟩
                  case measure => simp [intOf]; omega
            · have HX : Hid (([], at_, e) = Z) := Lib.hid (by rw [← HF.out, finS_e1 HG1.out he])
              have hne' : (e != 0) = true := by rw [bne_iff_ne]; exact he
              go_wp2_with fail
              go_ret3
              rw [← HZE.out, ← HX.out]
              exact ⟨_, rfl, World.ownsRow_nil _ _ _ _, hbel⟩
          · have him : acc.length = m := by omega
            have hk := HK.out
            have hlt3 : decide ((k : Int) < 3 * (m : Int)) = false := by rw [decide_eq_false_iff_not]; omega
            have HX : Hid ((acc, p, 0) = Z) := by
              obtain ⟨gap, _, hfin⟩ := HP.out
              rw [show m - acc.length = 0 by omega, finS_end] at hfin
              exact Lib.hid hfin
            clear hk hget him hlt
            go_wp2_with fail
            go_ret3
            rw [← HZE.out, ← HX.out]
            exact ⟨_, rfl, hown, hbel⟩
        · have hk := HK.out
          have hlt3 : (k : Int) < 3 * (m : Int) := by omega
          have b0 : ((k : Int) % 3 == 0) = false := by rw [beq_eq_false_iff_ne]; omega
          have b1 : ((k : Int) % 3 == 1) = true := by rw [beq_iff_eq]; omega
          have HK2 : Hid (k + 1 = 3 * i + 2) := Lib.hid (by omega)
          clear hk HK
          obtain ⟨gap, p0, d0, j, hfd, hg0, hge, hle, hj, hfin⟩ := HP.out
          have HFD := Lib.hid hfd
          have HG0 := Lib.hid hg0
          have HJ := Lib.hid hj
          have HF := Lib.hid hfin
          clear HP hfd hg0 hj hfin
          obtain ⟨g, cap, rfl, hglo, hghi, c0, c1, _, hfree, hst1, _⟩ := own_last hown
          have f1 := hfree (acc.length * 3 + 1)
          have HST := Lib.hid hst1
          clear hst1 hfree hown
          subst hacc
          have k0 : (0 : Int) ≤ (acc.length : Int) := by omega
          have k1 : (acc.length : Int) < (acc.length : Int) + 1 := by omega
          go_wp2_with fail
          refine (hget.out _).mono ?_
          rintro r w1 ⟨rfl, rfl⟩
          clear hget
          by_cases he : e = 0
          · subst he
            by_cases hbad : d < 0 ∨ 1114111 - f < d
            · have HX : Hid (([], at_, 4) = Z) := Lib.hid (by rw [← HF.out, finS_f2 HG0.out hge hle HG1.out (by rw [← HFD.out]; exact hbad)])
              have hw : (decide (d < 0) = true) ∨ (decide (d < 0) = false ∧ decide (1114111 - f < d) = true) := by
                simp only [decide_eq_true_eq, decide_eq_false_iff_not]; omega
              clear hbad
              rcases hw with y1 | ⟨y1, y2⟩
              all_goals
                go_wp2_with fail
                go_ret3
                rw [← HZE.out, ← HX.out]
                exact ⟨_, rfl, World.ownsRow_nil _ _ _ _, hbel⟩
            · have hd0 : 0 ≤ d := by omega
              have hd1 : d ≤ 1114111 - f := by omega
              have y1 : decide (d < 0) = false := by simp; omega
              have y2 : decide (1114111 - f < d) = false := by simp; omega
              have HN : Hid (∃ l0 gap p0 d' q d2 j, f = l0 + d' ∧ f + d = l0 + d' + d2 ∧ getInt s.data.toList p0 = (d', q, 0) ∧ gap ≤ d' ∧ d' ≤ 1114111 - l0 ∧ getInt s.data.toList q = (d2, q1, 0) ∧ 0 ≤ d2 ∧ d2 ≤ 1114111 - (l0 + d') ∧ m - acc.length = j + 1 ∧ finS at_ acc (getS s.data.toList (j + 1) l0 gap p0) = Z) :=
                Lib.hid ⟨last, gap, p0, d0, p, d, j, HFD.out, by rw [HFD.out], HG0.out, hge, hle, HG1.out, hd0, by rw [← HFD.out]; exact hd1, HJ.out, HF.out⟩
              have hbel2 := hbel.setCell (p := ⟨g, acc.length * 3 + 1, none⟩) hglo (.int .i64 (f + d))
              clear hbad
              go_wp2_with fail
              go_roundw
              case rel => exact ⟨k + 1, acc.length, f + d, q1, acc, hi', by go_num, rfl, by first | rfl | go_num, by omega, by omega, rfl, hbel2, .inr (.inr ⟨HK2, him, f, HST.out (f + d), HN⟩)⟩
              case measure => simp [intOf]; omega
          · have HX : Hid (([], at_, e) = Z) := Lib.hid (by rw [← HF.out, finS_e2 HG0.out hge hle HG1.out he])
            have hne' : (e != 0) = true := by rw [bne_iff_ne]; exact he
            go_wp2_with fail
            go_ret3
            rw [← HZE.out, ← HX.out]
            exact ⟨_, rfl, World.ownsRow_nil _ _ _ _, hbel⟩
        · have hk := HK.out
          have hlt3 : (k : Int) < 3 * (m : Int) := by omega
          have b0 : ((k : Int) % 3 == 0) = false := by rw [beq_eq_false_iff_ne]; omega
          have b1 : ((k : Int) % 3 == 1) = false := by rw [beq_eq_false_iff_ne]; omega
          have HK2 : Hid (k + 1 = 3 * (i + 1)) := Lib.hid (by omega)
          clear hk HK
          obtain ⟨l0, gap, p0, d0, q0, d2, j, hfd, hlast, hg0, hge, hle, hg2, hge2, hle2, hj, hfin⟩ := HP.out
          have HFD := Lib.hid hfd
          have HLS := Lib.hid hlast
          have HG0 := Lib.hid hg0
          have HG2 := Lib.hid hg2
          have HJ := Lib.hid hj
          have HF := Lib.hid hfin
          clear HP hfd hlast hg0 hg2 hj hfin
          obtain ⟨g, cap, rfl, hglo, hghi, _, _, c2, hfree, _, hst2⟩ := own_last hown
          have f2 := hfree (acc.length * 3 + 2)
          have HST := Lib.hid hst2
          clear hst2 hfree hown
          subst hacc
          have k0 : (0 : Int) ≤ (acc.length : Int) := by omega
          have k1 : (acc.length : Int) < (acc.length : Int) + 1 := by omega
          go_wp2_with fail
          refine (hget.out _).mono ?_
          rintro r w1 ⟨rfl, rfl⟩
          clear hget
          by_cases he : e = 0
          · subst he
            have hft := Lib.hid (fun W => moderate_any d W)
            cases hf : fitsB d
            · have HX : Hid (([], at_, 4) = Z) := Lib.hid (by rw [← HF.out, finS_f3 HG0.out hge hle HG2.out hge2 hle2 HG1.out hf])
              rw [hf] at hft
              clear hf
              go_wp2_with fail
              refine (hft.out _).mono ?_
              rintro r w2 ⟨rfl, rfl⟩
              go_wp2_with fail
              go_ret3
              rw [← HZE.out, ← HX.out]
              exact ⟨_, rfl, World.ownsRow_nil _ _ _ _, hbel⟩
            · have HN : Hid (∃ gap, (k + 1 = 0 ∧ gap = 0 ∨ 0 < k + 1 ∧ gap = 1) ∧ finS at_ (acc ++ [(f, last, d)]) (getS s.data.toList (m - (acc.length + 1)) last gap q1) = Z) := by
                refine Lib.hid ⟨1, .inr ⟨by omega, rfl⟩, ?_⟩
                rw [← HF.out, finS_go HG0.out hge hle HG2.out hge2 hle2 HG1.out hf, ← HFD.out, HFD.out, ← HLS.out, show m - (acc.length + 1) = j by have := HJ.out; omega]
              rw [hf] at hft
              have hbel2 := hbel.setCell (p := ⟨g, acc.length * 3 + 2, none⟩) hglo (.int .i64 d)
              clear hf
              go_wp2_with fail
              refine (hft.out _).mono ?_
              rintro r w2 ⟨rfl, rfl⟩
              go_wp2_with fail
              go_roundw
              case rel => exact ⟨k + 1, acc.length + 1, last, q1, acc ++ [(f, last, d)], by omega, by go_num, rfl, rfl, hl1, hl2, by simp, hbel2, .inl ⟨HK2, HST.out d, HN⟩⟩
              case measure => simp [intOf]; omega
          · have HX : Hid (([], at_, e) = Z) := Lib.hid (by rw [← HF.out, finS_e3 HG0.out hge hle HG2.out hge2 hle2 HG1.out he])
            have hne' : (e != 0) = true := by rw [bne_iff_ne]; exact he
            go_wp2_with fail
            go_ret3
            rw [← HZE.out, ← HX.out]
            exact ⟨_, rfl, World.ownsRow_nil _ _ _ _, hbel⟩
  · have HR := Lib.hid (getSpans_err HG.out he)
    have hne' : (e != 0) = true := by rw [bne_iff_ne]; exact he
    go_wp2_with fail
    go_ret3
    rw [HR.out]
    exact ⟨_, rfl, World.ownsRow_nil _ _ _ _, Below.refl _ _⟩
theorem refGetSpans_any (s : ByteArray) (at_ : Int) (w : World) (hs : s.size ≤ maxLen) :
    Calls Tryz.prog 70 #[.string s, .int .i64 at_] w (RetSpans w (getSpans s.data.toList at_)) :=
  (refGetSpansO_any s at_ w hs).mono fun _ _ ⟨v, e, ho, hb⟩ => ⟨v, e, Spans.of_own ho, hb⟩
end Go.Proofs.YtikcfoobfobmnaaGreatDoor
/-
  The encoding of tables, in plain Lean.
-/
namespace Go.Proofs.YtikcfoobfobmnaaGreatDoor
open Go.RowKit ND

def encCols (s : List UInt8) (l : List (List Sp)) : List UInt8 := l.foldl (fun s xs => (putSpans s xs).1) s
def encRow (s : List UInt8) (m : Mp) : List UInt8 := (putList (putInt s m.1) m.2).1
def encMp (s : List UInt8) (ms : List Mp) : List UInt8 := ms.foldl encRow (putInt s ms.length)
def encMps (s : List UInt8) (l : List (List Mp)) : List UInt8 := l.foldl encMp s
def magicL : List UInt8 := [78, 68, 84, 49]
def encCol (T : Tab) : List UInt8 := encCols magicL (T.cols.map (·.1))
def encBody (T : Tab) : List UInt8 := (putList (encMps (encCol T) T.mps) T.excluded).1
def encAllT (T : Tab) : List UInt8 := putInt (encBody T) (sumL (encBody T))
/-- What Encode hands back. -/
def encTR (T : Tab) : List UInt8 × Int := if T.check ≠ 0 then ([], 2) else if 32768 < (encAllT T).length then ([], 7) else (encAllT T, 0)
theorem encTR_bad {T : Tab} (h : T.check ≠ 0) : encTR T = ([], 2) := by unfold encTR; rw [if_pos h]
theorem encTR_full {T : Tab} (h : T.check = 0) (h2 : 32768 < (encAllT T).length) : encTR T = ([], 7) := by unfold encTR; rw [if_neg (by omega), if_pos h2]
theorem encTR_ok {T : Tab} (h : T.check = 0) (h2 : (encAllT T).length ≤ 32768) : encTR T = (encAllT T, 0) := by unfold encTR; rw [if_neg (by omega), if_neg (by omega)]

theorem putAll_lenT (xs : List Int) : ∀ b : List UInt8, (putAll b xs).length ≤ b.length + 10 * xs.length := by
  induction xs with
  | nil => intro b; simp [putAll]
  | cons x r ih =>
    intro b
    have h1 := ih (putInt b x)
    have h2 := putInt_len b x
    rw [List.length_cons]
    show (putAll (putInt b x) r).length ≤ _
    omega
theorem putList_lenT (b : List UInt8) (xs : List Int) : (putList b xs).1.length ≤ b.length + 10 * min xs.length 4096 + 10 := by
  by_cases h1 : 4096 < xs.length
  · rw [putList_full h1]; simp
  · cases h2 : xs.all fitsB
    · rw [putList_range (by omega) h2]; simp
    · rw [putList_ok (by omega) h2]
      have h3 := putAll_lenT (diffs 0 xs) (putInt b xs.length)
      have h4 := putInt_len b xs.length
      have h5 : ∀ (l : List Int) (k : Int), (diffs k l).length = l.length := by
        intro l
        induction l with
        | nil => intro k; rfl
        | cons x r ih => intro k; rw [diffs, List.length_cons, List.length_cons, ih]
      rw [h5] at h3
      show (putAll _ _).length ≤ _
      omega
theorem putSpans_lenT (b : List UInt8) (xs : List Sp) : (putSpans b xs).1.length ≤ b.length + 30 * min xs.length 256 + 10 := by
  cases h1 : checkS xs 0 1114111
  · rw [putSpans_arg h1]; simp
  · have hl := (checkS_all h1).1
    cases h2 : xs.all (fun s => fitsB s.2.2)
    · rw [putSpans_range h1 h2]; simp
    · rw [putSpans_ok h1 h2]
      have h3 := putAll_lenT (nums 0 xs) (putInt b xs.length)
      have h4 := putInt_len b xs.length
      have h5 : ∀ (l : List Sp) (k : Int), (nums k l).length = 3 * l.length := by
        intro l
        induction l with
        | nil => intro k; rfl
        | cons x r ih =>
          intro k
          obtain ⟨f, t, v⟩ := x
          rw [nums]
          simp only [List.length_cons, ih]; omega
      rw [h5] at h3
      show (putAll _ _).length ≤ _
      omega
theorem encRow_len (s : List UInt8) (m : Mp) : (encRow s m).length ≤ s.length + 41010 := by
  have h1 := putList_lenT (putInt s m.1) m.2
  have h2 := putInt_len s m.1
  unfold encRow; omega
theorem foldl_snoc {α β : Type} {f : β → α → β} {l : List α} {k : Nat} {x : α} (h : l[k]? = some x) (b : β) : (l.take (k + 1)).foldl f b = f ((l.take k).foldl f b) x := by
  obtain ⟨h1, e⟩ := List.getElem?_eq_some_iff.1 h
  rw [List.take_succ_eq_append_getElem h1, List.foldl_append, e]; rfl
theorem rows_len (ms : List Mp) (s : List UInt8) : (ms.foldl encRow s).length ≤ s.length + 41010 * ms.length := by
  induction ms generalizing s with
  | nil => simp
  | cons m r ih =>
    have h1 := ih (encRow s m)
    have h2 := encRow_len s m
    rw [List.foldl_cons, List.length_cons]; omega
theorem encMp_len (s : List UInt8) {ms : List Mp} (h : ms.length ≤ 256) : (encMp s ms).length ≤ s.length + 10498570 := by
  have h1 := rows_len ms (putInt s ms.length)
  have h2 := putInt_len s ms.length
  have h3 : 41010 * ms.length ≤ 41010 * 256 := Nat.mul_le_mul_left _ h
  unfold encMp; omega
theorem encCols_step {T : Tab} {k : Nat} {l : List Sp} {lo hi : Int} {s : List UInt8} (h : T.cols[k]? = some (l, lo, hi)) : encCols s ((T.cols.take (k + 1)).map (·.1)) = (putSpans (encCols s ((T.cols.take k).map (·.1))) l).1 := by
  unfold encCols
  rw [List.map_take, List.map_take]
  exact foldl_snoc (by rw [List.getElem?_map, h]; rfl) s
theorem encMps_step {T : Tab} {k : Nat} {ms : List Mp} {s : List UInt8} (h : T.mps[k]? = some ms) : encMps s (T.mps.take (k + 1)) = ms.foldl encRow (putInt (encMps s (T.mps.take k)) (ms.length : Int)) := by
  unfold encMps
  rw [foldl_snoc h]
  rfl
end Go.Proofs.YtikcfoobfobmnaaGreatDoor
