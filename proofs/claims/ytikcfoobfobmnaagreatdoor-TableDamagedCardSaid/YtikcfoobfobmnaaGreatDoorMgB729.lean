/-
  Merged texts: lemmas and walks that the last text of this claim leans on.
-/
import Derived.Test.YtikcfoobfobmnaaGreatDoorMgB728
import Derived.Test.YtikcfoobfobmnaaGreatDoorMgB72
import Derived.Test.YtikcfoobfobmnaaGreatDoorMgB71
import Derived.WalkSmall
import Derived.Test.YtikcfoobfobmnaaGreatDoorMgB723
import Derived.Test.YtikcfoobfobmnaaGreatDoorMgB76
/-
  The walk through packed.GetList.
-/
namespace Go.Proofs.YtikcfoobfobmnaaGreatDoor
open Go.RowKit ND


set_option maxHeartbeats 400000 in
theorem fits_any (v : Int) (w : World) : Calls Tryz.prog 108 #[.int .i64 v] w fun e w' => e = .returned (.bool (fitsB v)) ∧ w = w' := by
  go_enter Tryz.func108, Tryz.ntmps108
  go_wp2
  all_goals go_ret
  all_goals refine ⟨ret_bool (bool_eq ?_), rfl⟩
  all_goals rw [fitsB_iff]
  all_goals simp
  all_goals omega

/-- A row of the call's own lies above each smaller base, too. -/
theorem own_low {w : World} {B B' : Nat} {e : TypeId} {size : Nat} {v : Value} {n : Nat} {xs : List Value} (h : w.ownsRow B e size v n xs) (hB : B' ≤ B) : w.ownsRow B' e size v n xs :=
  ⟨h.1, h.2.imp id fun ⟨g, cap, cur, e1, hb, r⟩ => ⟨g, cap, cur, e1, Nat.le_trans hB hb, r⟩⟩
/-- The same, the list in a row of the call's own. -/
def RetGetO (w : World) (r : List Int × Int × Int) (e : Ending) (w' : World) : Prop :=
  ∃ v, e = .returned (.tuple #[v, .int .i64 r.2.1, .int .i64 r.2.2]) ∧ w'.ownsRow w.heap.size 3 1 v r.1.length (r.1.map (Value.int .i64)) ∧ Below w.heap.size w w'
/-- A list, an index and an error come back. -/
def RetGet (w : World) (r : List Int × Int × Int) (e : Ending) (w' : World) : Prop :=
  ∃ v, e = .returned (.tuple #[v, .int .i64 r.2.1, .int .i64 r.2.2]) ∧ Ints w' w'.heap.size .i64 v r.1 ∧ Below w.heap.size w w'

/-- What is made of the elements so far and of what is still to come. -/
def finL (at_ : Int) (acc : List Int) (q : Int × List Int × Int) : List Int × Int × Int := if q.1 ≠ 0 then ([], at_, q.1) else (acc ++ q.2.1, q.2.2, 0)

theorem getInt_err0 (s : List UInt8) (p : Int) (h : (getInt s p).2.2 ≠ 0) : (getInt s p).1 = 0 := by
  unfold getInt at h ⊢
  split
  · rfl
  · rename_i h1
    rw [if_neg h1] at h
    unfold finU at h ⊢
    split
    · rename_i h2; rw [if_pos h2] at h; exact absurd rfl h
    · rfl
theorem getList_err {s : List UInt8} {p n q e : Int} (h : getInt s p = (n, q, e)) (he : e ≠ 0) : getList s p = ([], p, e) := by unfold getList; rw [h, if_pos he]
theorem getList_form {s : List UInt8} {p n q : Int} (h : getInt s p = (n, q, 0)) (hn : n < 0 ∨ 4096 < n) : getList s p = ([], p, 4) := by unfold getList; rw [h]; simp only [ne_eq, not_true_eq_false, if_false]; rw [if_pos hn]
theorem getList_go {s : List UInt8} {p q : Int} {n : Nat} (h : getInt s p = ((n : Int), q, 0)) (hn : n ≤ 4096) : getList s p = finL p [] (getL s n 0 q) := by
  unfold getList; rw [h]; simp only [ne_eq, not_true_eq_false, if_false, Int.toNat_natCast]; rw [if_neg (by omega)]; unfold finL; simp
theorem finL_err {s : List UInt8} {at_ p d q e last : Int} {m : Nat} {acc : List Int} (h : getInt s p = (d, q, e)) (he : e ≠ 0) : finL at_ acc (getL s (m + 1) last p) = ([], at_, e) := by
  unfold finL; rw [getL, h]; simp only; rw [if_pos he, if_pos he]
theorem finL_form {s : List UInt8} {at_ p d q last : Int} {m : Nat} {acc : List Int} (h : getInt s p = (d, q, 0)) (he : okD last d = false) : finL at_ acc (getL s (m + 1) last p) = ([], at_, 4) := by
  unfold finL; rw [getL, h]; simp [he]
theorem finL_go {s : List UInt8} {at_ p d q last : Int} {m : Nat} {acc : List Int} (h : getInt s p = (d, q, 0)) (he : okD last d = true) : finL at_ acc (getL s (m + 1) last p) = finL at_ (acc ++ [last + d]) (getL s m (last + d) q) := by
  unfold finL; rw [getL, h]; simp only [he, ne_eq, not_true_eq_false, if_false, Bool.true_eq_false]
  by_cases hx : (getL s m (last + d) q).1 = 0
  · rw [if_neg (by simp [hx]), if_neg (by simp [hx])]; simp [hx]
  · rw [if_pos hx]; simp [hx]
theorem finL_end {s : List UInt8} {at_ p last : Int} {acc : List Int} : finL at_ acc (getL s 0 last p) = (acc, p, 0) := by
  unfold finL; simp [getL]

set_option maxRecDepth 100000 in
set_option maxHeartbeats 2000000 in
theorem getListO_any (s : ByteArray) (at_ : Int) (w : World) (hs : s.size ≤ maxLen) :
    Calls Tryz.prog 75 #[.string s, .int .i64 at_] w (RetGetO w (getList s.data.toList at_)) := by
  obtain ⟨i0, hi, hz0, hz1, hz2⟩ := info_parts Tryz.infoInt'
  have hb0 : Blk (w.alloc (.cells #[.string s, .int .i64 at_, .int .i64 0] 124)) w.heap.size 124 #[.string s, .int .i64 at_, .int .i64 0] := Blk.new w _ _
  have hbel0 : Below w.heap.size w (w.alloc (.cells #[.string s, .int .i64 at_, .int .i64 0] 124)) := (Below.refl _ _).alloc (Nat.le_refl _) _
  have hsz0 : w.heap.size + 1 ≤ (w.alloc (.cells #[.string s, .int .i64 at_, .int .i64 0] 124)).heap.size := by simp
  have hnext := Lib.hid (next_ok _ _ s at_ hs hb0)
  have herr := getInt_err0 s.data.toList at_
  obtain ⟨n, q, e, hg⟩ : ∃ n q e, getInt s.data.toList at_ = (n, q, e) := ⟨_, _, _, rfl⟩
  rw [hg] at hnext herr
  simp only at hnext herr
  have HG := Lib.hid hg; clear hg
  clear hb0
  go_enter Tryz.func75, Tryz.ntmps75
  go_wp2_with fail
  refine hnext.out.mono ?_
  rintro r w1 ⟨rfl, hb1, hg1⟩
  have hbel1 := below_of_grown hbel0 hg1 (Nat.le_refl _) (by omega)
  have hsz1 := Nat.le_trans hsz0 hg1.size
  clear hnext hbel0 hsz0 hg1
  by_cases he : e = 0
  · subst he
    by_cases hn : n < 0 ∨ 4096 < n
    · have HR := Lib.hid (getList_form HG.out hn)
      have hn' : (n < 0 ∧ decide (0 ≤ n) = false) ∨ (4096 < n ∧ decide (0 ≤ n) = true ∧ decide (n ≤ 4096) = false) := by
        rcases hn with h | h
        · exact .inl ⟨h, by simp; omega⟩
        · exact .inr ⟨h, by simp; omega, by simp; omega⟩
      clear hn
      rcases hn' with ⟨hn, hd⟩ | ⟨hn, hd, hd'⟩
      all_goals
        go_wp2_with fail
        refine (want_no _ _ _ _ hb1).mono ?_
        rintro r w2 ⟨rfl, hb2, hg2⟩
        have hbel2 := below_of_grown hbel1 hg2 (Nat.le_refl _) (by omega)
        have c2 := hb2.at_ (i := 2) rfl
        clear hb1 hb2 hg2 hbel1
        go_wp2_with fail
        refine wp_loop_rounds 1 ?_
        rw [rounds_succ]
        go_wp2_with fail
        go_quiet (fail)
        go_wp2_with fail
        go_ret3
        rw [HR.out]
        exact ⟨_, rfl, World.ownsRow_nil _ _ _ _, below_drewN hbel2 nq⟩
    · obtain ⟨m, rfl⟩ := Int.eq_ofNat_of_zero_le (show 0 ≤ n by omega)
      have hm : m ≤ 4096 := by omega
      have HR := Lib.hid (getList_go HG.out hm)
      have hd : decide ((m : Int) ≤ 4096) = true := by simp; omega
      clear hn
      go_wp2_with fail
      refine (want_yes _ _ _ _ _ hb1).mono ?_
      rintro r w2 ⟨rfl, rfl⟩
      go_wp2_with fail
      go_loopw [9, 10, 11] (fun out lv i wr => ∃ (k : Nat) (last p : Int) (acc : List Int), k ≤ m ∧ i = .int .i64 k ∧ lv = .int .i64 last ∧ -1073741824 ≤ last ∧ last ≤ 1073741824 ∧ wr.ownsRow (w.heap.size + 1) 3 1 out acc.length (acc.map (Value.int .i64)) ∧ acc.length ≤ k ∧
          Hid (Blk wr w.heap.size 124 #[.string s, .int .i64 p, .int .i64 0]) ∧ Hid (finL at_ acc (getL s.data.toList (m - k) last p) = finL at_ [] (getL s.data.toList m 0 q)) ∧ Below w.heap.size w wr ∧ w.heap.size + 1 ≤ wr.heap.size) (fun _ _ i _ => m - (intOf i).toNat)
      case atStart => exact ⟨0, 0, q, [], by omega, rfl, rfl, by omega, by omega, World.ownsRow_nil _ _ _ _, by simp, Lib.hid hb1, Lib.hid rfl, hbel1, hsz1⟩
      case round =>
        obtain ⟨k, last, p, acc, hk, rfl, rfl, hl1, hl2, hown, hal, HB, HU, hbel, hsz⟩ := hrel
        clear hb1 hbel1 hsz1
        have c2 := HB.out.at_ (i := 2) rfl
        by_cases hlt : k < m
        · have hnext := Lib.hid (next_ok wr _ s p hs HB.out)
          have herr := getInt_err0 s.data.toList p
          obtain ⟨d, q1, e, hg⟩ : ∃ d q1 e, getInt s.data.toList p = (d, q1, e) := ⟨_, _, _, rfl⟩
          rw [hg] at hnext herr
          simp only at hnext herr
          have HG1 := Lib.hid hg; clear hg
          obtain ⟨j, hj⟩ : ∃ j, m - k = j + 1 := ⟨m - k - 1, by omega⟩
          rw [hj] at HU
          have HJ := Lib.hid hj; clear hj
          clear HB
          go_wp2_with fail
          refine hnext.out.mono ?_
          rintro r w1 ⟨rfl, hb1, hg1⟩
          have hbel1 := below_of_grown hbel hg1 (Nat.le_refl _) (by omega)
          have hsz1 := Nat.le_trans hsz hg1.size
          have hown1 := own_grown hown hg1 (by omega)
          clear hnext hg1 hbel hsz hown c2
          by_cases he : e = 0
          · subst he
            clear herr
            cases hok : okD last d
            · -- refused
              have HX : Hid (getList s.data.toList at_ = ([], at_, 4)) := Lib.hid (by rw [HR.out, ← HU.out, finL_form HG1.out hok])
              have hcase : (d < -2147483648 ∧ decide (-2147483648 ≤ d) = false) ∨ (2147483648 < d ∧ decide (-2147483648 ≤ d) = true ∧ decide (d ≤ 2147483648) = false) ∨ (-2147483648 ≤ d ∧ d ≤ 2147483648 ∧ fitsB (last + d) = false) := by
                unfold okD at hok
                rw [Bool.and_eq_false_iff] at hok
                by_cases a : -2147483648 ≤ d
                · by_cases b : d ≤ 2147483648
                  · refine .inr (.inr ⟨a, b, hok.resolve_left ?_⟩)
                    simp; omega
                  · exact .inr (.inl ⟨by omega, by simp; omega, by simp; omega⟩)
                · exact .inl ⟨by omega, by simp; omega⟩
              clear hok
              rcases hcase with ⟨h1, h2⟩ | ⟨h1, h2, h3⟩ | ⟨h1, h2, h3⟩
              · go_wp2_with fail
                refine (want_no _ _ _ _ hb1).mono ?_
                rintro r w2 ⟨rfl, hb2, hg2⟩
                have hbel2 := below_of_grown hbel1 hg2 (Nat.le_refl _) (by omega)
                have c2 := hb2.at_ (i := 2) rfl
                clear hb1 hb2 hg2 hbel1
                go_wp2_with fail
                go_quiet (fail)
                go_wp2_with fail
                go_ret3
                rw [HX.out]
                exact ⟨_, rfl, World.ownsRow_nil _ _ _ _, below_drewN hbel2 nq⟩
              · go_wp2_with fail
                refine (want_no _ _ _ _ hb1).mono ?_
                rintro r w2 ⟨rfl, hb2, hg2⟩
                have hbel2 := below_of_grown hbel1 hg2 (Nat.le_refl _) (by omega)
                have c2 := hb2.at_ (i := 2) rfl
                clear hb1 hb2 hg2 hbel1
                go_wp2_with fail
                go_quiet (fail)
                go_wp2_with fail
                go_ret3
                rw [HX.out]
                exact ⟨_, rfl, World.ownsRow_nil _ _ _ _, below_drewN hbel2 nq⟩
              · have hft := Lib.hid (fun W => fits_any (last + d) W)
                rw [h3] at hft
                have h4 : decide (-2147483648 ≤ d) = true := by simp; omega
                have h5 : decide (d ≤ 2147483648) = true := by simp; omega
                clear h3
                go_wp2_with fail
                refine (hft.out _).mono ?_
                rintro r w2 ⟨rfl, rfl⟩
                go_wp2_with fail
                refine (want_no _ _ _ _ hb1).mono ?_
                rintro r w2 ⟨rfl, hb2, hg2⟩
                have hbel2 := below_of_grown hbel1 hg2 (Nat.le_refl _) (by omega)
                have c2 := hb2.at_ (i := 2) rfl
                clear hb1 hb2 hg2 hbel1
                go_wp2_with fail
                go_quiet (fail)
                go_wp2_with fail
                go_ret3
                rw [HX.out]
                exact ⟨_, rfl, World.ownsRow_nil _ _ _ _, below_drewN hbel2 nq⟩
            · -- one more
              have hr : -2147483648 ≤ d ∧ d ≤ 2147483648 ∧ fitsB (last + d) = true := by
                unfold okD at hok
                rw [Bool.and_eq_true, decide_eq_true_eq] at hok
                exact ⟨hok.1.1, hok.1.2, hok.2⟩
              have HX : Hid (finL at_ (acc ++ [last + d]) (getL s.data.toList (m - (k + 1)) (last + d) q1) = finL at_ [] (getL s.data.toList m 0 q)) :=
                Lib.hid (by rw [← HU.out, finL_go HG1.out hok, show m - (k + 1) = j by have := HJ.out; omega])
              obtain ⟨h1, h2, h3⟩ := hr
              have hft := Lib.hid (fun W => fits_any (last + d) W)
              rw [h3] at hft
              have hf2 := (fitsB_iff _).1 h3
              have h4 : decide (-2147483648 ≤ d) = true := by simp; omega
              have h5 : decide (d ≤ 2147483648) = true := by simp; omega
              clear h3 hok HU
              go_wp2_with fail
              refine (hft.out _).mono ?_
              rintro r w2 ⟨rfl, rfl⟩
              go_wp2_with fail
              refine (want_yes _ _ _ _ _ hb1).mono ?_
              rintro r w2 ⟨rfl, rfl⟩
              have HB1 := Lib.hid hb1; clear hb1
              go_wp2_with (at_builtin; refine wpList_append_own _ rfl _ _ 22 rfl (w.heap.size + 1) 3 i0 (.int .i64 0) 1 8 Tryz.underlying22 hi hz0 hz1 hz2 rfl (by decide) _ _ _ rfl (hown1.alloc _) ⟨w1.heap.size, 0, none⟩ 1 1 [.int .i64 (last + d)] rfl rfl (cell_one_new _ _ _) ?c1 ?c2 ?c3 ?c4 ?_)
              case c1 => intro u hu; simp at hu; subst hu; rfl
              case c2 => unfold maxLen; omega
              case c3 => omega
              case c4 => simp; omega
              intro v' w2 hown2 hgrow _
              have hbel2 : Below w.heap.size w w2 := (hbel1.alloc hbel1.size _).grown hgrow (by have := hbel1.size; simp; omega) (fun k hk => by have := (hown1.lt k hk).1; omega)
              have hb2 : Blk w2 w.heap.size 124 #[.string s, .int .i64 q1, .int .i64 0] := (HB1.out.alloc _).grown hgrow (fun hk => by have := (hown1.lt _ hk.symm).1; omega)
              have hsz2 : w.heap.size + 1 ≤ w2.heap.size := by have := hgrow.size; simp at this; omega
              clear hgrow hown1 hbel1 hsz1
              have HB2 := Lib.hid hb2; clear hb2
              go_wp2_with fail
              go_roundw
              case rel => exact ⟨k + 1, last + d, q1, acc ++ [last + d], by omega, by go_num, rfl, by omega, by omega, by simpa using hown2, by simp; omega, HB2, HX, hbel2, hsz2⟩
              case measure => simp [intOf]; omega
          · -- an error
            have hd0 := herr he
            subst hd0
            have HX : Hid (getList s.data.toList at_ = ([], at_, e)) := Lib.hid (by rw [HR.out, ← HU.out, finL_err HG1.out he])
            have hne : (e == 0) = false := beq_eq_false_iff_ne.2 he
            have hne' : (e != 0) = true := by rw [bne_iff_ne]; exact he
            have hft := Lib.hid (fun W => fits_any last W)
            rw [(fitsB_iff last).2 ⟨by omega, by omega⟩] at hft
            go_wp2_with fail
            refine (hft.out _).mono ?_
            rintro r w2 ⟨rfl, rfl⟩
            go_wp2_with fail
            refine (want_err _ _ _ _ _ _ hb1 he).mono ?_
            rintro r w2 ⟨rfl, rfl⟩
            have c2 := hb1.at_ (i := 2) rfl
            clear hb1
            go_wp2_with fail
            go_quiet (fail)
            go_wp2_with fail
            go_ret3
            rw [HX.out]
            exact ⟨_, rfl, World.ownsRow_nil _ _ _ _, below_drewN hbel1 nq⟩
        · obtain rfl : k = m := by omega
          have c1 := HB.out.at_ (i := 1) rfl
          have HX : Hid (getList s.data.toList at_ = (acc, p, 0)) := by
            refine Lib.hid ?_
            rw [HR.out, ← HU.out, Nat.sub_self, finL_end]
          go_wp2_with fail
          go_quiet (fail)
          go_wp2_with fail
          go_ret3
          rw [HX.out]
          exact ⟨_, rfl, own_low hown (by omega), below_drewN hbel nq⟩
  · have hn0 := herr he
    subst hn0
    have HR := Lib.hid (getList_err HG.out he)
    have hne : (e == 0) = false := beq_eq_false_iff_ne.2 he
    have hne' : (e != 0) = true := by rw [bne_iff_ne]; exact he
    go_wp2_with fail
    refine (want_err _ _ _ _ _ _ hb1 he).mono ?_
    rintro r w2 ⟨rfl, rfl⟩
    have c2 := hb1.at_ (i := 2) rfl
    clear hb1
    go_wp2_with fail
    refine wp_loop_rounds 1 ?_
    rw [rounds_succ]
    go_wp2_with fail
    go_quiet (fail)
    go_wp2_with fail
    go_ret3
    rw [HR.out]
    exact ⟨_, rfl, World.ownsRow_nil _ _ _ _, below_drewN hbel1 nq⟩
theorem getList_any (s : ByteArray) (at_ : Int) (w : World) (hs : s.size ≤ maxLen) :
    Calls Tryz.prog 75 #[.string s, .int .i64 at_] w (RetGet w (getList s.data.toList at_)) :=
  (getListO_any s at_ w hs).mono fun _ _ ⟨v, e, ho, hb⟩ => ⟨v, e, Ints.of_own ho, hb⟩
end Go.Proofs.YtikcfoobfobmnaaGreatDoor
/-
  The walks through packed.PutList and the document's PutList.
-/
namespace Go.Proofs.YtikcfoobfobmnaaGreatDoor
open Go.RowKit ND

/-- A string and an error come back. -/
def RetPut (w : World) (r : List UInt8 × Int) (e : Ending) (w' : World) : Prop :=
  e = .returned (.tuple #[.string ⟨r.1.toArray⟩, .int .i64 r.2]) ∧ Below w.heap.size w w'

theorem putInt_len (l : List UInt8) (v : Int) : (putInt l v).length ≤ l.length + 10 := by
  have := (encU_len 9 (zz v)).2
  simp [putInt]; omega
theorem putList_full {b : List UInt8} {xs : List Int} (h : 4096 < xs.length) : putList b xs = ([], 7) := by unfold putList; rw [if_pos h]
theorem putList_range {b : List UInt8} {xs : List Int} (h : xs.length ≤ 4096) (ha : xs.all fitsB = false) : putList b xs = ([], 3) := by unfold putList; rw [if_neg (by omega), if_neg (by simp [ha])]
theorem putList_ok {b : List UInt8} {xs : List Int} (h : xs.length ≤ 4096) (ha : xs.all fitsB = true) : putList b xs = (putAll (putInt b xs.length) (diffs 0 xs), 0) := by unfold putList; rw [if_neg (by omega), if_pos ha]
theorem put_more {xs : List Int} {k : Nat} {x last : Int} {acc R : List UInt8} (hx : xs[k]? = some x) (h : putAll acc (diffs last (xs.drop k)) = R) : putAll (putInt acc (x - last)) (diffs x (xs.drop (k + 1))) = R := by
  rw [drop_of_get hx] at h; exact h
theorem put_end {xs : List Int} {k : Nat} {last : Int} {acc R : List UInt8} (hk : xs.length ≤ k) (h : putAll acc (diffs last (xs.drop k)) = R) : acc = R := by
  rw [List.drop_eq_nil_of_le hk] at h; exact h

set_option maxHeartbeats 400000 in
theorem moderate_any (v : Int) (w : World) : Calls Tryz.prog 54 #[.int .i64 v] w fun e w' => e = .returned (.bool (fitsB v)) ∧ w = w' := by
  go_enter Tryz.func54, Tryz.ntmps54
  go_wp2
  all_goals go_ret
  all_goals refine ⟨ret_bool (bool_eq ?_), rfl⟩
  all_goals rw [fitsB_iff]
  all_goals simp
  all_goals omega

set_option maxRecDepth 100000 in
set_option maxHeartbeats 1000000 in
theorem refPutList_any (b : ByteArray) (v : Value) (xs : List Int) (w : World) (hv : Ints w w.heap.size .i64 v xs) (hs : b.size + 10 * xs.length + 20 ≤ 140737488355328) :
    Calls Tryz.prog 19 #[.string b, v] w (RetPut w (putList b.data.toList xs)) := by
  obtain ⟨A, c, rfl, hc1, hc2, _, hcell⟩ := hv
  have HC := Lib.hid hcell; clear hcell
  clear hc1 hc2
  by_cases hl : 4096 < xs.length
  · rw [putList_full hl]
    go_enter Tryz.func19, Tryz.ntmps19
    go_wp2_with fail
    go_ret2
    exact ⟨rfl, Below.refl _ _⟩
  · have hl' : xs.length ≤ 4096 := by omega
    clear hl
    obtain ⟨Z, hZ⟩ : ∃ Z, Z = putList b.data.toList xs := ⟨_, rfl⟩
    rw [← hZ]
    have HZ := Lib.hid hZ; clear hZ
    have hp := Lib.hid (fun W => refPutInt_any b (xs.length : Int) W (by omega) (by omega) (by omega))
    have hpl := putInt_len b.data.toList (xs.length : Int)
    rw [sz_list] at hpl
    obtain ⟨R, hR⟩ : ∃ R, R = putAll (putInt b.data.toList xs.length) (diffs 0 xs) := ⟨_, rfl⟩
    obtain ⟨S, hS⟩ : ∃ S : ByteArray, S = ⟨(putInt b.data.toList (xs.length : Int)).toArray⟩ := ⟨_, rfl⟩
    have hSl : S.data.toList = putInt b.data.toList (xs.length : Int) := by rw [hS]
    have HS : Hid (putAll S.data.toList (diffs 0 xs) = R) := Lib.hid (by rw [hSl, hR])
    have hSs : S.size ≤ b.size + 10 := by rw [← sz_list, hSl]; exact hpl
    rw [← hS] at hp
    have HR := Lib.hid hR
    clear hR hS hSl hpl
    go_enter Tryz.func19, Tryz.ntmps19
    go_wp2_with fail
    refine (hp.out _).mono ?_
    rintro e w1 ⟨rfl, b1⟩
    clear hp
    go_wp2_with fail
    go_loopw [6, 7, 19] (fun s lv i wr => ∃ (k : Nat) (last : Int) (acc : ByteArray), k ≤ xs.length ∧ i = .int .i64 k ∧ lv = .int .i64 last ∧ s = .string acc ∧ -1073741824 ≤ last ∧ last ≤ 1073741824 ∧ acc.size ≤ b.size + 10 * k + 10 ∧
      Hid (putAll acc.data.toList (diffs last (xs.drop k)) = R) ∧ Hid ((xs.drop k).all fitsB = xs.all fitsB) ∧ Below w.heap.size w wr) (fun _ _ i _ => xs.length - (intOf i).toNat)
    case atStart => exact ⟨0, 0, S, by omega, rfl, rfl, rfl, by omega, by omega, by omega, HS, Lib.hid rfl, b1⟩
    case round =>
      obtain ⟨k, last, acc, hk, rfl, rfl, rfl, hl1, hl2, hac, HU, HA, hbel⟩ := hrel
      by_cases hlt : k < xs.length
      · obtain ⟨x, hxk, hxm⟩ := get_of hlt
        obtain ⟨ad, rfl, ha, hce⟩ := HC.out k x hxk
        have e1 := (hbel.cell (p := ad.add k) (by rw [block_of_add]; exact ha)).trans hce
        have hft := Lib.hid (fun W => moderate_any x W)
        have HK := Lib.hid hxk
        clear hce ha hxk hxm
        by_cases hf : fitsB x = true
        · rw [hf] at hft
          have HA' := Lib.hid (all_yes HK.out HA.out hf)
          obtain ⟨hfx1, hfx2⟩ := (fitsB_iff x).1 hf
          have HX := Lib.hid (put_more HK.out HU.out)
          clear hf HU
          have hp := Lib.hid (fun W => refPutInt_any acc (x - last) W (by omega) (by omega) (by omega))
          have hpl := putInt_len acc.data.toList (x - last)
          rw [sz_list] at hpl
          obtain ⟨S', hS'⟩ : ∃ S : ByteArray, S = ⟨(putInt acc.data.toList (x - last)).toArray⟩ := ⟨_, rfl⟩
          have hSl' : S'.data.toList = putInt acc.data.toList (x - last) := by rw [hS']
          have hSs' : S'.size ≤ acc.size + 10 := by rw [← sz_list, hSl']; exact hpl
          rw [← hSl'] at HX
          rw [← hS'] at hp
          clear hS' hSl' hpl
          go_wp2_with fail
          refine (hft.out _).mono ?_
          rintro e w2 ⟨rfl, rfl⟩
          go_wp2_with fail
          refine (hp.out _).mono ?_
          rintro e w2 ⟨rfl, b2⟩
          have hbel2 := below_next hbel b2
          clear hp b2 hbel
          go_wp2_with fail
          go_roundw
          case rel => exact ⟨k + 1, x, S', by omega, by go_num, rfl, rfl, hfx1, hfx2, by omega, HX, HA', hbel2⟩
          case measure => simp [intOf]; omega
        · have hf' : fitsB x = false := by simpa using hf
          rw [hf'] at hft
          have HA' := Lib.hid (putList_range (b := b.data.toList) hl' (all_no HK.out HA.out hf'))
          clear hf hf'
          go_wp2_with fail
          refine (hft.out _).mono ?_
          rintro e w1 ⟨rfl, rfl⟩
          go_wp2_with fail
          go_ret2
          rw [HZ.out, HA'.out]
          exact ⟨rfl, hbel⟩
      · have HE := Lib.hid (put_end (by omega) HU.out)
        have HA' := Lib.hid (putList_ok (b := b.data.toList) hl' (all_end (by omega) HA.out))
        go_wp2_with fail
        go_ret2
        rw [HZ.out, HA'.out, ← HR.out, ← HE.out]
        exact ⟨rfl, hbel⟩
end Go.Proofs.YtikcfoobfobmnaaGreatDoor
/-
  The walks through PutSpans, of packed and of the reference.
-/
namespace Go.Proofs.YtikcfoobfobmnaaGreatDoor
open Go.RowKit ND

theorem putSpans_arg {b : List UInt8} {xs : List Sp} (h : checkS xs 0 1114111 = false) : putSpans b xs = ([], 1) := by unfold putSpans; rw [if_pos h]
theorem putSpans_range {b : List UInt8} {xs : List Sp} (h : checkS xs 0 1114111 = true) (ha : xs.all (fun s => fitsB s.2.2) = false) : putSpans b xs = ([], 3) := by unfold putSpans; rw [if_neg (by simp [h]), if_neg (by simp [ha])]
theorem putSpans_ok {b : List UInt8} {xs : List Sp} (h : checkS xs 0 1114111 = true) (ha : xs.all (fun s => fitsB s.2.2) = true) : putSpans b xs = (putAll (putInt b xs.length) (nums 0 xs), 0) := by unfold putSpans; rw [if_neg (by simp [h]), if_pos ha]
theorem nums_more {xs : List Sp} {k : Nat} {f t x last : Int} {acc R : List UInt8} (hx : xs[k]? = some (f, t, x)) (h : putAll acc (nums last (xs.drop k)) = R) :
    putAll (putInt (putInt (putInt acc (f - last)) (t - f)) x) (nums t (xs.drop (k + 1))) = R := by
  rw [drop_of_get hx] at h; exact h
theorem nums_end {xs : List Sp} {k : Nat} {last : Int} {acc R : List UInt8} (hk : xs.length ≤ k) (h : putAll acc (nums last (xs.drop k)) = R) : acc = R := by
  rw [List.drop_eq_nil_of_le hk] at h; exact h
theorem okS_all {xs : List Sp} {lo hi : Int} : ∀ {last : Int}, -1 ≤ last → okS lo hi last xs = true → ∀ s ∈ xs, last < s.1 ∧ s.1 ≤ s.2.1 ∧ s.2.1 ≤ 1114111 := by
  induction xs with
  | nil => intro last _ _ s hs; cases hs
  | cons a r ih =>
    intro last hl h s hs
    obtain ⟨h1, h2⟩ := okS_cons.1 h
    rcases List.mem_cons.1 hs with rfl | hs
    · omega
    · have := ih (by omega) h2 s hs; omega
theorem checkS_all {xs : List Sp} (h : checkS xs 0 1114111 = true) : xs.length ≤ 256 ∧ ∀ s ∈ xs, 0 ≤ s.1 ∧ s.1 ≤ s.2.1 ∧ s.2.1 ≤ 1114111 := by
  unfold checkS at h
  rw [Bool.and_eq_true, decide_eq_true_eq] at h
  exact ⟨h.2, fun s hs => by have := okS_all (by omega) h.1 s hs; omega⟩

/-- The box of a span, wherever the call's world has gone on. -/
theorem box3 (wr : World) (x y z : Value) (e : TypeId) : (∀ d os, (Go.Sort.grow (redrawn (wr.alloc (.cells #[x, y, z] e)) d) os).cell? ⟨wr.heap.size, 0, none⟩ = some x) ∧
    (∀ d os, (Go.Sort.grow (redrawn (wr.alloc (.cells #[x, y, z] e)) d) os).cell? ⟨wr.heap.size, 1, none⟩ = some y) ∧ (∀ d os, (Go.Sort.grow (redrawn (wr.alloc (.cells #[x, y, z] e)) d) os).cell? ⟨wr.heap.size, 2, none⟩ = some z) :=
  ⟨fun d os => cell_regrown (by rw [cell_of_row _ _ _ _ _ _ (heap_alloc_new wr _)]; rfl) d os, fun d os => cell_regrown (by rw [cell_of_row _ _ _ _ _ _ (heap_alloc_new wr _)]; rfl) d os, fun d os => cell_regrown (by rw [cell_of_row _ _ _ _ _ _ (heap_alloc_new wr _)]; rfl) d os⟩

end Go.Proofs.YtikcfoobfobmnaaGreatDoor
/-
  The walk through the reference's PutSpans.
-/
namespace Go.Proofs.YtikcfoobfobmnaaGreatDoor
open Go.RowKit ND

theorem ref_put_one (acc : ByteArray) (v : Int) (h : acc.size ≤ 140737488355318) (h0 : -9223372036854775808 ≤ v) (h1 : v ≤ 9223372036854775807) :
    ∃ S : ByteArray, S.data.toList = putInt acc.data.toList v ∧ S.size ≤ acc.size + 10 ∧
      Hid (∀ W, Calls Tryz.prog 9 #[.string acc, .int .i64 v] W fun e w' => e = .returned (.string S) ∧ Below W.heap.size W w') := by
  refine ⟨⟨(putInt acc.data.toList v).toArray⟩, rfl, ?_, Lib.hid fun W => refPutInt_any acc v W h h0 h1⟩
  have := putInt_len acc.data.toList v
  rw [sz_list] at this
  rw [← sz_list]; exact this

set_option maxRecDepth 100000 in
set_option maxHeartbeats 400000 in
theorem refValid_any (v : Value) (xs : List Sp) (w : World) (hv : Spans w w.heap.size v xs) :
    Calls Tryz.prog 53 #[v] w fun e w' => e = .returned (.bool (checkS xs 0 1114111)) ∧ Below w.heap.size w w' := by
  have hck := Lib.hid (refCheck_any v xs 0 1114111 w hv)
  clear hv
  go_enter Tryz.func53, Tryz.ntmps53
  go_wp2_with fail
  refine hck.out.mono ?_
  rintro e w1 ⟨rfl, b1⟩
  go_wp2_with fail
  go_ret
  exact ⟨rfl, b1⟩

set_option maxRecDepth 100000 in
set_option maxHeartbeats 1000000 in
theorem refPutSpans_any (b : ByteArray) (v : Value) (xs : List Sp) (w : World) (hv : Spans w w.heap.size v xs) (hs : b.size + 30 * min xs.length 256 + 20 ≤ 140737488355328) :
    Calls Tryz.prog 17 #[.string b, v] w (RetPut w (putSpans b.data.toList xs)) := by
  have hck := Lib.hid (fun W (h : Spans W W.heap.size v xs) => refValid_any v xs W h)
  have HV := Lib.hid hv
  obtain ⟨A, c, rfl, hc1, hc2, _, _⟩ := hv
  have hl : xs.length ≤ 9223372036854775807 := by unfold maxLen at hc2; omega
  clear hc2 hc1
  by_cases hC : checkS xs 0 1114111 = true
  · rw [hC] at hck
    obtain ⟨Z, hZ⟩ : ∃ Z, Z = putSpans b.data.toList xs := ⟨_, rfl⟩
    rw [← hZ]
    have HZ := Lib.hid hZ; clear hZ
    have hxl := (checkS_all hC).1
    have HCk := Lib.hid hC; clear hC
    obtain ⟨S, hSl, hSs, hp⟩ := ref_put_one b (xs.length : Int) (by omega) (by omega) (by omega)
    obtain ⟨R, hR⟩ : ∃ R, R = putAll (putInt b.data.toList xs.length) (nums 0 xs) := ⟨_, rfl⟩
    have HS : Hid (putAll S.data.toList (nums 0 (xs.drop 0)) = R) := Lib.hid (by rw [hSl, hR]; rfl)
    have HR := Lib.hid hR
    clear hR hSl
    go_enter Tryz.func17, Tryz.ntmps17
    go_wp2_with fail
    refine (hck.out w HV.out).mono ?_
    rintro e w1 ⟨rfl, b1⟩
    obtain ⟨A', c', hA, _, _, _, hcell⟩ := HV.out
    cases hA
    have HC := Lib.hid hcell; clear hcell hck
    go_wp2_with fail
    refine (hp.out _).mono ?_
    rintro e w2 ⟨rfl, b2⟩
    have hbel2 := below_next b1 b2
    clear hp b1 b2
    go_wp2_with fail
    go_loopw [6, 7, 19] (fun s lv i wr => ∃ (k : Nat) (last : Int) (acc : ByteArray), k ≤ xs.length ∧ i = .int .i64 k ∧ lv = .int .i64 last ∧ s = .string acc ∧ 0 ≤ last ∧ last ≤ 1114111 ∧ acc.size ≤ b.size + 30 * k + 10 ∧
      Hid (putAll acc.data.toList (nums last (xs.drop k)) = R) ∧ Hid ((xs.drop k).all (fun s => fitsB s.2.2) = xs.all (fun s => fitsB s.2.2)) ∧ Below w.heap.size w wr) (fun _ _ i _ => xs.length - (intOf i).toNat)
    case atStart => exact ⟨0, 0, S, by omega, rfl, rfl, rfl, by omega, by omega, by omega, HS, Lib.hid rfl, hbel2⟩
    case round =>
      obtain ⟨k, last, acc, hk, rfl, rfl, rfl, hl1, hl2, hac, HU, HA, hbel⟩ := hrel
      clear HS hbel2
      by_cases hlt : k < xs.length
      · obtain ⟨⟨f, t, x⟩, hxk, hxm⟩ := get_el hlt
        obtain ⟨ad, rfl, ha, d0, d1, d2⟩ := HC.out k _ hxk
        simp only at d0 d1 d2
        obtain ⟨e0, e1, e2⟩ := span_cells hbel ha d0 d1 d2
        have hfs := (checkS_all HCk.out).2 _ hxm
        have HX := Lib.hid hxk
        have hft := Lib.hid (fun W => moderate_any x W)
        simp only at hfs
        clear hxk hxm ha d0 d1 d2
        obtain ⟨hf1, hf2, hf3⟩ := hfs
        have k0 : (0 : Int) ≤ (k : Int) := by omega
        have k1 : (k : Int) < (xs.length : Int) := by omega
        by_cases hf : fitsB x = true
        · rw [hf] at hft
          have HA' := Lib.hid (all_yes HX.out HA.out hf)
          obtain ⟨hfx1, hfx2⟩ := (fitsB_iff x).1 hf
          have HN := Lib.hid (nums_more HX.out HU.out)
          clear hf HU HA
          obtain ⟨S1, s1, z1, hp1⟩ := ref_put_one acc (f - last) (by omega) (by omega) (by omega)
          obtain ⟨S2, s2, z2, hp2⟩ := ref_put_one S1 (t - f) (by omega) (by omega) (by omega)
          obtain ⟨S3, s3, z3, hp3⟩ := ref_put_one S2 x (by omega) (by omega) (by omega)
          have HX' : Hid (putAll S3.data.toList (nums t (xs.drop (k + 1))) = R) := Lib.hid (by rw [s3, s2, s1]; exact HN.out)
          have hz3 : S3.size ≤ b.size + 30 * (k + 1) + 10 := by omega
          clear s1 s2 s3 HN z1 z2 z3
          have hw1 : IntKind.i64.wrap (f - last) = f - last := IntWalk.i64_in _ (by omega)
          have hw2 : IntKind.i64.wrap (t - f) = t - f := IntWalk.i64_in _ (by omega)
          have HW1 := Lib.hid hw1
          have HW2 := Lib.hid hw2
          clear hw1 hw2
          go_wp2_with fail
          refine (hft.out _).mono ?_
          rintro e w3 ⟨rfl, rfl⟩
          go_wp2_with fail
          obtain ⟨c0, c1, c2⟩ := box3 wr (.int .i64 f) (.int .i64 t) (.int .i64 x) 61
          have hw1 := HW1.out
          have hw2 := HW2.out
          refine wp_region_quiet_below (by kernel_rfl) (by kernel_rfl) ?_
          repeat (quiet_step (fail))
          quiet_step (exact quiet_b hp1.out)
          repeat (quiet_step (fail))
          quiet_step (exact quiet_b hp2.out)
          repeat (quiet_step (fail))
          quiet_step (exact quiet_b hp3.out)
          repeat (quiet_step (fail))
          refine wpQuiet_nil ?_
          rintro _ ⟨⟨dq, osq⟩, rfl⟩
          clear hp1 hp2 hp3 hw1 hw2 HW1 HW2
          have hbel2 := below_next (hbel.alloc hbel.size _) (below_regrown (wr.alloc (.cells #[.int .i64 f, .int .i64 t, .int .i64 x] 61)) dq osq)
          go_wp2_with fail
          go_roundw
          case rel => exact ⟨k + 1, t, S3, by omega, by go_num, rfl, rfl, by omega, by omega, hz3, HX', HA', hbel2⟩
          case measure => simp [intOf]; omega
        · have hf' : fitsB x = false := by simpa using hf
          rw [hf'] at hft
          have HA' := Lib.hid (putSpans_range (b := b.data.toList) HCk.out (all_no HX.out HA.out hf'))
          clear hf hf'
          go_wp2_with fail
          refine (hft.out _).mono ?_
          rintro e w3 ⟨rfl, rfl⟩
          go_wp2_with fail
          go_ret2
          rw [HZ.out, HA'.out]
          exact ⟨rfl, hbel.alloc hbel.size _⟩
      · have HE := Lib.hid (nums_end (by omega) HU.out)
        have HA' := Lib.hid (putSpans_ok (b := b.data.toList) HCk.out (all_end (by omega) HA.out))
        go_wp2_with fail
        go_ret2
        rw [HZ.out, HA'.out, ← HR.out, ← HE.out]
        exact ⟨rfl, hbel⟩
  · have hC' : checkS xs 0 1114111 = false := by simpa using hC
    rw [putSpans_arg hC']
    rw [hC'] at hck
    clear hC hC'
    go_enter Tryz.func17, Tryz.ntmps17
    go_wp2_with fail
    refine (hck.out w HV.out).mono ?_
    rintro e w1 ⟨rfl, b1⟩
    go_wp2_with fail
    go_ret2
    exact ⟨rfl, b1⟩
end Go.Proofs.YtikcfoobfobmnaaGreatDoor
/-
  The sum of bytes, in plain Lean; a string turned to bytes.
-/
namespace Go.Proofs.YtikcfoobfobmnaaGreatDoor
open Go.RowKit ND

def sumStep (x : Nat) (c : UInt8) : Nat := (x ^^^ c.toNat) * 16777619 % 4294967296
def sumL (l : List UInt8) : Nat := l.foldl sumStep 2166136261

theorem sumStep_lt (x : Nat) (c : UInt8) : sumStep x c < 4294967296 := Nat.mod_lt _ (by decide)
theorem foldl_lt (l : List UInt8) (x : Nat) (hx : x < 4294967296) : l.foldl sumStep x < 4294967296 := by
  induction l generalizing x with
  | nil => exact hx
  | cons c l ih => exact ih _ (sumStep_lt _ _)
theorem sumL_lt (l : List UInt8) : sumL l < 4294967296 := foldl_lt l _ (by decide)

theorem sumStep_cast (x : Nat) (c : UInt8) : ((x ^^^ c.toNat : Nat) : Int) * 16777619 % 4294967296 = ((sumStep x c : Nat) : Int) := by
  rw [sumStep]
  simp only [Int.natCast_emod, Int.natCast_mul, Int.cast_ofNat_Int]
theorem xor_bits {x : Nat} (c : UInt8) (hx : x < 4294967296) : bits .xor .u32 (x : Int) (c.toNat : Int) = ((x ^^^ c.toNat : Nat) : Int) := by
  have hc := c.toNat_lt
  exact u32_xor_nat _ _ hx (by omega)
theorem byte_mod (c : UInt8) : (c.toNat : Int) % 4294967296 = (c.toNat : Int) := by
  have hc := c.toNat_lt
  omega
theorem bits_byte (c : UInt8) (x : Int) : bits .xor .u32 x ((c.toNat : Int) % 4294967296) = bits .xor .u32 x (c.toNat : Int) := by
  rw [byte_mod]
theorem sumStep_of {x : Nat} (c : UInt8) {z : Int} (h : z = ((x ^^^ c.toNat : Nat) : Int)) : z * 16777619 % 4294967296 = (sumStep x c : Int) := by
  subst h; exact sumStep_cast x c
theorem sumStep_bits {x : Nat} (c : UInt8) (hx : x < 4294967296) : bits .xor .u32 (x : Int) ((c.toNat : Int) % 4294967296) * 16777619 % 4294967296 = (sumStep x c : Int) := by
  have h : bits .xor .u32 (x : Int) ((c.toNat : Int) % 4294967296) = ((x ^^^ c.toNat : Nat) : Int) := (bits_byte c _).trans (xor_bits c hx)
  exact sumStep_of c h

theorem take_snoc (s : ByteArray) (k : Nat) (h : k < s.size) : s.data.toList.take (k + 1) = s.data.toList.take k ++ [s[k]] := by
  rw [List.take_succ_eq_append_getElem (by simpa using h)]; rfl
theorem sumL_snoc (s : ByteArray) (k : Nat) (h : k < s.size) : sumL (s.data.toList.take (k + 1)) = sumStep (sumL (s.data.toList.take k)) s[k] := by
  rw [take_snoc s k h]; unfold sumL; rw [List.foldl_append, List.foldl_cons, List.foldl_nil]

/-- What a conversion of a string to bytes leaves. -/
theorem conv_bytes {P : Program} (w : World) (src dst e : TypeId) (s : ByteArray) (hs : P.underlying src = some .string) (hd : P.underlying dst = some (.slice e)) (he : P.underlying e = some (.int .u8)) :
    ∃ W cap, (convert src dst (.string s)).run P w = .ok (.slice (some ⟨w.heap.size, 0, none⟩) s.size cap) W ∧ (∀ k (h : k < s.size), W.cell? ⟨w.heap.size, k, none⟩ = some (bv s[k])) ∧ Below w.heap.size w W ∧ s.size ≤ cap := by
  refine ⟨_, _, run_bytes_of_string w src dst e s hs hd he, fun k hk => ?_, ((Below.refl _ w).drew).alloc (Nat.le_refl _) _, grownCap_ge _ _ _ _⟩
  have h := cell_of_row (w.drew.alloc (.cells (bytesRow s (grownCap w s.size 0 e)) e ((bytesRow s (grownCap w s.size 0 e)).size, (bytesRow s (grownCap w s.size 0 e)).size + 1))) w.heap.size k _ _ _ (heap_alloc_new w.drew _)
  rw [h, bytesRow_at s _ k hk]
  rfl
end Go.Proofs.YtikcfoobfobmnaaGreatDoor
/-
  The walk through packed.Sum and the reference's: both fold the bytes by one step.
-/
namespace Go.Proofs.YtikcfoobfobmnaaGreatDoor
open Go.RowKit ND

set_option maxRecDepth 100000 in
set_option maxHeartbeats 400000 in
theorem sum_any (s : ByteArray) (w : World) (hs : s.size ≤ maxLen) :
    Calls Tryz.prog 40 #[.string s] w fun e w' => e = .returned (.int .i64 (sumL s.data.toList : Int)) ∧ Below w.heap.size w w' := by
  obtain ⟨W, cap, hcv, hcells, hbel, hcap⟩ := conv_bytes (P := Tryz.prog) w 9 32 5 s Tryz.underlying9 Tryz.underlying32 Tryz.underlying5
  have HC := Lib.hid hcells; clear hcells
  unfold maxLen at hs
  go_enter Tryz.func40, Tryz.ntmps40
  go_wp2
  clear hcv
  go_loop [3, 9] (fun x i => ∃ (k n : Nat), k ≤ s.size ∧ i = .int .i64 k ∧ x = .int .u32 n ∧ n < 4294967296 ∧ Hid (n = sumL (s.data.toList.take k))) (fun _ i => s.size - (intOf i).toNat)
  case atStart => exact ⟨0, 2166136261, by omega, rfl, rfl, by omega, Lib.hid (by simp [sumL])⟩
  case round =>
    obtain ⟨k, n, hk, rfl, rfl, hn, HN⟩ := hrel
    by_cases hlt : k < s.size
    · have hc := HC.out k hlt
      unfold bv at hc
      go_wp2
      go_round
      case rel => exact ⟨k + 1, sumStep n s[k], by omega, by go_num, by rw [sumStep_bits _ hn], sumStep_lt _ _, Lib.hid (by rw [sumL_snoc s k hlt, ← HN.out])⟩
      case measure => simp [intOf]; omega
    · go_wp2
      go_ret
      refine ⟨?_, hbel⟩
      have h := HN.out
      rw [List.take_of_length_le (by simp; omega)] at h
      rw [← h]
      first | rfl | go_num

set_option maxRecDepth 100000 in
set_option maxHeartbeats 400000 in
theorem refSum_any (s : ByteArray) (w : World) (hs : s.size ≤ maxLen) :
    Calls Tryz.prog 10 #[.string s] w fun e w' => e = .returned (.int .i64 (sumL s.data.toList : Int)) ∧ w = w' := by
  unfold maxLen at hs
  go_enter Tryz.func10, Tryz.ntmps10
  go_wp2
  go_loop [3, 4] (fun x i => ∃ (k n : Nat), k ≤ s.size ∧ i = .int .i64 k ∧ x = .int .u32 n ∧ n < 4294967296 ∧ Hid (n = sumL (s.data.toList.take k))) (fun _ i => s.size - (intOf i).toNat)
  case atStart => exact ⟨0, 2166136261, by omega, rfl, rfl, by omega, Lib.hid (by simp [sumL])⟩
  case round =>
    obtain ⟨k, n, hk, rfl, rfl, hn, HN⟩ := hrel
    by_cases hlt : k < s.size
    · go_wp2
      go_round
      case rel => exact ⟨k + 1, sumStep n s[k], by omega, by go_num, by rw [sumStep_bits _ hn], sumStep_lt _ _, Lib.hid (by rw [sumL_snoc s k hlt, ← HN.out])⟩
      case measure => simp [intOf]; omega
    · go_wp2
      go_ret
      refine ⟨?_, rfl⟩
      have h := HN.out
      rw [List.take_of_length_le (by simp; omega)] at h
      rw [← h]
      first | rfl | go_num
end Go.Proofs.YtikcfoobfobmnaaGreatDoor
/-
  What is read of spans, step by step: no program in sight.
-/
namespace ND
open Go

/-- What is made of the spans so far and of what is still to come. -/
def finS (at_ : Int) (acc : List Sp) (q : Int × List Sp × Int) : List Sp × Int × Int := if q.1 ≠ 0 then ([], at_, q.1) else (acc ++ q.2.1, q.2.2, 0)
section
variable {s : List UInt8} {at_ p n q e d q2 d2 e2 q3 d3 e3 last gap : Int} {m : Nat} {acc : List Sp}
theorem getSpans_err (h : getInt s p = (n, q, e)) (he : e ≠ 0) : getSpans s p = ([], p, e) := by unfold getSpans; rw [h, if_pos he]
theorem getSpans_form (h : getInt s p = (n, q, 0)) (hn : n < 0 ∨ 256 < n) : getSpans s p = ([], p, 4) := by unfold getSpans; rw [h]; simp only [ne_eq, not_true_eq_false, if_false]; rw [if_pos hn]
theorem getSpans_go {n : Nat} (h : getInt s p = ((n : Int), q, 0)) (hn : n ≤ 256) : getSpans s p = finS p [] (getS s n 0 0 q) := by
  unfold getSpans; rw [h]; simp only [ne_eq, not_true_eq_false, if_false, Int.toNat_natCast]; rw [if_neg (by omega)]; unfold finS; simp
theorem finS_e1 (h : getInt s p = (d, q, e)) (he : e ≠ 0) : finS at_ acc (getS s (m + 1) last gap p) = ([], at_, e) := by
  unfold finS; simp only [getS, h, if_pos he]
theorem finS_f1 (h : getInt s p = (d, q, 0)) (hb : d < gap ∨ 1114111 - last < d) : finS at_ acc (getS s (m + 1) last gap p) = ([], at_, 4) := by
  unfold finS; simp [getS, h, hb]
theorem finS_e2 (h : getInt s p = (d, q, 0)) (h1 : gap ≤ d) (h2 : d ≤ 1114111 - last) (g : getInt s q = (d2, q2, e2)) (he : e2 ≠ 0) : finS at_ acc (getS s (m + 1) last gap p) = ([], at_, e2) := by
  have c1 : ¬(d < gap ∨ 1114111 - last < d) := by omega
  unfold finS; simp [getS, h, g, if_neg c1, he]
theorem finS_f2 (h : getInt s p = (d, q, 0)) (_h1 : gap ≤ d) (_h2 : d ≤ 1114111 - last) (g : getInt s q = (d2, q2, 0)) (hb : d2 < 0 ∨ 1114111 - (last + d) < d2) : finS at_ acc (getS s (m + 1) last gap p) = ([], at_, 4) := by
  unfold finS; simp [getS, h, g, hb]
theorem finS_e3 (h : getInt s p = (d, q, 0)) (h1 : gap ≤ d) (h2 : d ≤ 1114111 - last) (g : getInt s q = (d2, q2, 0)) (g1 : 0 ≤ d2) (g2 : d2 ≤ 1114111 - (last + d)) (f : getInt s q2 = (d3, q3, e3)) (he : e3 ≠ 0) :
    finS at_ acc (getS s (m + 1) last gap p) = ([], at_, e3) := by
  have c1 : ¬(d < gap ∨ 1114111 - last < d) := by omega
  have c2 : ¬(d2 < 0 ∨ 1114111 - (last + d) < d2) := by omega
  unfold finS; simp [getS, h, g, f, if_neg c1, if_neg c2, he]
theorem finS_f3 (h : getInt s p = (d, q, 0)) (_h1 : gap ≤ d) (_h2 : d ≤ 1114111 - last) (g : getInt s q = (d2, q2, 0)) (_g1 : 0 ≤ d2) (_g2 : d2 ≤ 1114111 - (last + d)) (f : getInt s q2 = (d3, q3, 0)) (hb : fitsB d3 = false) :
    finS at_ acc (getS s (m + 1) last gap p) = ([], at_, 4) := by
  unfold finS; simp [getS, h, g, f, hb]
theorem finS_go (h : getInt s p = (d, q, 0)) (h1 : gap ≤ d) (h2 : d ≤ 1114111 - last) (g : getInt s q = (d2, q2, 0)) (g1 : 0 ≤ d2) (g2 : d2 ≤ 1114111 - (last + d)) (f : getInt s q2 = (d3, q3, 0)) (hb : fitsB d3 = true) :
    finS at_ acc (getS s (m + 1) last gap p) = finS at_ (acc ++ [(last + d, last + d + d2, d3)]) (getS s m (last + d + d2) 1 q3) := by
  have c1 : ¬(d < gap ∨ 1114111 - last < d) := by omega
  have c2 : ¬(d2 < 0 ∨ 1114111 - (last + d) < d2) := by omega
  unfold finS
  by_cases hx : (getS s m (last + d + d2) 1 q3).1 = 0
  · simp [getS, h, g, f, if_neg c1, if_neg c2, hb, hx]
  · simp [getS, h, g, f, if_neg c1, if_neg c2, hb, hx]
theorem finS_end : finS at_ acc (getS s 0 last gap p) = (acc, p, 0) := by unfold finS; simp [getS]
end
end ND
