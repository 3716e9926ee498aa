/-
  The walk through packed.GetList.
-/
import Derived.Test.YtmbphpocbajlmaaPkNext
import Derived.Test.YtmbphpocbajlmaaPkListPlain
import Derived.Test.YtmbphpocbajlmaaUtfA
import Derived.WalkSmall
namespace Go.Proofs.Ytmbphpocbajlmaa
open Go.RowKit ND

theorem Try.infoInt' : (Try.prog.info? 3).map (fun i => (i.zero, i.size, i.bytes)) = some (some (.int .i64 0), 1, 8) := by kernel_rfl
theorem Blk.at_ {w : World} {g : Nat} {t : TypeId} {cs : Array Value} {i : Nat} {u : Value} (h : Blk w g t cs) (hu : cs[i]? = some u) : w.cell? ⟨g, i, none⟩ = some u := (h.cell i).trans hu

set_option maxHeartbeats 400000 in
theorem fits_any (v : Int) (w : World) : Calls Try.prog 51 #[.int .i64 v] w fun e w' => e = .returned (.bool (fitsB v)) ∧ w = w' := by
  go_enter Try.func51, Try.ntmps51
  go_wp2
  all_goals go_ret
  all_goals refine ⟨ret_bool (bool_eq ?_), rfl⟩
  all_goals rw [fitsB_iff]
  all_goals simp
  all_goals omega

/-- A list, an index and an error come back. -/
def RetGet (w : World) (r : List Int × Int × Int) (e : Ending) (w' : World) : Prop :=
  ∃ v, e = .returned (.tuple #[v, .int .i64 r.2.1, .int .i64 r.2.2]) ∧ Ints w' w'.heap.size .i64 v r.1 ∧ Below w.heap.size w w'

/-- What is made of the elements so far and of what is still to come. -/
def finL (at_ : Int) (acc : List Int) (q : Int × List Int × Int) : List Int × Int × Int := if q.1 ≠ 0 then ([], at_, q.1) else (acc ++ q.2.1, q.2.2, 0)

theorem getInt_err0 (s : List UInt8) (p : Int) (h : (getInt s p).2.2 ≠ 0) : (getInt s p).1 = 0 := by
  unfold getInt at h ⊢
  split
  · rfl
  · rename_i h1
    rw [if_neg h1] at h
    unfold finU at h ⊢
    split
    · rename_i h2; rw [if_pos h2] at h; exact absurd rfl h
    · rfl
theorem getList_err {s : List UInt8} {p n q e : Int} (h : getInt s p = (n, q, e)) (he : e ≠ 0) : getList s p = ([], p, e) := by unfold getList; rw [h, if_pos he]
theorem getList_form {s : List UInt8} {p n q : Int} (h : getInt s p = (n, q, 0)) (hn : n < 0 ∨ 4096 < n) : getList s p = ([], p, 4) := by unfold getList; rw [h]; simp only [ne_eq, not_true_eq_false, if_false]; rw [if_pos hn]
theorem getList_go {s : List UInt8} {p q : Int} {n : Nat} (h : getInt s p = ((n : Int), q, 0)) (hn : n ≤ 4096) : getList s p = finL p [] (getL s n 0 q) := by
  unfold getList; rw [h]; simp only [ne_eq, not_true_eq_false, if_false, Int.toNat_natCast]; rw [if_neg (by omega)]; unfold finL; simp
theorem finL_err {s : List UInt8} {at_ p d q e last : Int} {m : Nat} {acc : List Int} (h : getInt s p = (d, q, e)) (he : e ≠ 0) : finL at_ acc (getL s (m + 1) last p) = ([], at_, e) := by
  unfold finL; rw [getL, h]; simp only; rw [if_pos he, if_pos he]
theorem finL_form {s : List UInt8} {at_ p d q last : Int} {m : Nat} {acc : List Int} (h : getInt s p = (d, q, 0)) (he : okD last d = false) : finL at_ acc (getL s (m + 1) last p) = ([], at_, 4) := by
  unfold finL; rw [getL, h]; simp [he]
theorem finL_go {s : List UInt8} {at_ p d q last : Int} {m : Nat} {acc : List Int} (h : getInt s p = (d, q, 0)) (he : okD last d = true) : finL at_ acc (getL s (m + 1) last p) = finL at_ (acc ++ [last + d]) (getL s m (last + d) q) := by
  unfold finL; rw [getL, h]; simp only [he, ne_eq, not_true_eq_false, if_false, Bool.true_eq_false]
  by_cases hx : (getL s m (last + d) q).1 = 0
  · rw [if_neg (by simp [hx]), if_neg (by simp [hx])]; simp [hx]
  · rw [if_pos hx]; simp [hx]
theorem finL_end {s : List UInt8} {at_ p last : Int} {acc : List Int} : finL at_ acc (getL s 0 last p) = (acc, p, 0) := by
  unfold finL; simp [getL]

set_option maxRecDepth 100000 in
set_option maxHeartbeats 2000000 in
theorem getList_any (s : ByteArray) (at_ : Int) (w : World) (hs : s.size ≤ maxLen) :
    Calls Try.prog 38 #[.string s, .int .i64 at_] w (RetGet w (getList s.data.toList at_)) := by
  obtain ⟨i0, hi, hz0, hz1, hz2⟩ := info_parts Try.infoInt'
  have hb0 : Blk (w.alloc (.cells #[.string s, .int .i64 at_, .int .i64 0] 75)) w.heap.size 75 #[.string s, .int .i64 at_, .int .i64 0] := Blk.new w _ _
  have hbel0 : Below w.heap.size w (w.alloc (.cells #[.string s, .int .i64 at_, .int .i64 0] 75)) := (Below.refl _ _).alloc (Nat.le_refl _) _
  have hsz0 : w.heap.size + 1 ≤ (w.alloc (.cells #[.string s, .int .i64 at_, .int .i64 0] 75)).heap.size := by simp
  have hnext := Lib.hid (next_ok _ _ s at_ hs hb0)
  have herr := getInt_err0 s.data.toList at_
  obtain ⟨n, q, e, hg⟩ : ∃ n q e, getInt s.data.toList at_ = (n, q, e) := ⟨_, _, _, rfl⟩
  rw [hg] at hnext herr
  simp only at hnext herr
  have HG := Lib.hid hg; clear hg
  clear hb0
  go_enter Try.func38, Try.ntmps38
  go_wp2_with fail
  refine hnext.out.mono ?_
  rintro r w1 ⟨rfl, hb1, hg1⟩
  have hbel1 := below_of_grown hbel0 hg1 (Nat.le_refl _) (by omega)
  have hsz1 := Nat.le_trans hsz0 hg1.size
  clear hnext hbel0 hsz0 hg1
  by_cases he : e = 0
  · subst he
    by_cases hn : n < 0 ∨ 4096 < n
    · have HR := Lib.hid (getList_form HG.out hn)
      have hn' : (n < 0 ∧ decide (0 ≤ n) = false) ∨ (4096 < n ∧ decide (0 ≤ n) = true ∧ decide (n ≤ 4096) = false) := by
        rcases hn with h | h
        · exact .inl ⟨h, by simp; omega⟩
        · exact .inr ⟨h, by simp; omega, by simp; omega⟩
      clear hn
      rcases hn' with ⟨hn, hd⟩ | ⟨hn, hd, hd'⟩
      all_goals
        go_wp2_with fail
        refine (want_no _ _ _ _ hb1).mono ?_
        rintro r w2 ⟨rfl, hb2, hg2⟩
        have hbel2 := below_of_grown hbel1 hg2 (Nat.le_refl _) (by omega)
        have c2 := hb2.at_ (i := 2) rfl
        clear hb1 hb2 hg2 hbel1
        go_wp2_with fail
        refine wp_loop_rounds 1 ?_
        rw [rounds_succ]
        go_wp2_with fail
        go_quiet (fail)
        go_wp2_with fail
        go_ret3
        rw [HR.out]
        exact ⟨_, rfl, Ints.none_, below_drewN hbel2 nq⟩
    · obtain ⟨m, rfl⟩ := Int.eq_ofNat_of_zero_le (show 0 ≤ n by omega)
      have hm : m ≤ 4096 := by omega
      have HR := Lib.hid (getList_go HG.out hm)
      have hd : decide ((m : Int) ≤ 4096) = true := by simp; omega
      clear hn
      go_wp2_with fail
      refine (want_yes _ _ _ _ _ hb1).mono ?_
      rintro r w2 ⟨rfl, rfl⟩
      go_wp2_with fail
      go_loopw [9, 10, 11] (fun out lv i wr => ∃ (k : Nat) (last p : Int) (acc : List Int), k ≤ m ∧ i = .int .i64 k ∧ lv = .int .i64 last ∧ -1073741824 ≤ last ∧ last ≤ 1073741824 ∧ wr.ownsRow (w.heap.size + 1) 3 1 out acc.length (acc.map (Value.int .i64)) ∧ acc.length ≤ k ∧
          Hid (Blk wr w.heap.size 75 #[.string s, .int .i64 p, .int .i64 0]) ∧ Hid (finL at_ acc (getL s.data.toList (m - k) last p) = finL at_ [] (getL s.data.toList m 0 q)) ∧ Below w.heap.size w wr ∧ w.heap.size + 1 ≤ wr.heap.size) (fun _ _ i _ => m - (intOf i).toNat)
      case atStart => exact ⟨0, 0, q, [], by omega, rfl, rfl, by omega, by omega, World.ownsRow_nil _ _ _ _, by simp, Lib.hid hb1, Lib.hid rfl, hbel1, hsz1⟩
      case round =>
        obtain ⟨k, last, p, acc, hk, rfl, rfl, hl1, hl2, hown, hal, HB, HU, hbel, hsz⟩ := hrel
        clear hb1 hbel1 hsz1
        have c2 := HB.out.at_ (i := 2) rfl
        by_cases hlt : k < m
        · have hnext := Lib.hid (next_ok wr _ s p hs HB.out)
          have herr := getInt_err0 s.data.toList p
          obtain ⟨d, q1, e, hg⟩ : ∃ d q1 e, getInt s.data.toList p = (d, q1, e) := ⟨_, _, _, rfl⟩
          rw [hg] at hnext herr
          simp only at hnext herr
          have HG1 := Lib.hid hg; clear hg
          obtain ⟨j, hj⟩ : ∃ j, m - k = j + 1 := ⟨m - k - 1, by omega⟩
          rw [hj] at HU
          have HJ := Lib.hid hj; clear hj
          clear HB
          go_wp2_with fail
          refine hnext.out.mono ?_
          rintro r w1 ⟨rfl, hb1, hg1⟩
          have hbel1 := below_of_grown hbel hg1 (Nat.le_refl _) (by omega)
          have hsz1 := Nat.le_trans hsz hg1.size
          have hown1 := own_grown hown hg1 (by omega)
          clear hnext hg1 hbel hsz hown c2
          by_cases he : e = 0
          · subst he
            clear herr
            cases hok : okD last d
            · -- refused
              have HX : Hid (getList s.data.toList at_ = ([], at_, 4)) := Lib.hid (by rw [HR.out, ← HU.out, finL_form HG1.out hok])
              have hcase : (d < -2147483648 ∧ decide (-2147483648 ≤ d) = false) ∨ (2147483648 < d ∧ decide (-2147483648 ≤ d) = true ∧ decide (d ≤ 2147483648) = false) ∨ (-2147483648 ≤ d ∧ d ≤ 2147483648 ∧ fitsB (last + d) = false) := by
                unfold okD at hok
                rw [Bool.and_eq_false_iff] at hok
                by_cases a : -2147483648 ≤ d
                · by_cases b : d ≤ 2147483648
                  · refine .inr (.inr ⟨a, b, hok.resolve_left ?_⟩)
                    simp; omega
                  · exact .inr (.inl ⟨by omega, by simp; omega, by simp; omega⟩)
                · exact .inl ⟨by omega, by simp; omega⟩
              clear hok
              rcases hcase with ⟨h1, h2⟩ | ⟨h1, h2, h3⟩ | ⟨h1, h2, h3⟩
              · go_wp2_with fail
                refine (want_no _ _ _ _ hb1).mono ?_
                rintro r w2 ⟨rfl, hb2, hg2⟩
                have hbel2 := below_of_grown hbel1 hg2 (Nat.le_refl _) (by omega)
                have c2 := hb2.at_ (i := 2) rfl
                clear hb1 hb2 hg2 hbel1
                go_wp2_with fail
                go_quiet (fail)
                go_wp2_with fail
                go_ret3
                rw [HX.out]
                exact ⟨_, rfl, Ints.none_, below_drewN hbel2 nq⟩
              · go_wp2_with fail
                refine (want_no _ _ _ _ hb1).mono ?_
                rintro r w2 ⟨rfl, hb2, hg2⟩
                have hbel2 := below_of_grown hbel1 hg2 (Nat.le_refl _) (by omega)
                have c2 := hb2.at_ (i := 2) rfl
                clear hb1 hb2 hg2 hbel1
                go_wp2_with fail
                go_quiet (fail)
                go_wp2_with fail
                go_ret3
                rw [HX.out]
                exact ⟨_, rfl, Ints.none_, below_drewN hbel2 nq⟩
              · have hft := Lib.hid (fun W => fits_any (last + d) W)
                rw [h3] at hft
                have h4 : decide (-2147483648 ≤ d) = true := by simp; omega
                have h5 : decide (d ≤ 2147483648) = true := by simp; omega
                clear h3
                go_wp2_with fail
                refine (hft.out _).mono ?_
                rintro r w2 ⟨rfl, rfl⟩
                go_wp2_with fail
                refine (want_no _ _ _ _ hb1).mono ?_
                rintro r w2 ⟨rfl, hb2, hg2⟩
                have hbel2 := below_of_grown hbel1 hg2 (Nat.le_refl _) (by omega)
                have c2 := hb2.at_ (i := 2) rfl
                clear hb1 hb2 hg2 hbel1
                go_wp2_with fail
                go_quiet (fail)
                go_wp2_with fail
                go_ret3
                rw [HX.out]
                exact ⟨_, rfl, Ints.none_, below_drewN hbel2 nq⟩
            · -- one more
              have hr : -2147483648 ≤ d ∧ d ≤ 2147483648 ∧ fitsB (last + d) = true := by
                unfold okD at hok
                rw [Bool.and_eq_true, decide_eq_true_eq] at hok
                exact ⟨hok.1.1, hok.1.2, hok.2⟩
              have HX : Hid (finL at_ (acc ++ [last + d]) (getL s.data.toList (m - (k + 1)) (last + d) q1) = finL at_ [] (getL s.data.toList m 0 q)) :=
                Lib.hid (by rw [← HU.out, finL_go HG1.out hok, show m - (k + 1) = j by have := HJ.out; omega])
              obtain ⟨h1, h2, h3⟩ := hr
              have hft := Lib.hid (fun W => fits_any (last + d) W)
              rw [h3] at hft
              have hf2 := (fitsB_iff _).1 h3
              have h4 : decide (-2147483648 ≤ d) = true := by simp; omega
              have h5 : decide (d ≤ 2147483648) = true := by simp; omega
              clear h3 hok HU
              go_wp2_with fail
              refine (hft.out _).mono ?_
              rintro r w2 ⟨rfl, rfl⟩
              go_wp2_with fail
              refine (want_yes _ _ _ _ _ hb1).mono ?_
              rintro r w2 ⟨rfl, rfl⟩
              have HB1 := Lib.hid hb1; clear hb1
              go_wp2_with (at_builtin; refine wpList_append_own _ rfl _ _ 35 rfl (w.heap.size + 1) 3 i0 (.int .i64 0) 1 8 Try.underlying35 hi hz0 hz1 hz2 rfl (by decide) _ _ _ rfl (hown1.alloc _) ⟨w1.heap.size, 0, none⟩ 1 1 [.int .i64 (last + d)] rfl rfl (cell_one_new _ _ _) ?c1 ?c2 ?c3 ?c4 ?_)
              case c1 => intro u hu; simp at hu; subst hu; rfl
              case c2 => unfold maxLen; omega
              case c3 => omega
              case c4 => simp; omega
              intro v' w2 hown2 hgrow _
              have hbel2 : Below w.heap.size w w2 := (hbel1.alloc hbel1.size _).grown hgrow (by have := hbel1.size; simp; omega) (fun k hk => by have := (hown1.lt k hk).1; omega)
              have hb2 : Blk w2 w.heap.size 75 #[.string s, .int .i64 q1, .int .i64 0] := (HB1.out.alloc _).grown hgrow (fun hk => by have := (hown1.lt _ hk.symm).1; omega)
              have hsz2 : w.heap.size + 1 ≤ w2.heap.size := by have := hgrow.size; simp at this; omega
              clear hgrow hown1 hbel1 hsz1
              have HB2 := Lib.hid hb2; clear hb2
              go_wp2_with fail
              go_roundw
              case rel => exact ⟨k + 1, last + d, q1, acc ++ [last + d], by omega, by go_num, rfl, by omega, by omega, by simpa using hown2, by simp; omega, HB2, HX, hbel2, hsz2⟩
              case measure => simp [intOf]; omega
          · -- an error
            have hd0 := herr he
            subst hd0
            have HX : Hid (getList s.data.toList at_ = ([], at_, e)) := Lib.hid (by rw [HR.out, ← HU.out, finL_err HG1.out he])
            have hne : (e == 0) = false := beq_eq_false_iff_ne.2 he
            have hne' : (e != 0) = true := by rw [bne_iff_ne]; exact he
            have hft := Lib.hid (fun W => fits_any last W)
            rw [(fitsB_iff last).2 ⟨by omega, by omega⟩] at hft
            go_wp2_with fail
            refine (hft.out _).mono ?_
            rintro r w2 ⟨rfl, rfl⟩
            go_wp2_with fail
            refine (want_err _ _ _ _ _ _ hb1 he).mono ?_
            rintro r w2 ⟨rfl, rfl⟩
            have c2 := hb1.at_ (i := 2) rfl
            clear hb1
            go_wp2_with fail
            go_quiet (fail)
            go_wp2_with fail
            go_ret3
            rw [HX.out]
            exact ⟨_, rfl, Ints.none_, below_drewN hbel1 nq⟩
        · obtain rfl : k = m := by omega
          have c1 := HB.out.at_ (i := 1) rfl
          have HX : Hid (getList s.data.toList at_ = (acc, p, 0)) := by
            refine Lib.hid ?_
            rw [HR.out, ← HU.out, Nat.sub_self, finL_end]
          go_wp2_with fail
          go_quiet (fail)
          go_wp2_with fail
          go_ret3
          rw [HX.out]
          exact ⟨_, rfl, Ints.of_own hown, below_drewN hbel nq⟩
  · have hn0 := herr he
    subst hn0
    have HR := Lib.hid (getList_err HG.out he)
    have hne : (e == 0) = false := beq_eq_false_iff_ne.2 he
    have hne' : (e != 0) = true := by rw [bne_iff_ne]; exact he
    go_wp2_with fail
    refine (want_err _ _ _ _ _ _ hb1 he).mono ?_
    rintro r w2 ⟨rfl, rfl⟩
    have c2 := hb1.at_ (i := 2) rfl
    clear hb1
    go_wp2_with fail
    refine wp_loop_rounds 1 ?_
    rw [rounds_succ]
    go_wp2_with fail
    go_quiet (fail)
    go_wp2_with fail
    go_ret3
    rw [HR.out]
    exact ⟨_, rfl, Ints.none_, below_drewN hbel1 nq⟩
end Go.Proofs.Ytmbphpocbajlmaa
