/-
  Merged texts: lemmas and walks that the last text of this claim leans on.
-/
import Derived.Test.YtikcfoobfobmnaaGreatDoorMgB729
import Derived.Test.YtikcfoobfobmnaaGreatDoorMgB723
import Derived.Deep.AppendLies
import Derived.Test.YtikcfoobfobmnaaGreatDoorMgB713
import Derived.Test.YtikcfoobfobmnaaGreatDoorMgB77
import Derived.Test.YtikcfoobfobmnaaGreatDoorMgB73
import Derived.Test.YtikcfoobfobmnaaGreatDoorMgB727
import Derived.Test.YtikcfoobfobmnaaGreatDoorMgB78
import Derived.Test.YtikcfoobfobmnaaGreatDoorMgB722
import Derived.Deep.DeepHandedRow
import Derived.Test.YtikcfoobfobmnaaGreatDoorRows
import Derived.WalkKit
import Derived.ProofKit
import Derived.OpenShut
import Derived.ShutString
import Derived.SizedLaws
/-
  The walk through packed.GetSpans.
-/
namespace Go.Proofs.YtikcfoobfobmnaaGreatDoor
open Go.RowKit ND


/-- The same, the spans in a row of the call's own. -/
def RetSpansO (w : World) (r : List Sp × Int × Int) (e : Ending) (w' : World) : Prop :=
  ∃ v, e = .returned (.tuple #[v, .int .i64 r.2.1, .int .i64 r.2.2]) ∧ w'.ownsRow w.heap.size 61 3 v r.1.length (r.1.flatMap spCells) ∧ Below w.heap.size w w'
/-- Spans, an index and an error come back. -/
def RetSpans (w : World) (r : List Sp × Int × Int) (e : Ending) (w' : World) : Prop :=
  ∃ v, e = .returned (.tuple #[v, .int .i64 r.2.1, .int .i64 r.2.2]) ∧ Spans w' w'.heap.size v r.1 ∧ Below w.heap.size w w'


/-- The ways through a test 'lo ≤ d && d ≤ hi'. -/
theorem two_ways (lo d hi : Int) : (lo ≤ d ∧ d ≤ hi ∧ decide (lo ≤ d) = true ∧ decide (d ≤ hi) = true) ∨ ((d < lo ∨ hi < d) ∧ (decide (lo ≤ d) = false ∨ decide (lo ≤ d) = true ∧ decide (d ≤ hi) = false)) := by
  simp only [decide_eq_true_eq, decide_eq_false_iff_not]; omega

/-- The reader in its block, the span that is being read in its box, the spans so far. -/
structure RdS (w wr : World) (xb : Nat) (s : ByteArray) (p e : Int) (x : Array Value) (out : Value) (acc : List Sp) : Prop where
  rd : Blk wr w.heap.size 124 #[.string s, .int .i64 p, .int .i64 e]
  box : Blk wr xb 61 x
  own : wr.ownsRow (w.heap.size + 1) 61 3 out acc.length (acc.flatMap spCells)
  bel : Below w.heap.size w wr
  lo : w.heap.size + 1 ≤ xb
  far : out.ownBlock ≠ some xb
section
variable {w wr w' : World} {xb : Nat} {s : ByteArray} {p e p' e' : Int} {x : Array Value} {out : Value} {acc : List Sp}
theorem RdS.new (hb : Blk wr w.heap.size 124 #[.string s, .int .i64 p, .int .i64 e]) (hown : wr.ownsRow (w.heap.size + 1) 61 3 out acc.length (acc.flatMap spCells)) (hbel : Below w.heap.size w wr) (hsz : w.heap.size + 1 ≤ wr.heap.size) (x : Array Value) :
    RdS w (wr.alloc (.cells x 61)) wr.heap.size s p e x out acc :=
  ⟨hb.alloc _, Blk.new _ _ _, hown.alloc _, hbel.alloc hbel.size _, hsz, fun h => by have := (hown.lt _ h).2; omega⟩
theorem RdS.next (h : RdS w wr xb s p e x out acc) (hb : Blk w' w.heap.size 124 #[.string s, .int .i64 p', .int .i64 e']) (hg : wr.grownBy w' (some w.heap.size)) : RdS w w' xb s p' e' x out acc :=
  ⟨hb, h.box.grown hg (by intro e; cases e; have := h.lo; omega), own_grown h.own hg (by omega), below_of_grown h.bel hg (Nat.le_refl _) h.bel.size, h.lo, h.far⟩
theorem RdS.put (h : RdS w wr xb s p e x out acc) (i : Nat) (u : Value) : RdS w (wr.setCell ⟨xb, i, none⟩ u) xb s p e (x.setIfInBounds i u) out acc :=
  ⟨h.rd.far (p := ⟨xb, i, none⟩) (by have := h.lo; show w.heap.size ≠ xb; omega) u, h.box.put i u, h.own.kept (row := some xb) (grown_setCell (grown_refl _ _) i u) (.inr h.far), h.bel.setCell (p := ⟨xb, i, none⟩) (by have := h.lo; show w.heap.size ≤ xb; omega) u, h.lo, h.far⟩
end

set_option maxRecDepth 100000 in
set_option maxHeartbeats 2000000 in
theorem getSpansO_any (s : ByteArray) (at_ : Int) (w : World) (hs : s.size ≤ maxLen) :
    Calls Tryz.prog 74 #[.string s, .int .i64 at_] w (RetSpansO w (getSpans s.data.toList at_)) := by
  obtain ⟨i0, hi, hz0, hz1, hz2⟩ := info_parts Tryz.infoSpan
  have hb0 : Blk (w.alloc (.cells #[.string s, .int .i64 at_, .int .i64 0] 124)) w.heap.size 124 #[.string s, .int .i64 at_, .int .i64 0] := Blk.new w _ _
  have hbel0 : Below w.heap.size w (w.alloc (.cells #[.string s, .int .i64 at_, .int .i64 0] 124)) := (Below.refl _ _).alloc (Nat.le_refl _) _
  have hsz0 : w.heap.size + 1 ≤ (w.alloc (.cells #[.string s, .int .i64 at_, .int .i64 0] 124)).heap.size := by simp
  have hnext := Lib.hid (next_ok _ _ s at_ hs hb0)
  have herr := getInt_err0 s.data.toList at_
  obtain ⟨n, q, e, hg⟩ : ∃ n q e, getInt s.data.toList at_ = (n, q, e) := ⟨_, _, _, rfl⟩
  rw [hg] at hnext herr
  simp only at hnext herr
  have HG := Lib.hid hg; clear hg
  clear hb0
  go_enter Tryz.func74, Tryz.ntmps74
  go_wp2_with fail
  refine hnext.out.mono ?_
  rintro r w1 ⟨rfl, hb1, hg1⟩
  have hbel1 := below_of_grown hbel0 hg1 (Nat.le_refl _) (by omega)
  have hsz1 := Nat.le_trans hsz0 hg1.size
  clear hnext hbel0 hsz0 hg1
  by_cases he : e = 0
  · subst he
    by_cases hn : n < 0 ∨ 256 < n
    · have HR := Lib.hid (getSpans_form HG.out hn)
      have hn' : (n < 0 ∧ decide (0 ≤ n) = false) ∨ (256 < n ∧ decide (0 ≤ n) = true ∧ decide (n ≤ 256) = false) := by
        rcases hn with h | h
        · exact .inl ⟨h, by simp; omega⟩
        · exact .inr ⟨h, by simp; omega, by simp; omega⟩
      clear hn
      rcases hn' with ⟨hn, hd⟩ | ⟨hn, hd, hd'⟩
      all_goals
        go_wp2_with fail
        refine (want_no _ _ _ _ hb1).mono ?_
        rintro r w2 ⟨rfl, hb2, hg2⟩
        have hbel2 := below_of_grown hbel1 hg2 (Nat.le_refl _) (by omega)
        have c2 := hb2.at_ (i := 2) rfl
        clear hb1 hb2 hg2 hbel1
        go_wp2_with fail
        refine wp_loop_rounds 1 ?_
        rw [rounds_succ]
        go_wp2_with fail
        go_quiet (fail)
        go_wp2_with fail
        go_ret3
        rw [HR.out]
        exact ⟨_, rfl, World.ownsRow_nil _ _ _ _, below_drewN hbel2 nq⟩
    · obtain ⟨m, rfl⟩ := Int.eq_ofNat_of_zero_le (show 0 ≤ n by omega)
      have hm : m ≤ 256 := by omega
      have HR := Lib.hid (getSpans_go HG.out hm)
      have hd : decide ((m : Int) ≤ 256) = true := by simp; omega
      clear hn
      go_wp2_with fail
      refine (want_yes _ _ _ _ _ hb1).mono ?_
      rintro r w2 ⟨rfl, rfl⟩
      go_wp2_with fail
      go_loopw [9, 10, 11, 12] (fun out lv gv i wr => ∃ (k : Nat) (last gap p : Int) (acc : List Sp), k ≤ m ∧ i = .int .i64 k ∧ lv = .int .i64 last ∧ gv = .int .i64 gap ∧ 0 ≤ last ∧ last ≤ 1114111 ∧ 0 ≤ gap ∧ gap ≤ 1 ∧ wr.ownsRow (w.heap.size + 1) 61 3 out acc.length (acc.flatMap spCells) ∧ acc.length ≤ k ∧
          Hid (Blk wr w.heap.size 124 #[.string s, .int .i64 p, .int .i64 0]) ∧ Hid (finS at_ acc (getS s.data.toList (m - k) last gap p) = finS at_ [] (getS s.data.toList m 0 0 q)) ∧ Below w.heap.size w wr ∧ w.heap.size + 1 ≤ wr.heap.size) (fun _ _ _ i _ => m - (intOf i).toNat)
      case atStart => exact ⟨0, 0, 0, q, [], by omega, rfl, rfl, rfl, by omega, by omega, by omega, by omega, World.ownsRow_nil _ _ _ _, by simp, Lib.hid hb1, Lib.hid rfl, hbel1, hsz1⟩
      case round =>
        obtain ⟨k, last, gap, p, acc, hk, rfl, rfl, rfl, hl1, hl2, hgp1, hgp2, hown, hal, HB, HU, hbel, hsz⟩ := hrel
        clear hb1 hbel1 hsz1
        have c2 := HB.out.at_ (i := 2) rfl
        by_cases hlt : k < m
        · have hnext := Lib.hid (next_ok wr _ s p hs HB.out)
          have herr := getInt_err0 s.data.toList p
          obtain ⟨d, q1, e, hg⟩ : ∃ d q1 e, getInt s.data.toList p = (d, q1, e) := ⟨_, _, _, rfl⟩
          rw [hg] at hnext herr
          simp only at hnext herr
          have HG1 := Lib.hid hg; clear hg
          obtain ⟨j, hj⟩ : ∃ j, m - k = j + 1 := ⟨m - k - 1, by omega⟩
          rw [hj] at HU
          have HJ := Lib.hid hj; clear hj
          clear HB
          go_wp2_with fail
          refine hnext.out.mono ?_
          rintro r w1 ⟨rfl, hb1, hg1⟩
          have hbel1 := below_of_grown hbel hg1 (Nat.le_refl _) (by omega)
          have hsz1 := Nat.le_trans hsz hg1.size
          have hown1 := own_grown hown hg1 (by omega)
          clear hnext hg1 hbel hsz hown c2
          by_cases he : e = 0
          · subst he
            clear herr
            rcases two_ways gap d (1114111 - last) with ⟨ha1, ha2, y1, y2⟩ | ⟨ha, hw⟩
            · have h2 := RdS.new hb1 hown1 hbel1 hsz1 #[.int .i64 (last + d), .int .i64 0, .int .i64 0]
              have hnext := Lib.hid (next_ok _ _ s q1 hs h2.rd)
              have herr := getInt_err0 s.data.toList q1
              obtain ⟨d2, q2, e, hg⟩ : ∃ d2 q2 e, getInt s.data.toList q1 = (d2, q2, e) := ⟨_, _, _, rfl⟩
              rw [hg] at hnext herr
              simp only at hnext herr
              have HG2 := Lib.hid hg; clear hg
              have HH2 := Lib.hid h2; clear h2
              go_wp2_with fail
              refine (want_yes _ _ _ _ _ hb1).mono ?_
              rintro r w2 ⟨rfl, rfl⟩
              clear hb1 hown1 hbel1 hsz1
              go_wp2_with fail
              refine hnext.out.mono ?_
              rintro r w3 ⟨rfl, hb3, hg3⟩
              have h3 := HH2.out.next hb3 hg3
              have c0 := h3.box.at_ (i := 0) rfl
              have c1 := h3.box.at_ (i := 1) rfl
              have f1 := h3.box.free 1
              clear hnext HH2 hb3 hg3
              by_cases he : e = 0
              · subst he
                clear herr
                rcases two_ways 0 d2 (1114111 - (last + d)) with ⟨hc1, hc2, y3, y4⟩ | ⟨hc, hw⟩
                · have h4 := h3.put 1 (.int .i64 (last + d + d2))
                  have hnext := Lib.hid (next_ok _ _ s q2 hs h4.rd)
                  have herr := getInt_err0 s.data.toList q2
                  obtain ⟨d3, q3, e, hg⟩ : ∃ d3 q3 e, getInt s.data.toList q2 = (d3, q3, e) := ⟨_, _, _, rfl⟩
                  rw [hg] at hnext herr
                  simp only at hnext herr
                  have HG3 := Lib.hid hg; clear hg
                  have HH4 := Lib.hid h4; clear h4
                  go_wp2_with fail
                  refine (want_yes _ _ _ _ _ h3.rd).mono ?_
                  rintro r w4 ⟨rfl, rfl⟩
                  clear h3
                  go_wp2_with fail
                  refine hnext.out.mono ?_
                  rintro r w5 ⟨rfl, hb5, hg5⟩
                  have h5 := HH4.out.next hb5 hg5
                  clear hnext HH4 hb5 hg5 c0 c1 f1
                  have c2' := h5.box.at_ (i := 2) (u := .int .i64 0) rfl
                  have f2 := h5.box.free 2
                  have h6 := h5.put 2 (.int .i64 d3)
                  have HH6 := Lib.hid h6; clear h6 h5
                  by_cases he : e = 0
                  · subst he
                    clear herr
                    cases hft : fitsB d3
                    · have HX : Hid (getSpans s.data.toList at_ = ([], at_, 4)) := Lib.hid (by rw [HR.out, ← HU.out, finS_f3 HG1.out ha1 ha2 HG2.out hc1 hc2 HG3.out hft])
                      have hfc := Lib.hid (fun W => fits_any d3 W)
                      rw [hft] at hfc
                      clear hft
                      go_wp2_with fail
                      refine (hfc.out _).mono ?_
                      rintro r w6 ⟨rfl, rfl⟩
                      have h6 := HH6.out
                      clear HH6
                      go_wp2_with fail
                      refine (want_no _ _ _ _ h6.rd).mono ?_
                      rintro r w9 ⟨rfl, hb9, hg9⟩
                      have h9 := h6.next hb9 hg9
                      have c2 := h9.rd.at_ (i := 2) rfl
                      have hbelE := h9.bel
                      clear h6 c2' f2 hb9 hg9 h9
                      go_wp2_with fail
                      go_quiet (fail)
                      go_wp2_with fail
                      go_ret3
                      rw [HX.out]
                      exact ⟨_, rfl, World.ownsRow_nil _ _ _ _, below_drewN hbelE nq⟩
                    · have HX : Hid (finS at_ (acc ++ [(last + d, last + d + d2, d3)]) (getS s.data.toList (m - (k + 1)) (last + d + d2) 1 q3) = finS at_ [] (getS s.data.toList m 0 0 q)) :=
                        Lib.hid (by rw [← HU.out, finS_go HG1.out ha1 ha2 HG2.out hc1 hc2 HG3.out hft, show m - (k + 1) = j by have := HJ.out; omega])
                      have hfc := Lib.hid (fun W => fits_any d3 W)
                      rw [hft] at hfc
                      have hfr := (fitsB_iff _).1 hft
                      clear hft HU
                      go_wp2_with fail
                      refine (hfc.out _).mono ?_
                      rintro r w6 ⟨rfl, rfl⟩
                      have h6 := HH6.out
                      clear HH6
                      generalize w5.setCell ⟨w1.heap.size, 2, none⟩ (.int .i64 d3) = W6 at *
                      go_wp2_with fail
                      refine (want_yes _ _ _ _ _ h6.rd).mono ?_
                      rintro r w7 ⟨rfl, rfl⟩
                      have k0 := h6.box.at_ (i := 0) (u := .int .i64 (last + d)) rfl
                      have k1 := h6.box.at_ (i := 1) (u := .int .i64 (last + d + d2)) rfl
                      have k2 := h6.box.at_ (i := 2) (u := .int .i64 d3) rfl
                      have HH6 := Lib.hid h6; clear h6 c2' f2
                      go_wp2_with (at_builtin; refine wpList_append_own _ rfl _ _ 26 rfl (w.heap.size + 1) 61 i0 (.agg #[.int .i64 0, .int .i64 0, .int .i64 0]) 3 24 Tryz.underlying26 hi hz0 hz1 hz2 rfl (by decide) _ _ _ rfl (HH6.out.own.alloc _) ⟨W6.heap.size, 0, none⟩ 1 1 [.int .i64 (last + d), .int .i64 (last + d + d2), .int .i64 d3] rfl rfl (World.news_of_block (cs := #[.int .i64 (last + d), .int .i64 (last + d + d2), .int .i64 d3]) (heap_alloc_new W6 _)) ?c1 ?c2 ?c3 ?c4 ?_)
                      case c1 => intro u hu; simp at hu; rcases hu with rfl | rfl | rfl <;> rfl
                      case c2 => unfold maxLen; omega
                      case c3 => omega
                      case c4 => have := HH6.out.lo; have := HH6.out.box.lt; simp; omega
                      intro v' w8 hown8 hgrow _
                      have hlo := HH6.out.lo
                      have hlt6 := HH6.out.box.lt
                      have hbel8 : Below w.heap.size w w8 := (HH6.out.bel.alloc HH6.out.bel.size _).grown hgrow (by have := HH6.out.bel.size; simp; omega) (fun k hk => by have := (HH6.out.own.lt k hk).1; omega)
                      have HB8 := Lib.hid ((HH6.out.rd.alloc _).grown hgrow (fun hk => by have := (HH6.out.own.lt _ hk.symm).1; omega))
                      have hsz8 : w.heap.size + 1 ≤ w8.heap.size := by have := hgrow.size; simp at this; omega
                      have hx8 := ((HH6.out.box.alloc (.cells #[.int .i64 (last + d), .int .i64 (last + d + d2), .int .i64 d3] 61)).grown hgrow (fun hk => HH6.out.far hk.symm)).at_ (i := 1) (u := .int .i64 (last + d + d2)) rfl
                      clear hgrow HH6 k0 k1 k2 hlo hlt6
                      go_wp2_with fail
                      go_roundw
                      case rel => exact ⟨k + 1, last + d + d2, 1, q3, acc ++ [(last + d, last + d + d2, d3)], by omega, by go_num, rfl, rfl, by omega, by omega, by omega, by omega, by rw [spans_snoc]; simpa [spCells] using hown8, by simp; omega, HB8, HX, hbel8, hsz8⟩
                      case measure => simp [intOf]; omega
                  · have hd0 := herr he
                    subst hd0
                    have HX : Hid (getSpans s.data.toList at_ = ([], at_, e)) := Lib.hid (by rw [HR.out, ← HU.out, finS_e3 HG1.out ha1 ha2 HG2.out hc1 hc2 HG3.out he])
                    have hne : (e == 0) = false := beq_eq_false_iff_ne.2 he
                    have hne' : (e != 0) = true := by rw [bne_iff_ne]; exact he
                    have hfc := Lib.hid (fun W => fits_any 0 W)
                    rw [show fitsB 0 = true from by decide] at hfc
                    go_wp2_with fail
                    refine (hfc.out _).mono ?_
                    rintro r w6 ⟨rfl, rfl⟩
                    have h6 := HH6.out
                    clear HH6
                    go_wp2_with fail
                    refine (want_err _ _ _ _ _ _ h6.rd he).mono ?_
                    rintro r w9 ⟨rfl, rfl⟩
                    have c2 := h6.rd.at_ (i := 2) rfl
                    have hbelE := h6.bel
                    clear h6 c2' f2
                    go_wp2_with fail
                    go_quiet (fail)
                    go_wp2_with fail
                    go_ret3
                    rw [HX.out]
                    exact ⟨_, rfl, World.ownsRow_nil _ _ _ _, below_drewN hbelE nq⟩
                · have HX : Hid (getSpans s.data.toList at_ = ([], at_, 4)) := Lib.hid (by rw [HR.out, ← HU.out, finS_f2 HG1.out ha1 ha2 HG2.out hc])
                  rcases hw with y3 | ⟨y3, y4⟩
                  all_goals
                    go_wp2_with fail
                    refine (want_no _ _ _ _ h3.rd).mono ?_
                    rintro r w9 ⟨rfl, hb9, hg9⟩
                    have h9 := h3.next hb9 hg9
                    have c2 := h9.rd.at_ (i := 2) rfl
                    have hbelE := h9.bel
                    clear h3 c0 c1 f1 hb9 hg9 h9
                    go_wp2_with fail
                    go_quiet (fail)
                    go_wp2_with fail
                    go_ret3
                    rw [HX.out]
                    exact ⟨_, rfl, World.ownsRow_nil _ _ _ _, below_drewN hbelE nq⟩
              · have hd0 := herr he
                subst hd0
                have HX : Hid (getSpans s.data.toList at_ = ([], at_, e)) := Lib.hid (by rw [HR.out, ← HU.out, finS_e2 HG1.out ha1 ha2 HG2.out he])
                have hne : (e == 0) = false := beq_eq_false_iff_ne.2 he
                have hne' : (e != 0) = true := by rw [bne_iff_ne]; exact he
                have y4 : decide (0 ≤ 1114111 - (last + d)) = true := by simp; omega
                go_wp2_with fail
                refine (want_err _ _ _ _ _ _ h3.rd he).mono ?_
                rintro r w9 ⟨rfl, rfl⟩
                have c2 := h3.rd.at_ (i := 2) rfl
                have hbelE := h3.bel
                clear h3 c0 c1 f1
                go_wp2_with fail
                go_quiet (fail)
                go_wp2_with fail
                go_ret3
                rw [HX.out]
                exact ⟨_, rfl, World.ownsRow_nil _ _ _ _, below_drewN hbelE nq⟩
            · have HX : Hid (getSpans s.data.toList at_ = ([], at_, 4)) := Lib.hid (by rw [HR.out, ← HU.out, finS_f1 HG1.out ha])
              rcases hw with y1 | ⟨y1, y2⟩
              all_goals
                go_wp2_with fail
                refine (want_no _ _ _ _ hb1).mono ?_
                rintro r w2 ⟨rfl, hb2, hg2⟩
                have hbel2 := below_of_grown hbel1 hg2 (Nat.le_refl _) (by omega)
                have c2 := hb2.at_ (i := 2) rfl
                clear hb1 hb2 hg2 hbel1
                go_wp2_with fail
                go_quiet (fail)
                go_wp2_with fail
                go_ret3
                rw [HX.out]
                exact ⟨_, rfl, World.ownsRow_nil _ _ _ _, below_drewN hbel2 nq⟩
          · have hd0 := herr he
            subst hd0
            have HX : Hid (getSpans s.data.toList at_ = ([], at_, e)) := Lib.hid (by rw [HR.out, ← HU.out, finS_e1 HG1.out he])
            have hne : (e == 0) = false := beq_eq_false_iff_ne.2 he
            have hne' : (e != 0) = true := by rw [bne_iff_ne]; exact he
            rcases two_ways gap 0 (1114111 - last) with ⟨_, _, y1, y2⟩ | ⟨_, y1 | ⟨y1, y2⟩⟩
            all_goals
              go_wp2_with fail
              refine (want_err _ _ _ _ _ _ hb1 he).mono ?_
              rintro r w2 ⟨rfl, rfl⟩
              have c2 := hb1.at_ (i := 2) rfl
              clear hb1
              go_wp2_with fail
              go_quiet (fail)
              go_wp2_with fail
              go_ret3
              rw [HX.out]
              exact ⟨_, rfl, World.ownsRow_nil _ _ _ _, below_drewN hbel1 nq⟩
        · obtain rfl : k = m := by omega
          have c1 := HB.out.at_ (i := 1) rfl
          have HX : Hid (getSpans s.data.toList at_ = (acc, p, 0)) := by
            refine Lib.hid ?_
            rw [HR.out, ← HU.out, Nat.sub_self, finS_end]
          go_wp2_with fail
          go_quiet (fail)
          go_wp2_with fail
          go_ret3
          rw [HX.out]
          exact ⟨_, rfl, own_low hown (by omega), below_drewN hbel nq⟩
  · have hn0 := herr he
    subst hn0
    have HR := Lib.hid (getSpans_err HG.out he)
    have hne : (e == 0) = false := beq_eq_false_iff_ne.2 he
    have hne' : (e != 0) = true := by rw [bne_iff_ne]; exact he
    go_wp2_with fail
    refine (want_err _ _ _ _ _ _ hb1 he).mono ?_
    rintro r w2 ⟨rfl, rfl⟩
    have c2 := hb1.at_ (i := 2) rfl
    clear hb1
    go_wp2_with fail
    refine wp_loop_rounds 1 ?_
    rw [rounds_succ]
    go_wp2_with fail
    go_quiet (fail)
    go_wp2_with fail
    go_ret3
    rw [HR.out]
    exact ⟨_, rfl, World.ownsRow_nil _ _ _ _, below_drewN hbel1 nq⟩
theorem getSpans_any (s : ByteArray) (at_ : Int) (w : World) (hs : s.size ≤ maxLen) :
    Calls Tryz.prog 74 #[.string s, .int .i64 at_] w (RetSpans w (getSpans s.data.toList at_)) :=
  (getSpansO_any s at_ w hs).mono fun _ _ ⟨v, e, ho, hb⟩ => ⟨v, e, Spans.of_own ho, hb⟩
end Go.Proofs.YtikcfoobfobmnaaGreatDoor
/-
  The walk through keep.Same at spans.
-/
namespace Go.Proofs.YtikcfoobfobmnaaGreatDoor
open Go.RowKit ND

theorem same_step_el {α : Type} {xs ys : List α} {k : Nat} {x : α} (h : xs.take k = ys.take k) (hx : xs[k]? = some x) (hy : ys[k]? = some x) : xs.take (k + 1) = ys.take (k + 1) := by
  obtain ⟨a, a'⟩ := List.getElem?_eq_some_iff.1 hx
  obtain ⟨b, b'⟩ := List.getElem?_eq_some_iff.1 hy
  rw [List.take_succ_eq_append_getElem a, List.take_succ_eq_append_getElem b, h, a', b']

set_option maxRecDepth 100000 in
set_option maxHeartbeats 1000000 in
theorem sameSpans_any (v u : Value) (xs ys : List Sp) (w : World) (hv : Spans w w.heap.size v xs) (hu : Spans w w.heap.size u ys) :
    Calls Tryz.prog 41 #[v, u] w fun e w' => e = .returned (.bool (decide (xs = ys))) ∧ Below w.heap.size w w' := by
  obtain ⟨A, c, rfl, hc1, hc2, _, hcell⟩ := hv
  obtain ⟨A', c', rfl, hc1', hc2', _, hcell'⟩ := hu
  have HC := Lib.hid hcell; clear hcell
  have HC' := Lib.hid hcell'; clear hcell'
  have hl : xs.length ≤ 9223372036854775807 := by unfold maxLen at hc2; omega
  clear hc2 hc2' hc1 hc1'
  by_cases hlen : xs.length = ys.length
  · have hb : ((xs.length : Int) != (ys.length : Int)) = false := by rw [hlen]; simp
    have hl1 : xs.length ≤ ys.length := by omega
    have hl2 : ys.length ≤ xs.length := by omega
    clear hlen
    obtain ⟨R, hR⟩ : ∃ R, R = decide (xs = ys) := ⟨_, rfl⟩
    rw [← hR]
    have HR := Lib.hid hR; clear hR
    go_enter Tryz.func41, Tryz.ntmps41
    go_wp2_with fail
    go_loopw [13] (fun i wr => ∃ k : Nat, k ≤ xs.length ∧ i = .int .i64 k ∧ Hid (xs.take k = ys.take k) ∧ Below w.heap.size w wr) (fun i _ => xs.length - (intOf i).toNat)
    case atStart => exact ⟨0, by omega, rfl, Lib.hid (by simp), Below.refl _ _⟩
    case round =>
      obtain ⟨k, hk, rfl, HS, hbel⟩ := hrel
      by_cases hlt : k < xs.length
      · obtain ⟨⟨f, t, x⟩, hxk, _⟩ := get_el hlt
        obtain ⟨⟨f', t', x'⟩, hyk, _⟩ := get_el (show k < ys.length by omega)
        obtain ⟨ad, rfl, ha, d0, d1, d2⟩ := HC.out k _ hxk
        obtain ⟨ad', rfl, ha', d0', d1', d2'⟩ := HC'.out k _ hyk
        simp only at d0 d1 d2 d0' d1' d2'
        obtain ⟨e0, e1, e2⟩ := span_cells hbel ha d0 d1 d2
        obtain ⟨e0', e1', e2'⟩ := span_cells hbel ha' d0' d1' d2'
        have HX := Lib.hid hxk
        have HY := Lib.hid hyk
        clear d0 d1 d2 d0' d1' d2' hxk hyk ha ha'
        have k0 : (0 : Int) ≤ (k : Int) := by omega
        have k1 : (k : Int) < (xs.length : Int) := by omega
        have k2 : (k : Int) < (ys.length : Int) := by omega
        have hways : (f, t, x) = (f', t', x') ∨ ((f, t, x) ≠ (f', t', x') ∧ ((f == f') = false ∨ ((f == f') = true ∧ (t == t') = false) ∨ ((f == f') = true ∧ (t == t') = true ∧ (x == x') = false))) := by
          by_cases h1 : f = f'
          · by_cases h2 : t = t'
            · by_cases h3 : x = x'
              · exact .inl (by rw [h1, h2, h3])
              · exact .inr ⟨fun h => h3 (by injection h with _ h; injection h), .inr (.inr ⟨by simp [h1], by simp [h2], by simp [h3]⟩)⟩
            · exact .inr ⟨fun h => h2 (by injection h with _ h; injection h), .inr (.inl ⟨by simp [h1], by simp [h2]⟩)⟩
          · exact .inr ⟨fun h => h1 (by injection h), .inl (by simp [h1])⟩
        rcases hways with hxy | ⟨hxy, hw⟩
        · have HT := Lib.hid (same_step_el HS.out HX.out (by rw [hxy]; exact HY.out))
          cases hxy
          go_wp2_with fail
          go_quiet (fail)
          go_wp2_with fail
          go_roundw
          case rel => exact ⟨k + 1, by omega, by go_num, HT, below_drewN hbel nq⟩
          case measure => simp [intOf]; omega
        · have HN : Hid (R = false) := by
            refine Lib.hid ?_
            rw [HR.out, decide_eq_false_iff_not]
            rintro rfl
            have := HX.out.symm.trans HY.out
            injection this with this
            exact hxy this
          clear hxy
          rcases hw with q0 | ⟨q0, q1⟩ | ⟨q0, q1, q2⟩
          all_goals
            go_wp2_with fail
            go_quiet (fail)
            go_wp2_with fail
            go_ret
            rw [HN.out]
            exact ⟨rfl, below_drewN hbel nq⟩
      · have HN : Hid (R = true) := by
          refine Lib.hid ?_
          rw [HR.out, decide_eq_true_iff]
          have h := HS.out
          rw [List.take_of_length_le (by omega), List.take_of_length_le (by omega)] at h
          exact h
        go_wp2_with fail
        go_ret
        rw [HN.out]
        exact ⟨rfl, hbel⟩
  · have hb : ((xs.length : Int) != (ys.length : Int)) = true := by rw [bne_iff_ne]; omega
    have hn : decide (xs = ys) = false := by
      rw [decide_eq_false_iff_not]; rintro rfl; exact hlen rfl
    rw [hn]
    clear hn hlen
    go_enter Tryz.func41, Tryz.ntmps41
    go_wp2_with fail
    go_ret
    exact ⟨rfl, Below.refl _ _⟩
end Go.Proofs.YtikcfoobfobmnaaGreatDoor
/-
  Sequences out of a list of mappings: the walk through table.copied.
-/
namespace Go.Proofs.YtikcfoobfobmnaaGreatDoor
open Go.RowKit ND

theorem find_len {l : List Mp} {c : Int} (h : ∀ m ∈ l, m.2.length ≤ 1000) : (findL l c).length ≤ 1000 := by
  by_cases hf : findL l c = []
  · rw [hf]; simp
  · exact h _ (findL_mem hf)

set_option maxRecDepth 100000 in
set_option maxHeartbeats 400000 in
theorem copied_any (v : Value) (ys : List Int) (w : World) (hv : Ints w w.heap.size .i64 v ys) (hl : ys.length ≤ 1000) :
    Calls Tryz.prog 66 #[v] w (RetSeq w ys) := by
  obtain ⟨i0, hi, hz0, hz1, hz2⟩ := info_parts Tryz.infoInt'
  have HV := Lib.hid hv; clear hv
  go_enter Tryz.func66, Tryz.ntmps66
  go_wp2_with (at_builtin
               refine wpList_append_ints (by rfl) (.const (.slice none 0 0)) (.tmp 3) rfl Tryz.underlying22 hi hz0 hz1 hz2 w.heap.size w.heap.size (.slice none 0 0) [] v ys rfl (World.ownsRow_nil _ _ _ _) rfl HV.out (by simp; omega) (Nat.le_refl _) ?_
               intro v1 w1 hown1 hg1 hn1)
  go_ret
  exact ⟨_, rfl, Ints.of_own (by simpa using hown1), fun h => hn1 h (by trivial), (Below.refl _ _).grown hg1 (Nat.le_refl _) (by simp [Value.ownBlock])⟩
end Go.Proofs.YtikcfoobfobmnaaGreatDoor
/-
  The walk through one sequence of table.
-/
namespace Go.Proofs.YtikcfoobfobmnaaGreatDoor
open Go.RowKit ND

end Go.Proofs.YtikcfoobfobmnaaGreatDoor
/-
  The walk through one sequence of table.
-/
namespace Go.Proofs.YtikcfoobfobmnaaGreatDoor
open Go.RowKit ND

end Go.Proofs.YtikcfoobfobmnaaGreatDoor
/-
  The walk through one sequence of table.
-/
namespace Go.Proofs.YtikcfoobfobmnaaGreatDoor
open Go.RowKit ND

end Go.Proofs.YtikcfoobfobmnaaGreatDoor
/-
  The walk through one sequence of table.
-/
namespace Go.Proofs.YtikcfoobfobmnaaGreatDoor
open Go.RowKit ND

set_option maxRecDepth 100000 in
set_option maxHeartbeats 400000 in
theorem maps_any (t : Tv) (T : Tab) (c : Int) (w : World) (ht : TabR w w.heap.size t T) (hs : sortM T.maps) (hne : ∀ m ∈ T.maps, m.2 ≠ [] ∧ m.2.length ≤ 1000) (hlen : T.maps.length ≤ 256) :
    Calls Tryz.prog 32 #[t.val, .int .i64 c] w (RetSeq w (T.mapsOf c)) := by
  have HP := Lib.hid (fun W (h : Mapps W W.heap.size t.c8 T.maps) => find_any t.c8 T.maps c W h hs (fun m hm => (hne m hm).1) hlen)
  have HS := Lib.hid (find_len (c := c) (fun m hm => (hne m hm).2))
  have hr := ht.r8
  have HR := Lib.hid (fun o : Obj => hr.later ((Below.refl _ _).alloc (Nat.le_refl _) o))
  clear hr ht hs hlen hne
  by_cases hc : 65 ≤ c ∧ c ≤ 90
  · have hm : T.mapsOf c = [c + 32] := by unfold Tab.mapsOf; rw [if_pos hc]
    rw [hm]
    clear hm HP HS HR
    obtain ⟨h0, h1⟩ := hc
    have hw : c + 97 - 65 = c + 32 := by omega
    have HW := Lib.hid hw
    clear hw
    go_enter Tryz.func32, Tryz.ntmps32
    go_wp2_with fail
    go_ret
    refine ⟨_, rfl, ⟨some ⟨w.heap.size + 1, 0, none⟩, 1, rfl, Nat.le_refl _, by decide, (by intro h; cases h), fun i x hi => ⟨_, rfl, by simp, ?_⟩⟩, fun h => (by cases h), ((Below.refl _ _).alloc (Nat.le_refl _) _).alloc (by simp) _⟩
    have h := cells_new (w.alloc (.cells t.cells 29)) [.int .i64 (c + 32)] 3 i (.int .i64 x) (by
      cases i with
      | zero => simp at hi ⊢; exact hi
      | succ i => simp at hi)
    rw [show (w.alloc (.cells t.cells 29)).heap.size = w.heap.size + 1 by simp, ← HW.out] at h
    exact h
  · have hm : T.mapsOf c = findL T.maps c := by unfold Tab.mapsOf; rw [if_neg hc]
    rw [hm]
    clear hm
    have hc' : c < 65 ∨ 90 < c := by omega
    clear hc
    rcases hc' with hc | hc
    all_goals
      go_enter Tryz.func32, Tryz.ntmps32
      go_wp2_with fail
      refine (HP.out _ (HR.out _)).mono ?_
      rintro e w1 ⟨v, rfl, hv, hn, b1⟩
      go_wp2_with fail
      refine (copied_any v _ w1 hv HS.out).mono ?_
      rintro e w2 ⟨v', rfl, hv', hn', b2⟩
      go_wp2_with fail
      go_ret
      exact ⟨_, rfl, hv', hn', below_next ((Below.refl _ _).alloc (Nat.le_refl _) _) (below_next b1 b2)⟩
end Go.Proofs.YtikcfoobfobmnaaGreatDoor
/-
  The walks through the sequences of table.
-/
/-
  The walk through one property of table.
-/
namespace Go.Proofs.YtikcfoobfobmnaaGreatDoor
open Go.RowKit ND

set_option maxRecDepth 100000 in
set_option maxHeartbeats 400000 in
theorem ownScript (W : World) (q : Int × Int × Int × Int) : Calls Tryz.prog 68 #[fixV q] W fun e W' => e = .returned (.int .i64 (q.2.2.1)) ∧ Below W.heap.size W W' := by
  unfold fixV
  go_enter Tryz.func68, Tryz.ntmps68
  go_wp2_with fail
  go_ret
  exact ⟨rfl, (Below.refl _ _).alloc (Nat.le_refl _) _⟩

set_option maxRecDepth 100000 in
set_option maxHeartbeats 400000 in
theorem script_any (t : Tv) (T : Tab) (c lo hi : Int) (w : World) (ht : TabR w w.heap.size t T) (hs : okS lo hi (-1) T.script = true) (hlen : T.script.length ≤ 256) :
    Calls Tryz.prog 33 #[t.val, .int .i64 c] w fun e w' => e = .returned (.int .i64 (T.scriptOf c)) ∧ Below w.heap.size w w' := by
  have HP := Lib.hid (fun W (h : Spans W W.heap.size t.c4 T.script) => pick_prop 68 (fun q => q.2.2.1) t.c4 T.script c lo hi W (enters_of Tryz.func68 (by kernel_rfl) rfl) ownScript h hs hlen)
  have hr := ht.r4
  have HR := Lib.hid (fun o : Obj => hr.later ((Below.refl _ _).alloc (Nat.le_refl _) o))
  clear hr ht hs hlen
  go_enter Tryz.func33, Tryz.ntmps33
  go_wp2_with fail
  refine (HP.out _ (HR.out _)).mono ?_
  rintro e w1 ⟨rfl, b1⟩
  go_wp2_with fail
  go_ret
  exact ⟨rfl, below_next ((Below.refl _ _).alloc (Nat.le_refl _) _) b1⟩
end Go.Proofs.YtikcfoobfobmnaaGreatDoor
/-
  The walk through one property of table.
-/
namespace Go.Proofs.YtikcfoobfobmnaaGreatDoor
open Go.RowKit ND

set_option maxRecDepth 100000 in
set_option maxHeartbeats 400000 in
theorem ownCategory (W : World) (q : Int × Int × Int × Int) : Calls Tryz.prog 69 #[fixV q] W fun e W' => e = .returned (.int .i64 (q.1)) ∧ Below W.heap.size W W' := by
  unfold fixV
  go_enter Tryz.func69, Tryz.ntmps69
  go_wp2_with fail
  go_ret
  exact ⟨rfl, (Below.refl _ _).alloc (Nat.le_refl _) _⟩

set_option maxRecDepth 100000 in
set_option maxHeartbeats 400000 in
theorem category_any (t : Tv) (T : Tab) (c lo hi : Int) (w : World) (ht : TabR w w.heap.size t T) (hs : okS lo hi (-1) T.category = true) (hlen : T.category.length ≤ 256) :
    Calls Tryz.prog 34 #[t.val, .int .i64 c] w fun e w' => e = .returned (.int .i64 (T.categoryOf c)) ∧ Below w.heap.size w w' := by
  have HP := Lib.hid (fun W (h : Spans W W.heap.size t.c0 T.category) => pick_prop 69 (fun q => q.1) t.c0 T.category c lo hi W (enters_of Tryz.func69 (by kernel_rfl) rfl) ownCategory h hs hlen)
  have hr := ht.r0
  have HR := Lib.hid (fun o : Obj => hr.later ((Below.refl _ _).alloc (Nat.le_refl _) o))
  clear hr ht hs hlen
  go_enter Tryz.func34, Tryz.ntmps34
  go_wp2_with fail
  refine (HP.out _ (HR.out _)).mono ?_
  rintro e w1 ⟨rfl, b1⟩
  go_wp2_with fail
  go_ret
  exact ⟨rfl, below_next ((Below.refl _ _).alloc (Nat.le_refl _) _) b1⟩
end Go.Proofs.YtikcfoobfobmnaaGreatDoor
/-
  The walks through law 4's awake and TableCheck.
-/
namespace Go.Proofs.YtikcfoobfobmnaaGreatDoor
open Go.RowKit ND

def nilTab : Tab := ⟨[], [], [], [], [], [], [], [], [], [], [], []⟩
def nilTv : Tv := ⟨.slice none 0 0, .slice none 0 0, .slice none 0 0, .slice none 0 0, .slice none 0 0, .slice none 0 0, .slice none 0 0, .slice none 0 0, .slice none 0 0, .slice none 0 0, .slice none 0 0, .slice none 0 0⟩
theorem nilTabR (w : World) (B : Nat) : TabR w B nilTv nilTab :=
  ⟨Spans.none_, Spans.none_, Spans.none_, Spans.none_, Spans.none_, Spans.none_, Spans.none_, Mapps.none_, Mapps.none_, Mapps.none_, Ints.none_, Mapps.none_⟩
theorem nilTab_check : nilTab.check = 0 := by decide +kernel

set_option maxRecDepth 100000 in
set_option maxHeartbeats 2000000 in
theorem awake4 (w : World) (hg : Glob w) : Calls Tryz.prog 11 #[] w fun e w' => e = .returned (.bool true) ∧ Below w.heap.size w w' := by
  have HG := Lib.hid (fun W (h : Below w.heap.size w W) => hg.later h)
  have H1 := Lib.hid (fun W h => check_table nilTv nilTab W (nilTabR W _) h)
  have H2 := Lib.hid (fun W => status_any nilTv nilTab 97 0 1114111 W (nilTabR W _) rfl (by decide))
  have H3 := Lib.hid (fun W => maps_any nilTv nilTab 65 W (nilTabR W _) (fun i j a b _ h => by cases h) (by intro m hm; cases hm) (by decide))
  have H4 := Lib.hid (fun W => script_any nilTv nilTab 44032 0 1114111 W (nilTabR W _) rfl (by decide))
  have H5 := Lib.hid (fun W => category_any nilTv nilTab 233 0 1114111 W (nilTabR W _) rfl (by decide))
  rw [nilTab_check] at H1
  rw [show nilTab.statusOf 97 = 1 by decide +kernel] at H2
  rw [show nilTab.mapsOf 65 = [97] by decide +kernel] at H3
  rw [show nilTab.scriptOf 44032 = 9 by decide +kernel] at H4
  rw [show nilTab.categoryOf 233 = 0 by decide +kernel] at H5
  have HB0 := Lib.hid (Blk.new w 29 #[.slice none 0 0, .slice none 0 0, .slice none 0 0, .slice none 0 0, .slice none 0 0, .slice none 0 0, .slice none 0 0, .slice none 0 0, .slice none 0 0, .slice none 0 0, .slice none 0 0, .slice none 0 0])
  have HW0 := Lib.hid (show Below w.heap.size w (w.alloc (.cells #[.slice none 0 0, .slice none 0 0, .slice none 0 0, .slice none 0 0, .slice none 0 0, .slice none 0 0, .slice none 0 0, .slice none 0 0, .slice none 0 0, .slice none 0 0, .slice none 0 0, .slice none 0 0] 29)) from (Below.refl _ _).alloc (Nat.le_refl _) _)
  clear hg
  go_enter Tryz.func11, Tryz.ntmps11
  go_wp2_with fail
  refine (H1.out _ (HG.out _ HW0.out)).mono ?_
  rintro e w1 ⟨rfl, b1⟩
  have HB1 := Lib.hid (HB0.out.later b1)
  have HW1 := Lib.hid (below_next HW0.out b1)
  obtain ⟨x0, x1, x2, x3, x4, x5, x6, x7, x8, x9, x10, x11⟩ := HB1.out.tab
  clear HB0 HW0 H1 b1
  go_wp2_with fail
  refine (H2.out _).mono ?_
  rintro e w2 ⟨rfl, b2⟩
  have HB2 := Lib.hid (HB1.out.later b2)
  have HW2 := Lib.hid (below_next HW1.out b2)
  clear x0 x1 x2 x3 x4 x5 x6 x7 x8 x9 x10 x11 HB1 HW1 H2 b2
  obtain ⟨x0, x1, x2, x3, x4, x5, x6, x7, x8, x9, x10, x11⟩ := HB2.out.tab
  go_wp2_with fail
  refine (H3.out _).mono ?_
  rintro e w3 ⟨v, rfl, hv, _, b3⟩
  have HB3 := Lib.hid (HB2.out.later b3)
  have HW3 := Lib.hid (below_next HW2.out b3)
  have HV := Lib.hid hv
  obtain ⟨Av, cv, rfl, _⟩ := hv
  clear x0 x1 x2 x3 x4 x5 x6 x7 x8 x9 x10 x11 HB2 HW2 H3 b3
  have hb4 := (Below.refl w3.heap.size w3).alloc (Nat.le_refl _) (.cells #[.int .i64 97] 3)
  have hi4 : Ints (w3.alloc (.cells #[.int .i64 97] 3)) (w3.alloc (.cells #[.int .i64 97] 3)).heap.size .i64 (.slice (some ⟨w3.heap.size, 0, none⟩) 1 1) [97] := ⟨_, _, rfl, Nat.le_refl _, by decide, (by intro h; cases h), fun i x hi => ⟨_, rfl, by simp, cells_new w3 [.int .i64 97] 3 i (.int .i64 x) (by
    cases i with
    | zero => simp at hi ⊢; exact hi
    | succ i => simp at hi)⟩⟩
  have HSA := Lib.hid (same_any _ _ [97] [97] _ (HV.out.later hb4) hi4)
  have HB4 := Lib.hid (HB3.out.later hb4)
  have HW4 := Lib.hid (below_next HW3.out hb4)
  rw [decide_eq_true rfl] at HSA
  clear HB3 HW3 hb4 hi4 HV
  go_wp2_with fail
  refine HSA.out.mono ?_
  rintro e w4 ⟨rfl, b4⟩
  have HB5 := Lib.hid (HB4.out.later b4)
  have HW5 := Lib.hid (below_next HW4.out b4)
  clear HB4 HW4 b4 HSA
  obtain ⟨x0, x1, x2, x3, x4, x5, x6, x7, x8, x9, x10, x11⟩ := HB5.out.tab
  go_wp2_with fail
  refine (H4.out _).mono ?_
  rintro e w5 ⟨rfl, b5⟩
  have HB6 := Lib.hid (HB5.out.later b5)
  have HW6 := Lib.hid (below_next HW5.out b5)
  clear x0 x1 x2 x3 x4 x5 x6 x7 x8 x9 x10 x11 HB5 HW5 H4 b5
  obtain ⟨x0, x1, x2, x3, x4, x5, x6, x7, x8, x9, x10, x11⟩ := HB6.out.tab
  go_wp2_with fail
  refine (H5.out _).mono ?_
  rintro e w6 ⟨rfl, b6⟩
  have HW7 := Lib.hid (below_next HW6.out b6)
  clear x0 x1 x2 x3 x4 x5 x6 x7 x8 x9 x10 x11 HB6 HW6 H5 b6
  go_wp2_with fail
  go_ret
  exact ⟨by simp, HW7.out⟩

end Go.Proofs.YtikcfoobfobmnaaGreatDoor
/-
  A witness for a row that lists the variable table.blocks: the heap that the door's own run leaves.
-/
namespace Go.Proofs.YtikcfoobfobmnaaGreatDoor
open Go.ChangeShapes Go.WideShapes Go.ChangeAt Go.RowKit

theorem witness_door {H : Type} {enc : TypeId × Value → H} {C : Checked} {os : Os} {f : FuncId} {fn : Func} {s : OpenSpec} {conds : List PathCond} {apart : Bool} {laid : List (String × DataW Unit)} (w0 : World) (args : Array Value) (hos : w0.os = os)
    (hsh : (w0.forCall (fun _ _ => 0) ⟨#[], args, []⟩).Shaped C.prog)
    (hok : Input.okWideB C.prog (w0.forCall (fun _ _ => 0) ⟨#[], args, []⟩) f ⟨#[], args, []⟩ = true)
    (hrow : s.preRow enc C.prog fn conds apart laid (w0.forCall (fun _ _ => 0) ⟨#[], args, []⟩).memory args) :
    ∃ (w : World) (tape : Tape) (i : Input), w.os = os ∧ (w.forCall tape i).Shaped C.prog ∧ i.vars = [] ∧ Input.okWide C.prog (w.forCall tape i) .any w.heap.size f i ∧
      s.preRow enc C.prog fn conds apart laid (w.forCall tape i).memory i.args ∧ ({ modest := false } : Assume).holds C.prog (lone (Frame.enter C.prog f i.args .normal) [] (w.forCall tape i)) :=
  ⟨w0, fun _ _ => 0, ⟨#[], args, []⟩, hos, hsh, (Input.okWide_of_okWideB (base := 0) hok).1, (Input.okWide_of_okWideB hok).2, hrow, by
    simp only [Assume.holds]
    exact ⟨by simp, by simp, fun _ => Modest.zero, by simp, by simp⟩⟩
end Go.Proofs.YtikcfoobfobmnaaGreatDoor
/-
  What every law's row asks of the call, once the walk is there: the call returns true, and below the old heap nothing has turned; so each argument reads as it read.
-/
namespace Go.Proofs.YtikcfoobfobmnaaGreatDoor
open Go.ChangeShapes Go.WideShapes Go.ChangeAt Go.RowKit

theorem Tryz.own_ : ownKnob Tryz.prog.godebug = none := by kernel_rfl
theorem Tryz.laidOut_ : laidOutB Tryz.prog = true := by kernel_rfl

section
variable {H : Type} {enc : TypeId × Value → H} {P : Program} {W W' : World}

theorem trodAll_below (hl : laidOutB P = true) (hb : Below W.heap.size W W') : ∀ (ts : List TypeId) (vs : List Value) (ds : List (DataW H)) (ps : List MemPlace),
    (∀ t ∈ ts, P.readableRec t = true ∧ t < P.types.size) → (∀ x ∈ ps, x.block < W.heap.size) →
    DataW.TrodAll enc P W 0 (fun _ => true) true ts vs ds ps → DataW.TrodAll enc P W' 0 (fun b => decide (b < W.heap.size)) true ts vs ds ps
  | [], [], [], _, _, _, h => h
  | t :: ts, v :: vs, d :: ds, ps, hk, hlt, h => by
    obtain ⟨p, q, hp, hq, rfl⟩ := h
    have ht := hk t (by simp)
    exact ⟨p, q, Below.trod hl ht.1 ht.2 hp hb (fun x hx => hlt x (by simp [hx])),
      trodAll_below hl hb ts vs ds q (fun t h => hk t (by simp [h])) (fun x hx => hlt x (by simp [hx])) hq, rfl⟩
  | [], _ :: _, _, _, _, _, h => by simp [DataW.TrodAll] at h
  | [], [], _ :: _, _, _, _, h => by simp [DataW.TrodAll] at h
  | _ :: _, [], _, _, _, _, h => by simp [DataW.TrodAll] at h
  | _ :: _, _ :: _, [], _, _, _, h => by simp [DataW.TrodAll] at h

theorem law_post {f : Func} {s : ChangeSpec} {tb : TypeId} {args : Array Value} {ds : List (DataW H)} {before : List MemPlace} (hl : laidOutB P = true)
    (hk : ∀ t ∈ f.params.toList, P.readableRec t = true ∧ t < P.types.size) (hres : f.resultTypes = #[tb]) (hbool : P.underlying tb = some .bool) (hvars : s.vars = [])
    (hW : DataW.Whole enc P f.params.toList s.vars false W args.toList ds [] before) (hfn : s.fn H (ds ++ []) = { results := [.lit (.bool true)], args := ds })
    (hb : Below W.heap.size W W') : s.post enc P f false true false false W args (.bool true) W' := by
  have hlt : ∀ x ∈ before, x.block < W.heap.size := fun x hx => hW.lt x hx
  have hW' := hW
  obtain ⟨p, q, hA, hV, rfl, _, _⟩ := hW'
  rw [hvars] at hV
  obtain ⟨_, rfl⟩ := trodVars_none hV
  refine ⟨ds, [], p ++ [], [], p, [], hW, ?_, ?_, ?_, hb.frame _, fun h => by cases h⟩
  · rw [hfn, hres]
    exact trodAll_cons_mk (shut_bool hbool true) trodAll_mk0
  · rw [hfn]
    exact trodAll_below hl hb _ _ _ _ hk (fun x hx => hlt x (by simp [hx])) hA
  · rw [hfn, hvars]; rfl
end
end Go.Proofs.YtikcfoobfobmnaaGreatDoor
