/-
  The walk through packed.GetSpans.
-/
import Derived.Test.YtmbphpocbajlmaaGetSpansP
import Derived.Test.YtmbphpocbajlmaaCheck
import Derived.Test.YtmbphpocbajlmaaPkGetList
import Derived.Deep.AppendLies
namespace Go.Proofs.Ytmbphpocbajlmaa
open Go.RowKit ND

theorem Try.infoSpan : (Try.prog.info? 60).map (fun i => (i.zero, i.size, i.bytes)) = some (some (.agg #[.int .i64 0, .int .i64 0, .int .i64 0]), 3, 24) := by kernel_rfl

/-- Spans, an index and an error come back. -/
def RetSpans (w : World) (r : List Sp × Int × Int) (e : Ending) (w' : World) : Prop :=
  ∃ v, e = .returned (.tuple #[v, .int .i64 r.2.1, .int .i64 r.2.2]) ∧ Spans w' w'.heap.size v r.1 ∧ Below w.heap.size w w'

theorem spans_snoc (acc : List Sp) (x : Sp) : (acc ++ [x]).flatMap spCells = acc.flatMap spCells ++ spCells x := by simp

/-- The ways through a test 'lo ≤ d && d ≤ hi'. -/
theorem two_ways (lo d hi : Int) : (lo ≤ d ∧ d ≤ hi ∧ decide (lo ≤ d) = true ∧ decide (d ≤ hi) = true) ∨ ((d < lo ∨ hi < d) ∧ (decide (lo ≤ d) = false ∨ decide (lo ≤ d) = true ∧ decide (d ≤ hi) = false)) := by
  simp only [decide_eq_true_eq, decide_eq_false_iff_not]; omega

/-- The reader in its block, the span that is being read in its box, the spans so far. -/
structure RdS (w wr : World) (xb : Nat) (s : ByteArray) (p e : Int) (x : Array Value) (out : Value) (acc : List Sp) : Prop where
  rd : Blk wr w.heap.size 75 #[.string s, .int .i64 p, .int .i64 e]
  box : Blk wr xb 60 x
  own : wr.ownsRow (w.heap.size + 1) 60 3 out acc.length (acc.flatMap spCells)
  bel : Below w.heap.size w wr
  lo : w.heap.size + 1 ≤ xb
  far : out.ownBlock ≠ some xb
section
variable {w wr w' : World} {xb : Nat} {s : ByteArray} {p e p' e' : Int} {x : Array Value} {out : Value} {acc : List Sp}
theorem RdS.new (hb : Blk wr w.heap.size 75 #[.string s, .int .i64 p, .int .i64 e]) (hown : wr.ownsRow (w.heap.size + 1) 60 3 out acc.length (acc.flatMap spCells)) (hbel : Below w.heap.size w wr) (hsz : w.heap.size + 1 ≤ wr.heap.size) (x : Array Value) :
    RdS w (wr.alloc (.cells x 60)) wr.heap.size s p e x out acc :=
  ⟨hb.alloc _, Blk.new _ _ _, hown.alloc _, hbel.alloc hbel.size _, hsz, fun h => by have := (hown.lt _ h).2; omega⟩
theorem RdS.next (h : RdS w wr xb s p e x out acc) (hb : Blk w' w.heap.size 75 #[.string s, .int .i64 p', .int .i64 e']) (hg : wr.grownBy w' (some w.heap.size)) : RdS w w' xb s p' e' x out acc :=
  ⟨hb, h.box.grown hg (by intro e; cases e; have := h.lo; omega), own_grown h.own hg (by omega), below_of_grown h.bel hg (Nat.le_refl _) h.bel.size, h.lo, h.far⟩
theorem RdS.put (h : RdS w wr xb s p e x out acc) (i : Nat) (u : Value) : RdS w (wr.setCell ⟨xb, i, none⟩ u) xb s p e (x.setIfInBounds i u) out acc :=
  ⟨h.rd.far (p := ⟨xb, i, none⟩) (by have := h.lo; show w.heap.size ≠ xb; omega) u, h.box.put i u, h.own.kept (row := some xb) (grown_setCell (grown_refl _ _) i u) (.inr h.far), h.bel.setCell (p := ⟨xb, i, none⟩) (by have := h.lo; show w.heap.size ≤ xb; omega) u, h.lo, h.far⟩
end

set_option maxRecDepth 100000 in
set_option maxHeartbeats 2000000 in
theorem getSpans_any (s : ByteArray) (at_ : Int) (w : World) (hs : s.size ≤ maxLen) :
    Calls Try.prog 42 #[.string s, .int .i64 at_] w (RetSpans w (getSpans s.data.toList at_)) := by
  obtain ⟨i0, hi, hz0, hz1, hz2⟩ := info_parts Try.infoSpan
  have hb0 : Blk (w.alloc (.cells #[.string s, .int .i64 at_, .int .i64 0] 75)) w.heap.size 75 #[.string s, .int .i64 at_, .int .i64 0] := Blk.new w _ _
  have hbel0 : Below w.heap.size w (w.alloc (.cells #[.string s, .int .i64 at_, .int .i64 0] 75)) := (Below.refl _ _).alloc (Nat.le_refl _) _
  have hsz0 : w.heap.size + 1 ≤ (w.alloc (.cells #[.string s, .int .i64 at_, .int .i64 0] 75)).heap.size := by simp
  have hnext := Lib.hid (next_ok _ _ s at_ hs hb0)
  have herr := getInt_err0 s.data.toList at_
  obtain ⟨n, q, e, hg⟩ : ∃ n q e, getInt s.data.toList at_ = (n, q, e) := ⟨_, _, _, rfl⟩
  rw [hg] at hnext herr
  simp only at hnext herr
  have HG := Lib.hid hg; clear hg
  clear hb0
  go_enter Try.func42, Try.ntmps42
  go_wp2_with fail
  refine hnext.out.mono ?_
  rintro r w1 ⟨rfl, hb1, hg1⟩
  have hbel1 := below_of_grown hbel0 hg1 (Nat.le_refl _) (by omega)
  have hsz1 := Nat.le_trans hsz0 hg1.size
  clear hnext hbel0 hsz0 hg1
  by_cases he : e = 0
  · subst he
    by_cases hn : n < 0 ∨ 256 < n
    · have HR := Lib.hid (getSpans_form HG.out hn)
      have hn' : (n < 0 ∧ decide (0 ≤ n) = false) ∨ (256 < n ∧ decide (0 ≤ n) = true ∧ decide (n ≤ 256) = false) := by
        rcases hn with h | h
        · exact .inl ⟨h, by simp; omega⟩
        · exact .inr ⟨h, by simp; omega, by simp; omega⟩
      clear hn
      rcases hn' with ⟨hn, hd⟩ | ⟨hn, hd, hd'⟩
      all_goals
        go_wp2_with fail
        refine (want_no _ _ _ _ hb1).mono ?_
        rintro r w2 ⟨rfl, hb2, hg2⟩
        have hbel2 := below_of_grown hbel1 hg2 (Nat.le_refl _) (by omega)
        have c2 := hb2.at_ (i := 2) rfl
        clear hb1 hb2 hg2 hbel1
        go_wp2_with fail
        refine wp_loop_rounds 1 ?_
        rw [rounds_succ]
        go_wp2_with fail
        go_quiet (fail)
        go_wp2_with fail
        go_ret3
        rw [HR.out]
        exact ⟨_, rfl, Spans.none_, below_drewN hbel2 nq⟩
    · obtain ⟨m, rfl⟩ := Int.eq_ofNat_of_zero_le (show 0 ≤ n by omega)
      have hm : m ≤ 256 := by omega
      have HR := Lib.hid (getSpans_go HG.out hm)
      have hd : decide ((m : Int) ≤ 256) = true := by simp; omega
      clear hn
      go_wp2_with fail
      refine (want_yes _ _ _ _ _ hb1).mono ?_
      rintro r w2 ⟨rfl, rfl⟩
      go_wp2_with fail
      go_loopw [9, 10, 11, 12] (fun out lv gv i wr => ∃ (k : Nat) (last gap p : Int) (acc : List Sp), k ≤ m ∧ i = .int .i64 k ∧ lv = .int .i64 last ∧ gv = .int .i64 gap ∧ 0 ≤ last ∧ last ≤ 1114111 ∧ 0 ≤ gap ∧ gap ≤ 1 ∧ wr.ownsRow (w.heap.size + 1) 60 3 out acc.length (acc.flatMap spCells) ∧ acc.length ≤ k ∧
          Hid (Blk wr w.heap.size 75 #[.string s, .int .i64 p, .int .i64 0]) ∧ Hid (finS at_ acc (getS s.data.toList (m - k) last gap p) = finS at_ [] (getS s.data.toList m 0 0 q)) ∧ Below w.heap.size w wr ∧ w.heap.size + 1 ≤ wr.heap.size) (fun _ _ _ i _ => m - (intOf i).toNat)
      case atStart => exact ⟨0, 0, 0, q, [], by omega, rfl, rfl, rfl, by omega, by omega, by omega, by omega, World.ownsRow_nil _ _ _ _, by simp, Lib.hid hb1, Lib.hid rfl, hbel1, hsz1⟩
      case round =>
        obtain ⟨k, last, gap, p, acc, hk, rfl, rfl, rfl, hl1, hl2, hgp1, hgp2, hown, hal, HB, HU, hbel, hsz⟩ := hrel
        clear hb1 hbel1 hsz1
        have c2 := HB.out.at_ (i := 2) rfl
        by_cases hlt : k < m
        · have hnext := Lib.hid (next_ok wr _ s p hs HB.out)
          have herr := getInt_err0 s.data.toList p
          obtain ⟨d, q1, e, hg⟩ : ∃ d q1 e, getInt s.data.toList p = (d, q1, e) := ⟨_, _, _, rfl⟩
          rw [hg] at hnext herr
          simp only at hnext herr
          have HG1 := Lib.hid hg; clear hg
          obtain ⟨j, hj⟩ : ∃ j, m - k = j + 1 := ⟨m - k - 1, by omega⟩
          rw [hj] at HU
          have HJ := Lib.hid hj; clear hj
          clear HB
          go_wp2_with fail
          refine hnext.out.mono ?_
          rintro r w1 ⟨rfl, hb1, hg1⟩
          have hbel1 := below_of_grown hbel hg1 (Nat.le_refl _) (by omega)
          have hsz1 := Nat.le_trans hsz hg1.size
          have hown1 := own_grown hown hg1 (by omega)
          clear hnext hg1 hbel hsz hown c2
          by_cases he : e = 0
          · subst he
            clear herr
            rcases two_ways gap d (1114111 - last) with ⟨ha1, ha2, y1, y2⟩ | ⟨ha, hw⟩
            · have h2 := RdS.new hb1 hown1 hbel1 hsz1 #[.int .i64 (last + d), .int .i64 0, .int .i64 0]
              have hnext := Lib.hid (next_ok _ _ s q1 hs h2.rd)
              have herr := getInt_err0 s.data.toList q1
              obtain ⟨d2, q2, e, hg⟩ : ∃ d2 q2 e, getInt s.data.toList q1 = (d2, q2, e) := ⟨_, _, _, rfl⟩
              rw [hg] at hnext herr
              simp only at hnext herr
              have HG2 := Lib.hid hg; clear hg
              have HH2 := Lib.hid h2; clear h2
              go_wp2_with fail
              refine (want_yes _ _ _ _ _ hb1).mono ?_
              rintro r w2 ⟨rfl, rfl⟩
              clear hb1 hown1 hbel1 hsz1
              go_wp2_with fail
              refine hnext.out.mono ?_
              rintro r w3 ⟨rfl, hb3, hg3⟩
              have h3 := HH2.out.next hb3 hg3
              have c0 := h3.box.at_ (i := 0) rfl
              have c1 := h3.box.at_ (i := 1) rfl
              have f1 := h3.box.free 1
              clear hnext HH2 hb3 hg3
              by_cases he : e = 0
              · subst he
                clear herr
                rcases two_ways 0 d2 (1114111 - (last + d)) with ⟨hc1, hc2, y3, y4⟩ | ⟨hc, hw⟩
                · have h4 := h3.put 1 (.int .i64 (last + d + d2))
                  have hnext := Lib.hid (next_ok _ _ s q2 hs h4.rd)
                  have herr := getInt_err0 s.data.toList q2
                  obtain ⟨d3, q3, e, hg⟩ : ∃ d3 q3 e, getInt s.data.toList q2 = (d3, q3, e) := ⟨_, _, _, rfl⟩
                  rw [hg] at hnext herr
                  simp only at hnext herr
                  have HG3 := Lib.hid hg; clear hg
                  have HH4 := Lib.hid h4; clear h4
                  go_wp2_with fail
                  refine (want_yes _ _ _ _ _ h3.rd).mono ?_
                  rintro r w4 ⟨rfl, rfl⟩
                  clear h3
                  go_wp2_with fail
                  refine hnext.out.mono ?_
                  rintro r w5 ⟨rfl, hb5, hg5⟩
                  have h5 := HH4.out.next hb5 hg5
                  clear hnext HH4 hb5 hg5 c0 c1 f1
                  have c2' := h5.box.at_ (i := 2) (u := .int .i64 0) rfl
                  have f2 := h5.box.free 2
                  have h6 := h5.put 2 (.int .i64 d3)
                  have HH6 := Lib.hid h6; clear h6 h5
                  by_cases he : e = 0
                  · subst he
                    clear herr
                    cases hft : fitsB d3
                    · have HX : Hid (getSpans s.data.toList at_ = ([], at_, 4)) := Lib.hid (by rw [HR.out, ← HU.out, finS_f3 HG1.out ha1 ha2 HG2.out hc1 hc2 HG3.out hft])
                      have hfc := Lib.hid (fun W => fits_any d3 W)
                      rw [hft] at hfc
                      clear hft
                      go_wp2_with fail
                      refine (hfc.out _).mono ?_
                      rintro r w6 ⟨rfl, rfl⟩
                      have h6 := HH6.out
                      clear HH6
                      go_wp2_with fail
                      refine (want_no _ _ _ _ h6.rd).mono ?_
                      rintro r w9 ⟨rfl, hb9, hg9⟩
                      have h9 := h6.next hb9 hg9
                      have c2 := h9.rd.at_ (i := 2) rfl
                      have hbelE := h9.bel
                      clear h6 c2' f2 hb9 hg9 h9
                      go_wp2_with fail
                      go_quiet (fail)
                      go_wp2_with fail
                      go_ret3
                      rw [HX.out]
                      exact ⟨_, rfl, Spans.none_, below_drewN hbelE nq⟩
                    · have HX : Hid (finS at_ (acc ++ [(last + d, last + d + d2, d3)]) (getS s.data.toList (m - (k + 1)) (last + d + d2) 1 q3) = finS at_ [] (getS s.data.toList m 0 0 q)) :=
                        Lib.hid (by rw [← HU.out, finS_go HG1.out ha1 ha2 HG2.out hc1 hc2 HG3.out hft, show m - (k + 1) = j by have := HJ.out; omega])
                      have hfc := Lib.hid (fun W => fits_any d3 W)
                      rw [hft] at hfc
                      have hfr := (fitsB_iff _).1 hft
                      clear hft HU
                      go_wp2_with fail
                      refine (hfc.out _).mono ?_
                      rintro r w6 ⟨rfl, rfl⟩
                      have h6 := HH6.out
                      clear HH6
                      generalize w5.setCell ⟨w1.heap.size, 2, none⟩ (.int .i64 d3) = W6 at *
                      go_wp2_with fail
                      refine (want_yes _ _ _ _ _ h6.rd).mono ?_
                      rintro r w7 ⟨rfl, rfl⟩
                      have k0 := h6.box.at_ (i := 0) (u := .int .i64 (last + d)) rfl
                      have k1 := h6.box.at_ (i := 1) (u := .int .i64 (last + d + d2)) rfl
                      have k2 := h6.box.at_ (i := 2) (u := .int .i64 d3) rfl
                      have HH6 := Lib.hid h6; clear h6 c2' f2
                      go_wp2_with (at_builtin; refine wpList_append_own _ rfl _ _ 43 rfl (w.heap.size + 1) 60 i0 (.agg #[.int .i64 0, .int .i64 0, .int .i64 0]) 3 24 Try.underlying43 hi hz0 hz1 hz2 rfl (by decide) _ _ _ rfl (HH6.out.own.alloc _) ⟨W6.heap.size, 0, none⟩ 1 1 [.int .i64 (last + d), .int .i64 (last + d + d2), .int .i64 d3] rfl rfl (World.news_of_block (cs := #[.int .i64 (last + d), .int .i64 (last + d + d2), .int .i64 d3]) (heap_alloc_new W6 _)) ?c1 ?c2 ?c3 ?c4 ?_)
                      case c1 => intro u hu; simp at hu; rcases hu with rfl | rfl | rfl <;> rfl
                      case c2 => unfold maxLen; omega
                      case c3 => omega
                      case c4 => have := HH6.out.lo; have := HH6.out.box.lt; simp; omega
                      intro v' w8 hown8 hgrow _
                      have hlo := HH6.out.lo
                      have hlt6 := HH6.out.box.lt
                      have hbel8 : Below w.heap.size w w8 := (HH6.out.bel.alloc HH6.out.bel.size _).grown hgrow (by have := HH6.out.bel.size; simp; omega) (fun k hk => by have := (HH6.out.own.lt k hk).1; omega)
                      have HB8 := Lib.hid ((HH6.out.rd.alloc _).grown hgrow (fun hk => by have := (HH6.out.own.lt _ hk.symm).1; omega))
                      have hsz8 : w.heap.size + 1 ≤ w8.heap.size := by have := hgrow.size; simp at this; omega
                      have hx8 := ((HH6.out.box.alloc (.cells #[.int .i64 (last + d), .int .i64 (last + d + d2), .int .i64 d3] 60)).grown hgrow (fun hk => HH6.out.far hk.symm)).at_ (i := 1) (u := .int .i64 (last + d + d2)) rfl
                      clear hgrow HH6 k0 k1 k2 hlo hlt6
                      go_wp2_with fail
                      go_roundw
                      case rel => exact ⟨k + 1, last + d + d2, 1, q3, acc ++ [(last + d, last + d + d2, d3)], by omega, by go_num, rfl, rfl, by omega, by omega, by omega, by omega, by rw [spans_snoc]; simpa [spCells] using hown8, by simp; omega, HB8, HX, hbel8, hsz8⟩
                      case measure => simp [intOf]; omega
                  · have hd0 := herr he
                    subst hd0
                    have HX : Hid (getSpans s.data.toList at_ = ([], at_, e)) := Lib.hid (by rw [HR.out, ← HU.out, finS_e3 HG1.out ha1 ha2 HG2.out hc1 hc2 HG3.out he])
                    have hne : (e == 0) = false := beq_eq_false_iff_ne.2 he
                    have hne' : (e != 0) = true := by rw [bne_iff_ne]; exact he
                    have hfc := Lib.hid (fun W => fits_any 0 W)
                    rw [show fitsB 0 = true from by decide] at hfc
                    go_wp2_with fail
                    refine (hfc.out _).mono ?_
                    rintro r w6 ⟨rfl, rfl⟩
                    have h6 := HH6.out
                    clear HH6
                    go_wp2_with fail
                    refine (want_err _ _ _ _ _ _ h6.rd he).mono ?_
                    rintro r w9 ⟨rfl, rfl⟩
                    have c2 := h6.rd.at_ (i := 2) rfl
                    have hbelE := h6.bel
                    clear h6 c2' f2
                    go_wp2_with fail
                    go_quiet (fail)
                    go_wp2_with fail
                    go_ret3
                    rw [HX.out]
                    exact ⟨_, rfl, Spans.none_, below_drewN hbelE nq⟩
                · have HX : Hid (getSpans s.data.toList at_ = ([], at_, 4)) := Lib.hid (by rw [HR.out, ← HU.out, finS_f2 HG1.out ha1 ha2 HG2.out hc])
                  rcases hw with y3 | ⟨y3, y4⟩
                  all_goals
                    go_wp2_with fail
                    refine (want_no _ _ _ _ h3.rd).mono ?_
                    rintro r w9 ⟨rfl, hb9, hg9⟩
                    have h9 := h3.next hb9 hg9
                    have c2 := h9.rd.at_ (i := 2) rfl
                    have hbelE := h9.bel
                    clear h3 c0 c1 f1 hb9 hg9 h9
                    go_wp2_with fail
                    go_quiet (fail)
                    go_wp2_with fail
                    go_ret3
                    rw [HX.out]
                    exact ⟨_, rfl, Spans.none_, below_drewN hbelE nq⟩
              · have hd0 := herr he
                subst hd0
                have HX : Hid (getSpans s.data.toList at_ = ([], at_, e)) := Lib.hid (by rw [HR.out, ← HU.out, finS_e2 HG1.out ha1 ha2 HG2.out he])
                have hne : (e == 0) = false := beq_eq_false_iff_ne.2 he
                have hne' : (e != 0) = true := by rw [bne_iff_ne]; exact he
                have y4 : decide (0 ≤ 1114111 - (last + d)) = true := by simp; omega
                go_wp2_with fail
                refine (want_err _ _ _ _ _ _ h3.rd he).mono ?_
                rintro r w9 ⟨rfl, rfl⟩
                have c2 := h3.rd.at_ (i := 2) rfl
                have hbelE := h3.bel
                clear h3 c0 c1 f1
                go_wp2_with fail
                go_quiet (fail)
                go_wp2_with fail
                go_ret3
                rw [HX.out]
                exact ⟨_, rfl, Spans.none_, below_drewN hbelE nq⟩
            · have HX : Hid (getSpans s.data.toList at_ = ([], at_, 4)) := Lib.hid (by rw [HR.out, ← HU.out, finS_f1 HG1.out ha])
              rcases hw with y1 | ⟨y1, y2⟩
              all_goals
                go_wp2_with fail
                refine (want_no _ _ _ _ hb1).mono ?_
                rintro r w2 ⟨rfl, hb2, hg2⟩
                have hbel2 := below_of_grown hbel1 hg2 (Nat.le_refl _) (by omega)
                have c2 := hb2.at_ (i := 2) rfl
                clear hb1 hb2 hg2 hbel1
                go_wp2_with fail
                go_quiet (fail)
                go_wp2_with fail
                go_ret3
                rw [HX.out]
                exact ⟨_, rfl, Spans.none_, below_drewN hbel2 nq⟩
          · have hd0 := herr he
            subst hd0
            have HX : Hid (getSpans s.data.toList at_ = ([], at_, e)) := Lib.hid (by rw [HR.out, ← HU.out, finS_e1 HG1.out he])
            have hne : (e == 0) = false := beq_eq_false_iff_ne.2 he
            have hne' : (e != 0) = true := by rw [bne_iff_ne]; exact he
            rcases two_ways gap 0 (1114111 - last) with ⟨_, _, y1, y2⟩ | ⟨_, y1 | ⟨y1, y2⟩⟩
            all_goals
              go_wp2_with fail
              refine (want_err _ _ _ _ _ _ hb1 he).mono ?_
              rintro r w2 ⟨rfl, rfl⟩
              have c2 := hb1.at_ (i := 2) rfl
              clear hb1
              go_wp2_with fail
              go_quiet (fail)
              go_wp2_with fail
              go_ret3
              rw [HX.out]
              exact ⟨_, rfl, Spans.none_, below_drewN hbel1 nq⟩
        · obtain rfl : k = m := by omega
          have c1 := HB.out.at_ (i := 1) rfl
          have HX : Hid (getSpans s.data.toList at_ = (acc, p, 0)) := by
            refine Lib.hid ?_
            rw [HR.out, ← HU.out, Nat.sub_self, finS_end]
          go_wp2_with fail
          go_quiet (fail)
          go_wp2_with fail
          go_ret3
          rw [HX.out]
          exact ⟨_, rfl, Spans.of_own hown, below_drewN hbel nq⟩
  · have hn0 := herr he
    subst hn0
    have HR := Lib.hid (getSpans_err HG.out he)
    have hne : (e == 0) = false := beq_eq_false_iff_ne.2 he
    have hne' : (e != 0) = true := by rw [bne_iff_ne]; exact he
    go_wp2_with fail
    refine (want_err _ _ _ _ _ _ hb1 he).mono ?_
    rintro r w2 ⟨rfl, rfl⟩
    have c2 := hb1.at_ (i := 2) rfl
    clear hb1
    go_wp2_with fail
    refine wp_loop_rounds 1 ?_
    rw [rounds_succ]
    go_wp2_with fail
    go_quiet (fail)
    go_wp2_with fail
    go_ret3
    rw [HR.out]
    exact ⟨_, rfl, Spans.none_, below_drewN hbel1 nq⟩
end Go.Proofs.Ytmbphpocbajlmaa
