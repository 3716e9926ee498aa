/-
  The walk through the reference's GetSpans.
-/
import Derived.Test.YtmbphpocbajlmaaGetSpans
import Derived.Test.YtmbphpocbajlmaaRefGetList
import Derived.Laws.OwnMore
namespace Go.Proofs.Ytmbphpocbajlmaa
open Go.RowKit ND

theorem flat_len (acc : List Sp) : (acc.flatMap spCells).length = acc.length * 3 := by
  induction acc with
  | nil => rfl
  | cons a r ih => simp only [List.flatMap_cons, List.length_append, ih, List.length_cons]; have : (spCells a).length = 3 := rfl; omega
theorem flat_set1 (acc : List Sp) (f t v u : Int) : ((acc ++ [(f, t, v)]).flatMap spCells).set (acc.length * 3 + 1) (.int .i64 u) = (acc ++ [(f, u, v)]).flatMap spCells := by
  rw [spans_snoc, spans_snoc, List.set_append_right _ _ (by rw [flat_len]; omega), flat_len, show acc.length * 3 + 1 - acc.length * 3 = 1 by omega]; rfl
theorem flat_set2 (acc : List Sp) (f t v u : Int) : ((acc ++ [(f, t, v)]).flatMap spCells).set (acc.length * 3 + 2) (.int .i64 u) = (acc ++ [(f, t, u)]).flatMap spCells := by
  rw [spans_snoc, spans_snoc, List.set_append_right _ _ (by rw [flat_len]; omega), flat_len, show acc.length * 3 + 2 - acc.length * 3 = 2 by omega]; rfl

/-- A row of spans of the call's own: the last span's cells, and what a store into them makes. -/
theorem own_last {w : World} {base : Nat} {v : Value} {acc : List Sp} {f t x : Int} (h : w.ownsRow base 60 3 v (acc ++ [(f, t, x)]).length ((acc ++ [(f, t, x)]).flatMap spCells)) :
    ∃ g cap, v = .slice (some ⟨g, 0, none⟩) (acc.length + 1) cap ∧ base ≤ g ∧ g < w.heap.size ∧ w.cell? ⟨g, acc.length * 3, none⟩ = some (.int .i64 f) ∧ w.cell? ⟨g, acc.length * 3 + 1, none⟩ = some (.int .i64 t) ∧ w.cell? ⟨g, acc.length * 3 + 2, none⟩ = some (.int .i64 x) ∧
      (∀ j, w.frozen? ⟨g, j, none⟩ = false) ∧
      (∀ u, (w.setCell ⟨g, acc.length * 3 + 1, none⟩ (.int .i64 u)).ownsRow base 60 3 v (acc ++ [(f, u, x)]).length ((acc ++ [(f, u, x)]).flatMap spCells)) ∧
      (∀ u, (w.setCell ⟨g, acc.length * 3 + 2, none⟩ (.int .i64 u)).ownsRow base 60 3 v (acc ++ [(f, t, u)]).length ((acc ++ [(f, t, u)]).flatMap spCells)) := by
  have hl : (acc ++ [(f, t, x)]).length = acc.length + 1 := by simp
  rw [hl] at h
  obtain ⟨g, cap, hv, hlo, hhi⟩ := h.form (by omega)
  subst hv
  have hx : (acc ++ [(f, t, x)])[acc.length]? = some (f, t, x) := by simp
  obtain ⟨a, b, c⟩ := spCells_at hx
  refine ⟨g, cap, rfl, hlo, hhi, ?_, ?_, ?_, fun j => h.frozenAt j, fun u => ?_, fun u => ?_⟩
  · rw [h.cellAt _ (by omega)]; exact a
  · rw [h.cellAt _ (by omega)]; exact b
  · rw [h.cellAt _ (by omega)]; exact c
  · have := h.stored (acc.length * 3 + 1) (.int .i64 u)
    rw [flat_set1] at this
    simpa using this.1
  · have := h.stored (acc.length * 3 + 2) (.int .i64 u)
    rw [flat_set2] at this
    simpa using this.1

set_option maxRecDepth 100000 in
set_option maxHeartbeats 2000000 in
theorem refGetSpans_any (s : ByteArray) (at_ : Int) (w : World) (hs : s.size ≤ maxLen) :
    Calls Try.prog 61 #[.string s, .int .i64 at_] w (RetSpans w (getSpans s.data.toList at_)) := by
  obtain ⟨i0, hi, hz0, hz1, hz2⟩ := info_parts Try.infoSpan
  have hget := Lib.hid (fun W => refGetInt_any s at_ W hs)
  obtain ⟨n, q, e, hg⟩ : ∃ n q e, getInt s.data.toList at_ = (n, q, e) := ⟨_, _, _, rfl⟩
  rw [hg] at hget
  unfold tri at hget
  simp only at hget
  have HG := Lib.hid hg; clear hg
  go_enter Try.func61, Try.ntmps61
  go_wp2_with fail
  refine (hget.out _).mono ?_
  rintro r w1 ⟨rfl, rfl⟩
  clear hget
  by_cases he : e = 0
  · subst he
    by_cases hn : n < 0 ∨ 256 < n
    · have HR := Lib.hid (getSpans_form HG.out hn)
      have hn' : (n < 0 ∧ decide (n < 0) = true) ∨ (256 < n ∧ decide (n < 0) = false ∧ decide (256 < n) = true) := by
        rcases hn with h | h
        · exact .inl ⟨h, by simp; omega⟩
        · exact .inr ⟨h, by simp; omega, by simp; omega⟩
      clear hn
      rcases hn' with ⟨hn, hd⟩ | ⟨hn, hd, hd'⟩
      all_goals
        go_wp2_with fail
        go_ret3
        rw [HR.out]
        exact ⟨_, rfl, Spans.none_, Below.refl _ _⟩
    · obtain ⟨m, rfl⟩ := Int.eq_ofNat_of_zero_le (show 0 ≤ n by omega)
      have hm : m ≤ 256 := by omega
      obtain ⟨Z, hZ⟩ : ∃ Z, Z = getSpans s.data.toList at_ := ⟨_, rfl⟩
      rw [← hZ]
      have HZ : Hid (finS at_ [] (getS s.data.toList (m - 0) 0 0 q) = Z) := Lib.hid (by rw [hZ, getSpans_go HG.out hm]; rfl)
      have hd0 : decide ((m : Int) < 0) = false := by simp
      have hd : decide (256 < (m : Int)) = false := by simp; omega
      have HZE := Lib.hid hZ
      clear hn hZ HG
      go_wp2_with fail
      go_loopw [8, 10, 11, 12] (fun iv out lv kv wr => ∃ (k i : Nat) (last p : Int) (acc : List Sp), i ≤ m ∧ kv = .int .i64 k ∧ iv = .int .i64 p ∧ lv = .int .i64 last ∧ 0 ≤ last ∧ last ≤ 1114111 ∧ acc.length = i ∧ Below w.heap.size w wr ∧
          ((Hid (k = 3 * i) ∧ wr.ownsRow w.heap.size 60 3 out acc.length (acc.flatMap spCells) ∧ Hid (∃ gap, (k = 0 ∧ gap = 0 ∨ 0 < k ∧ gap = 1) ∧ finS at_ acc (getS s.data.toList (m - i) last gap p) = Z)) ∨
           (Hid (k = 3 * i + 1) ∧ i < m ∧ ∃ f, 0 ≤ f ∧ f ≤ 1114111 ∧ wr.ownsRow w.heap.size 60 3 out (acc ++ [(f, 0, 0)]).length ((acc ++ [(f, 0, 0)]).flatMap spCells) ∧
              Hid (∃ gap p0 d j, f = last + d ∧ getInt s.data.toList p0 = (d, p, 0) ∧ gap ≤ d ∧ d ≤ 1114111 - last ∧ m - i = j + 1 ∧ finS at_ acc (getS s.data.toList (j + 1) last gap p0) = Z)) ∨
           (Hid (k = 3 * i + 2) ∧ i < m ∧ ∃ f, wr.ownsRow w.heap.size 60 3 out (acc ++ [(f, last, 0)]).length ((acc ++ [(f, last, 0)]).flatMap spCells) ∧
              Hid (∃ l0 gap p0 d q d2 j, f = l0 + d ∧ last = l0 + d + d2 ∧ getInt s.data.toList p0 = (d, q, 0) ∧ gap ≤ d ∧ d ≤ 1114111 - l0 ∧ getInt s.data.toList q = (d2, p, 0) ∧ 0 ≤ d2 ∧ d2 ≤ 1114111 - (l0 + d) ∧ m - i = j + 1 ∧ finS at_ acc (getS s.data.toList (j + 1) l0 gap p0) = Z)))) (fun _ _ _ kv _ => 3 * m - (intOf kv).toNat)
      case atStart => exact ⟨0, 0, 0, q, [], by omega, rfl, rfl, rfl, by omega, by omega, rfl, Below.refl _ _, .inl ⟨Lib.hid rfl, World.ownsRow_nil _ _ _ _, Lib.hid ⟨0, .inl ⟨rfl, rfl⟩, HZ.out⟩⟩⟩
      case round =>
        obtain ⟨k, i, last, p, acc, hi', rfl, rfl, rfl, hl1, hl2, hacc, hbel, hcase⟩ := hrel
        clear HZ
        have hget := Lib.hid (fun W => refGetInt_any s p W hs)
        obtain ⟨d, q1, e, hg⟩ : ∃ d q1 e, getInt s.data.toList p = (d, q1, e) := ⟨_, _, _, rfl⟩
        rw [hg] at hget
        unfold tri at hget
        simp only at hget
        have HG1 := Lib.hid hg; clear hg
        rcases hcase with ⟨HK, hown, HP⟩ | ⟨HK, him, f, hf0, hf1, hown, HP⟩ | ⟨HK, him, f, hown, HP⟩
        · subst hacc
          by_cases hlt : acc.length < m
          · have hk := HK.out
            have hlt3 : (k : Int) < 3 * (m : Int) := by omega
            have b0 : ((k : Int) % 3 == 0) = true := by rw [beq_iff_eq]; omega
            obtain ⟨j, hj⟩ : ∃ j, m - acc.length = j + 1 := ⟨m - acc.length - 1, by omega⟩
            rw [hj] at HP
            have HJ := Lib.hid hj; clear hj hk
            obtain ⟨gap, hgap, hfin⟩ := HP.out
            have HF := Lib.hid hfin; clear hfin HP
            have hgap' : (k = 0 ∧ gap = 0 ∧ decide (0 < (k : Int)) = false) ∨ (0 < k ∧ gap = 1 ∧ decide (0 < (k : Int)) = true) := by
              rcases hgap with ⟨h, h'⟩ | ⟨h, h'⟩
              · exact .inl ⟨h, h', by simp; omega⟩
              · exact .inr ⟨h, h', by simp; omega⟩
            have HGAP := Lib.hid hgap'
            clear hgap hgap'
            go_wp2_with fail
            refine (hget.out _).mono ?_
            rintro r w1 ⟨rfl, rfl⟩
            clear hget
            by_cases he : e = 0
            · subst he
              by_cases hbad : d < gap ∨ 1114111 - last < d
              · have HX : Hid (([], at_, 4) = Z) := Lib.hid (by rw [← HF.out, finS_f1 HG1.out hbad])
                have hw : (decide (d < 0) = true) ∨ (decide (d < 0) = false ∧ decide (1114111 - last < d) = true) ∨ (decide (d < 0) = false ∧ decide (1114111 - last < d) = false ∧ decide (0 < (k : Int)) = true ∧ decide (0 < k) = true ∧ (d == 0) = true) := by
                  simp only [decide_eq_true_eq, decide_eq_false_iff_not, beq_iff_eq]
                  have := HGAP.out
                  simp only [decide_eq_true_eq, decide_eq_false_iff_not] at this
                  omega
                clear hbad
                rcases hw with y1 | ⟨y1, y2⟩ | ⟨y1, y2, y3, y5, y4⟩
                all_goals
                  go_wp2_with fail
                  go_ret3
                  rw [← HZE.out, ← HX.out]
                  exact ⟨_, rfl, Spans.none_, hbel⟩
              · have hge : gap ≤ d := by omega
                have hle : d ≤ 1114111 - last := by omega
                have HN : Hid (∃ gap p0 d' j, last + d = last + d' ∧ getInt s.data.toList p0 = (d', q1, 0) ∧ gap ≤ d' ∧ d' ≤ 1114111 - last ∧ m - acc.length = j + 1 ∧ finS at_ acc (getS s.data.toList (j + 1) last gap p0) = Z) :=
                  Lib.hid ⟨gap, p, d, j, rfl, HG1.out, hge, hle, HJ.out, HF.out⟩
                have y1 : decide (d < 0) = false := by have := HGAP.out; simp; omega
                have y2 : decide (1114111 - last < d) = false := by simp; omega
                have hw : decide (0 < (k : Int)) = false ∨ (decide (0 < (k : Int)) = true ∧ (d == 0) = false) := by
                  have := HGAP.out
                  simp only [decide_eq_true_eq, decide_eq_false_iff_not, beq_eq_false_iff_ne, ne_eq] at this ⊢
                  omega
                have hd1 : 0 ≤ d := by have := HGAP.out; omega
                clear hbad hge
                have hw' : (decide (0 < (k : Int)) = false ∧ decide (0 < k) = false) ∨ (decide (0 < (k : Int)) = true ∧ decide (0 < k) = true ∧ (d == 0) = false) := by
                  rcases hw with h | ⟨h, h'⟩
                  · exact .inl ⟨h, by rw [decide_eq_false_iff_not] at h ⊢; omega⟩
                  · exact .inr ⟨h, by rw [decide_eq_true_eq] at h ⊢; omega, h'⟩
                clear hw
                rcases hw' with ⟨y3, y5⟩ | ⟨y3, y5, y4⟩
                all_goals
                  go_wp2_with (at_builtin; refine wpList_append_own _ rfl _ _ 43 rfl w.heap.size 60 i0 (.agg #[.int .i64 0, .int .i64 0, .int .i64 0]) 3 24 Try.underlying43 hi hz0 hz1 hz2 rfl (by decide) _ _ _ rfl (hown.alloc _) ⟨wr.heap.size, 0, none⟩ 1 1 [.int .i64 (last + d), .int .i64 0, .int .i64 0] rfl rfl (World.news_of_block (cs := #[.int .i64 (last + d), .int .i64 0, .int .i64 0]) (heap_alloc_new wr _)) ?c1 ?c2 ?c3 ?c4 ?_)
                  case c1 => intro u hu; simp at hu; rcases hu with rfl | rfl | rfl <;> rfl
                  case c2 => unfold maxLen; omega
                  case c3 => omega
                  case c4 => have := hbel.size; simp; omega
                  intro v' w2 hown2 hgrow _
                  have hbel2 : Below w.heap.size w w2 := below_own hbel hown hgrow
                  have HK2 : Hid (k + 1 = 3 * acc.length + 1) := Lib.hid (by rw [HK.out])
                  clear hgrow hown hbel
                  go_wp2_with fail
                  go_roundw
                  case rel => exact ⟨k + 1, acc.length, last, q1, acc, hi', by go_num, rfl, rfl, hl1, hl2, rfl, hbel2, .inr (.inl ⟨HK2, hlt, last + d, by omega, by omega, by rw [spans_snoc, List.length_append]; exact hown2, HN⟩)⟩
                  case measure => simp [intOf]; omega
            · have HX : Hid (([], at_, e) = Z) := Lib.hid (by rw [← HF.out, finS_e1 HG1.out he])
              have hne' : (e != 0) = true := by rw [bne_iff_ne]; exact he
              go_wp2_with fail
              go_ret3
              rw [← HZE.out, ← HX.out]
              exact ⟨_, rfl, Spans.none_, hbel⟩
          · have him : acc.length = m := by omega
            have hk := HK.out
            have hlt3 : decide ((k : Int) < 3 * (m : Int)) = false := by rw [decide_eq_false_iff_not]; omega
            have HX : Hid ((acc, p, 0) = Z) := by
              obtain ⟨gap, _, hfin⟩ := HP.out
              rw [show m - acc.length = 0 by omega, finS_end] at hfin
              exact Lib.hid hfin
            clear hk hget him hlt
            go_wp2_with fail
            go_ret3
            rw [← HZE.out, ← HX.out]
            exact ⟨_, rfl, Spans.of_own hown, hbel⟩
        · have hk := HK.out
          have hlt3 : (k : Int) < 3 * (m : Int) := by omega
          have b0 : ((k : Int) % 3 == 0) = false := by rw [beq_eq_false_iff_ne]; omega
          have b1 : ((k : Int) % 3 == 1) = true := by rw [beq_iff_eq]; omega
          have HK2 : Hid (k + 1 = 3 * i + 2) := Lib.hid (by omega)
          clear hk HK
          obtain ⟨gap, p0, d0, j, hfd, hg0, hge, hle, hj, hfin⟩ := HP.out
          have HFD := Lib.hid hfd
          have HG0 := Lib.hid hg0
          have HJ := Lib.hid hj
          have HF := Lib.hid hfin
          clear HP hfd hg0 hj hfin
          obtain ⟨g, cap, rfl, hglo, hghi, c0, c1, _, hfree, hst1, _⟩ := own_last hown
          have f1 := hfree (acc.length * 3 + 1)
          have HST := Lib.hid hst1
          clear hst1 hfree hown
          subst hacc
          have k0 : (0 : Int) ≤ (acc.length : Int) := by omega
          have k1 : (acc.length : Int) < (acc.length : Int) + 1 := by omega
          go_wp2_with fail
          refine (hget.out _).mono ?_
          rintro r w1 ⟨rfl, rfl⟩
          clear hget
          by_cases he : e = 0
          · subst he
            by_cases hbad : d < 0 ∨ 1114111 - f < d
            · have HX : Hid (([], at_, 4) = Z) := Lib.hid (by rw [← HF.out, finS_f2 HG0.out hge hle HG1.out (by rw [← HFD.out]; exact hbad)])
              have hw : (decide (d < 0) = true) ∨ (decide (d < 0) = false ∧ decide (1114111 - f < d) = true) := by
                simp only [decide_eq_true_eq, decide_eq_false_iff_not]; omega
              clear hbad
              rcases hw with y1 | ⟨y1, y2⟩
              all_goals
                go_wp2_with fail
                go_ret3
                rw [← HZE.out, ← HX.out]
                exact ⟨_, rfl, Spans.none_, hbel⟩
            · have hd0 : 0 ≤ d := by omega
              have hd1 : d ≤ 1114111 - f := by omega
              have y1 : decide (d < 0) = false := by simp; omega
              have y2 : decide (1114111 - f < d) = false := by simp; omega
              have HN : Hid (∃ l0 gap p0 d' q d2 j, f = l0 + d' ∧ f + d = l0 + d' + d2 ∧ getInt s.data.toList p0 = (d', q, 0) ∧ gap ≤ d' ∧ d' ≤ 1114111 - l0 ∧ getInt s.data.toList q = (d2, q1, 0) ∧ 0 ≤ d2 ∧ d2 ≤ 1114111 - (l0 + d') ∧ m - acc.length = j + 1 ∧ finS at_ acc (getS s.data.toList (j + 1) l0 gap p0) = Z) :=
                Lib.hid ⟨last, gap, p0, d0, p, d, j, HFD.out, by rw [HFD.out], HG0.out, hge, hle, HG1.out, hd0, by rw [← HFD.out]; exact hd1, HJ.out, HF.out⟩
              have hbel2 := hbel.setCell (p := ⟨g, acc.length * 3 + 1, none⟩) hglo (.int .i64 (f + d))
              clear hbad
              go_wp2_with fail
              go_roundw
              case rel => exact ⟨k + 1, acc.length, f + d, q1, acc, hi', by go_num, rfl, by first | rfl | go_num, by omega, by omega, rfl, hbel2, .inr (.inr ⟨HK2, him, f, HST.out (f + d), HN⟩)⟩
              case measure => simp [intOf]; omega
          · have HX : Hid (([], at_, e) = Z) := Lib.hid (by rw [← HF.out, finS_e2 HG0.out hge hle HG1.out he])
            have hne' : (e != 0) = true := by rw [bne_iff_ne]; exact he
            go_wp2_with fail
            go_ret3
            rw [← HZE.out, ← HX.out]
            exact ⟨_, rfl, Spans.none_, hbel⟩
        · have hk := HK.out
          have hlt3 : (k : Int) < 3 * (m : Int) := by omega
          have b0 : ((k : Int) % 3 == 0) = false := by rw [beq_eq_false_iff_ne]; omega
          have b1 : ((k : Int) % 3 == 1) = false := by rw [beq_eq_false_iff_ne]; omega
          have HK2 : Hid (k + 1 = 3 * (i + 1)) := Lib.hid (by omega)
          clear hk HK
          obtain ⟨l0, gap, p0, d0, q0, d2, j, hfd, hlast, hg0, hge, hle, hg2, hge2, hle2, hj, hfin⟩ := HP.out
          have HFD := Lib.hid hfd
          have HLS := Lib.hid hlast
          have HG0 := Lib.hid hg0
          have HG2 := Lib.hid hg2
          have HJ := Lib.hid hj
          have HF := Lib.hid hfin
          clear HP hfd hlast hg0 hg2 hj hfin
          obtain ⟨g, cap, rfl, hglo, hghi, _, _, c2, hfree, _, hst2⟩ := own_last hown
          have f2 := hfree (acc.length * 3 + 2)
          have HST := Lib.hid hst2
          clear hst2 hfree hown
          subst hacc
          have k0 : (0 : Int) ≤ (acc.length : Int) := by omega
          have k1 : (acc.length : Int) < (acc.length : Int) + 1 := by omega
          go_wp2_with fail
          refine (hget.out _).mono ?_
          rintro r w1 ⟨rfl, rfl⟩
          clear hget
          by_cases he : e = 0
          · subst he
            have hft := Lib.hid (fun W => moderate_any d W)
            cases hf : fitsB d
            · have HX : Hid (([], at_, 4) = Z) := Lib.hid (by rw [← HF.out, finS_f3 HG0.out hge hle HG2.out hge2 hle2 HG1.out hf])
              rw [hf] at hft
              clear hf
              go_wp2_with fail
              refine (hft.out _).mono ?_
              rintro r w2 ⟨rfl, rfl⟩
              go_wp2_with fail
              go_ret3
              rw [← HZE.out, ← HX.out]
              exact ⟨_, rfl, Spans.none_, hbel⟩
            · have HN : Hid (∃ gap, (k + 1 = 0 ∧ gap = 0 ∨ 0 < k + 1 ∧ gap = 1) ∧ finS at_ (acc ++ [(f, last, d)]) (getS s.data.toList (m - (acc.length + 1)) last gap q1) = Z) := by
                refine Lib.hid ⟨1, .inr ⟨by omega, rfl⟩, ?_⟩
                rw [← HF.out, finS_go HG0.out hge hle HG2.out hge2 hle2 HG1.out hf, ← HFD.out, HFD.out, ← HLS.out, show m - (acc.length + 1) = j by have := HJ.out; omega]
              rw [hf] at hft
              have hbel2 := hbel.setCell (p := ⟨g, acc.length * 3 + 2, none⟩) hglo (.int .i64 d)
              clear hf
              go_wp2_with fail
              refine (hft.out _).mono ?_
              rintro r w2 ⟨rfl, rfl⟩
              go_wp2_with fail
              go_roundw
              case rel => exact ⟨k + 1, acc.length + 1, last, q1, acc ++ [(f, last, d)], by omega, by go_num, rfl, rfl, hl1, hl2, by simp, hbel2, .inl ⟨HK2, HST.out d, HN⟩⟩
              case measure => simp [intOf]; omega
          · have HX : Hid (([], at_, e) = Z) := Lib.hid (by rw [← HF.out, finS_e3 HG0.out hge hle HG2.out hge2 hle2 HG1.out he])
            have hne' : (e != 0) = true := by rw [bne_iff_ne]; exact he
            go_wp2_with fail
            go_ret3
            rw [← HZE.out, ← HX.out]
            exact ⟨_, rfl, Spans.none_, hbel⟩
  · have HR := Lib.hid (getSpans_err HG.out he)
    have hne' : (e != 0) = true := by rw [bne_iff_ne]; exact he
    go_wp2_with fail
    go_ret3
    rw [HR.out]
    exact ⟨_, rfl, Spans.none_, Below.refl _ _⟩
end Go.Proofs.Ytmbphpocbajlmaa
