/-
  Merged texts: lemmas and walks that the last text of this claim leans on.
-/
import Derived.Test.YtikcfoobfobmnaaGreatDoorMgB736
import Derived.Test.YtikcfoobfobmnaaGreatDoorMgB727
import Derived.Test.YtikcfoobfobmnaaGreatDoorMgB728
import Derived.Test.YtikcfoobfobmnaaGreatDoorMgB722
/-
  The walk through the reference's Decode.
-/
namespace Go.Proofs.YtikcfoobfobmnaaGreatDoor
open Go.RowKit ND

/-- An array in memory of which the first cells hold what has been read. -/
def Arr {α : Type} (S : List Nat) (wr : World) (g : Nat) (t : TypeId) (n : Nat) (Q : World → Value → α → Prop) (xs : List α) : Prop :=
  ∃ av : Array Value, Blk wr g t av ∧ av.size = n ∧ ∀ (i : Nat) (x : α), xs[i]? = some x → ∃ v, av[i]? = some v ∧ ∀ W, onlyIn S wr W → Q W v x
section
variable {α : Type} {S : List Nat} {wr w' : World} {g : Nat} {t : TypeId} {n : Nat} {Q : World → Value → α → Prop} {xs : List α}
theorem Arr.below (h : Arr S wr g t n Q xs) (hb : Below wr.heap.size wr w') : Arr S w' g t n Q xs := by
  obtain ⟨av, h1, h2, h3⟩ := h
  refine ⟨av, h1.later hb, h2, fun i x hi => ?_⟩
  obtain ⟨v, e, hq⟩ := h3 i x hi
  exact ⟨v, e, fun W hW => hq W ((onlyIn.of_below hb).trans hW)⟩
theorem Arr.far (h : Arr S wr g t n Q xs) {p : Addr} (hp : g ≠ p.block) (hS : p.block ∈ S) (u : Value) : Arr S (wr.setCell p u) g t n Q xs := by
  obtain ⟨av, h1, h2, h3⟩ := h
  refine ⟨av, h1.far hp u, h2, fun i x hi => ?_⟩
  obtain ⟨v, e, hq⟩ := h3 i x hi
  exact ⟨v, e, fun W hW => hq W (((onlyIn.refl _ _).setIn hS u).trans hW)⟩
theorem Arr.push (h : Arr S wr g t n Q xs) (hg : g ∈ S) (hk : xs.length < n) (u : Value) (x : α) (hu : ∀ W, onlyIn S wr W → Q W u x) : Arr S (wr.setCell ⟨g, xs.length, none⟩ u) g t n Q (xs ++ [x]) := by
  obtain ⟨av, h1, h2, h3⟩ := h
  refine ⟨_, h1.put xs.length u, by simpa using h2, fun i y hi => ?_⟩
  have ho : onlyIn S wr (wr.setCell ⟨g, xs.length, none⟩ u) := (onlyIn.refl _ _).setIn hg u
  by_cases hlt : i < xs.length
  · rw [List.getElem?_append_left hlt] at hi
    obtain ⟨v, e, hq⟩ := h3 i y hi
    exact ⟨v, by rw [Array.getElem?_setIfInBounds_ne (by omega)]; exact e, fun W hW => hq W (ho.trans hW)⟩
  · have hl : i < (xs ++ [x]).length := by
      rcases List.getElem?_eq_some_iff.1 hi with ⟨h, _⟩; exact h
    simp at hl
    obtain rfl : i = xs.length := by omega
    simp at hi
    subst hi
    exact ⟨u, by rw [Array.getElem?_setIfInBounds_self_of_lt (by omega)], fun W hW => hu W (ho.trans hW)⟩
theorem Arr.cell (h : Arr S wr g t n Q xs) {i : Nat} (hi : i < n) : ∃ v, wr.cell? ⟨g, i, none⟩ = some v := by
  obtain ⟨av, h1, h2, h3⟩ := h
  exact ⟨av[i]'(by omega), by rw [h1.cell, Array.getElem?_eq_getElem]⟩
theorem Arr.free (h : Arr S wr g t n Q xs) (i : Nat) : wr.frozen? ⟨g, i, none⟩ = false := by
  obtain ⟨av, h1, _⟩ := h
  exact h1.free i
theorem Arr.at (h : Arr S wr g t n Q xs) {i : Nat} {x : α} (hi : xs[i]? = some x) : ∃ v, wr.cell? ⟨g, i, none⟩ = some v ∧ ∀ W, onlyIn S wr W → Q W v x := by
  obtain ⟨av, h1, h2, h3⟩ := h
  obtain ⟨v, e, hq⟩ := h3 i x hi
  exact ⟨v, by rw [h1.cell, e], hq⟩
end
def QS (W : World) (v : Value) (x : List Sp) : Prop := Spans W W.heap.size v x
def QM (W : World) (v : Value) (x : List Mp) : Prop := Mapps W W.heap.size v x
theorem Arr.atS {S : List Nat} {wr : World} {g : Nat} {t : TypeId} {n i : Nat} {xs : List (List Sp)} {x : List Sp} (h : Arr S wr g t n QS xs) (hi : xs[i]? = some x) : ∃ A c, wr.cell? ⟨g, i, none⟩ = some (.slice A x.length c) ∧ ∀ W, onlyIn S wr W → Spans W W.heap.size (.slice A x.length c) x := by
  obtain ⟨v, e, hq⟩ := h.at hi
  obtain ⟨A, c, rfl, _⟩ := id (hq wr (onlyIn.refl _ _))
  exact ⟨A, c, e, hq⟩
theorem Arr.atM {S : List Nat} {wr : World} {g : Nat} {t : TypeId} {n i : Nat} {xs : List (List Mp)} {x : List Mp} (h : Arr S wr g t n QM xs) (hi : xs[i]? = some x) : ∃ A c, wr.cell? ⟨g, i, none⟩ = some (.slice A x.length c) ∧ ∀ W, onlyIn S wr W → Mapps W W.heap.size (.slice A x.length c) x := by
  obtain ⟨v, e, hq⟩ := h.at hi
  obtain ⟨A, c, rfl, _⟩ := id (hq wr (onlyIn.refl _ _))
  exact ⟨A, c, e, hq⟩

/-- The four blocks of the call, and what has been read. -/
structure RfD (S : List Nat) (w wr : World) (cs : List (List Sp)) (ms : List (List Mp)) : Prop where
  br : Blk wr w.heap.size 29 nil12
  bn : Blk wr (w.heap.size + 1) 29 nil12
  a : Arr S wr (w.heap.size + 2) 94 7 QS cs
  b : Arr S wr (w.heap.size + 3) 95 4 QM ms
  bel : Below w.heap.size w wr
  lt : w.heap.size + 3 < wr.heap.size
  ma : w.heap.size + 2 ∈ S
  mb : w.heap.size + 3 ∈ S
  mr : w.heap.size ∈ S
  lo : ∀ x ∈ S, w.heap.size ≤ x ∧ x ≤ w.heap.size + 3
section
variable {S : List Nat} {w wr w' : World} {cs : List (List Sp)} {ms : List (List Mp)}
theorem RfD.next (h : RfD S w wr cs ms) (hb : Below wr.heap.size wr w') : RfD S w w' cs ms :=
  ⟨h.br.later hb, h.bn.later hb, h.a.below hb, h.b.below hb, below_next h.bel hb, Nat.lt_of_lt_of_le h.lt hb.size, h.ma, h.mb, h.mr, h.lo⟩
theorem RfD.pushA (h : RfD S w wr cs ms) (hk : cs.length < 7) (u : Value) (x : List Sp) (hu : ∀ W, onlyIn S wr W → Spans W W.heap.size u x) : RfD S w (wr.setCell ⟨w.heap.size + 2, cs.length, none⟩ u) (cs ++ [x]) ms :=
  ⟨h.br.far (by show w.heap.size ≠ w.heap.size + 2; omega) _, h.bn.far (by show w.heap.size + 1 ≠ w.heap.size + 2; omega) _, h.a.push h.ma hk u x hu, h.b.far (by show w.heap.size + 3 ≠ w.heap.size + 2; omega) h.ma _, h.bel.setCell (by show w.heap.size ≤ w.heap.size + 2; omega) _, by simpa [World.setCell] using h.lt, h.ma, h.mb, h.mr, h.lo⟩
theorem RfD.pushB (h : RfD S w wr cs ms) (hk : ms.length < 4) (u : Value) (x : List Mp) (hu : ∀ W, onlyIn S wr W → Mapps W W.heap.size u x) : RfD S w (wr.setCell ⟨w.heap.size + 3, ms.length, none⟩ u) cs (ms ++ [x]) :=
  ⟨h.br.far (by show w.heap.size ≠ w.heap.size + 3; omega) _, h.bn.far (by show w.heap.size + 1 ≠ w.heap.size + 3; omega) _, h.a.far (by show w.heap.size + 2 ≠ w.heap.size + 3; omega) h.mb _, h.b.push h.mb hk u x hu, h.bel.setCell (by show w.heap.size ≤ w.heap.size + 3; omega) _, by simpa [World.setCell] using h.lt, h.ma, h.mb, h.mr, h.lo⟩
theorem RfD.inS (h : RfD S w wr cs ms) : ∀ x ∈ S, x < wr.heap.size := fun x hx => by have := h.lo x hx; have := h.lt; omega
end

set_option maxRecDepth 100000 in
set_option maxHeartbeats 8000000 in
theorem refDecode_any (s : ByteArray) (w : World) (hs : s.size ≤ maxLen) : Calls Tryz.prog 35 #[.string s] w (RetDcd w (decTR s.data.toList)) := by
  have hlen : s.data.toList.length = s.size := sz_list s
  have HL := Lib.hid hlen; clear hlen
  have hcase : 32768 < s.size ∨ s.size < 4 ∨ (4 ≤ s.size ∧ s.size ≤ 32768) := by omega
  rcases hcase with hc | hc | ⟨hc, hc2⟩
  · go_enter Tryz.func35, Tryz.ntmps35
    go_wp2_with fail
    (try simp only [Exit.inBlock, Exit.then])
    refine bodyPost_ret (v := .tuple #[.agg nil12, .int .i64 7]) ?_ rfl ?_
    · rw [results_cell_tmp rfl]; go_simp
    rw [decTR_full (by rw [HL.out]; exact hc)]
    exact retDcd_no (by
      repeat (first | refine Below.drew ?_ | refine Below.setCell ?_ (Nat.le_refl _) _)
      exact ((Below.refl _ _).alloc (Nat.le_refl _) _).alloc (by simp) _)
  · go_enter Tryz.func35, Tryz.ntmps35
    go_wp2_with fail
    (try simp only [Exit.inBlock, Exit.then])
    refine bodyPost_ret (v := .tuple #[.agg nil12, .int .i64 5]) ?_ rfl ?_
    · rw [results_cell_tmp rfl]; go_simp
    rw [decTR_short (by rw [HL.out]; exact hc)]
    exact retDcd_no (by
      repeat (first | refine Below.drew ?_ | refine Below.setCell ?_ (Nat.le_refl _) _)
      exact ((Below.refl _ _).alloc (Nat.le_refl _) _).alloc (by simp) _)
  have hmt : (s.extract 0 4).toList = s.data.toList.take 4 := by rw [toList_data, ext_take]
  by_cases hm : s.data.toList.take 4 = magicL
  case neg =>
    have HM := Lib.hid hm
    have hb : ((s.extract 0 4).toList == [78, 68, 84, 49]) = false := by rw [hmt]; exact beq_eq_false_iff_ne.2 hm
    clear hm hmt
    go_enter Tryz.func35, Tryz.ntmps35
    go_wp2_with fail
    (try simp only [Exit.inBlock, Exit.then])
    refine bodyPost_ret (v := .tuple #[.agg nil12, .int .i64 4]) ?_ rfl ?_
    · rw [results_cell_tmp rfl]; go_simp
    rw [decTR_form (by rw [HL.out]; exact hc2) (by rw [HL.out]; exact hc) HM.out]
    exact retDcd_no (by
      repeat (first | refine Below.drew ?_ | refine Below.setCell ?_ (Nat.le_refl _) _)
      exact ((Below.refl _ _).alloc (Nat.le_refl _) _).alloc (by simp) _)
  have hb : ((s.extract 0 4).toList == [78, 68, 84, 49]) = true := by rw [hmt]; exact beq_iff_eq.2 hm
  obtain ⟨R, hR⟩ : ∃ R, R = decTR s.data.toList := ⟨_, rfl⟩
  rw [← hR]
  have HU0 : Hid (contC s.data.toList 7 4 [] = R) := Lib.hid (by rw [hR, decTR_go (by rw [HL.out]; exact hc2) (by rw [HL.out]; exact hc) hm])
  clear hR hm hmt
  obtain ⟨S, hSd⟩ : ∃ S, S = [w.heap.size, w.heap.size + 2, w.heap.size + 3] := ⟨_, rfl⟩
  have HD0 : Hid (RfD S w ((((w.alloc (.cells nil12 29)).alloc (.cells nil12 29)).alloc (.cells #[.slice none 0 0, .slice none 0 0, .slice none 0 0, .slice none 0 0, .slice none 0 0, .slice none 0 0, .slice none 0 0] 94)).alloc (.cells #[.slice none 0 0, .slice none 0 0, .slice none 0 0, .slice none 0 0] 95)) [] []) := Lib.hid (by
    have b1 := Blk.new w 29 nil12
    have b2 := Blk.new (w.alloc (.cells nil12 29)) 29 nil12
    have b3 := Blk.new ((w.alloc (.cells nil12 29)).alloc (.cells nil12 29)) 94 #[.slice none 0 0, .slice none 0 0, .slice none 0 0, .slice none 0 0, .slice none 0 0, .slice none 0 0, .slice none 0 0]
    have b4 := Blk.new (((w.alloc (.cells nil12 29)).alloc (.cells nil12 29)).alloc (.cells #[.slice none 0 0, .slice none 0 0, .slice none 0 0, .slice none 0 0, .slice none 0 0, .slice none 0 0, .slice none 0 0] 94)) 95 #[.slice none 0 0, .slice none 0 0, .slice none 0 0, .slice none 0 0]
    simp at b2 b3 b4
    exact ⟨((b1.alloc _).alloc _).alloc _, (b2.alloc _).alloc _, ⟨_, b3.alloc _, rfl, fun i x h => by simp at h⟩, ⟨_, b4, rfl, fun i x h => by simp at h⟩,
      (((((Below.refl _ _).alloc (Nat.le_refl _) _).alloc (by simp) _).alloc (by simp; omega) _).alloc (by simp; omega) _), by simp, by rw [hSd]; simp, by rw [hSd]; simp, by rw [hSd]; simp, by rw [hSd]; simp⟩)
  clear hSd
  go_enter Tryz.func35, Tryz.ntmps35
  go_wp2_with fail
  generalize (((w.alloc (.cells nil12 29)).alloc (.cells nil12 29)).alloc (.cells #[.slice none 0 0, .slice none 0 0, .slice none 0 0, .slice none 0 0, .slice none 0 0, .slice none 0 0, .slice none 0 0] 94)).alloc (.cells #[.slice none 0 0, .slice none 0 0, .slice none 0 0, .slice none 0 0] 95) = w0 at *
  go_loopw [5, 31] (fun pv kv wr => ∃ (k : Nat) (p : Int) (cs : List (List Sp)), k ≤ 7 ∧ kv = .int .i64 k ∧ pv = .int .i64 p ∧ cs.length = k ∧ Hid (RfD S w wr cs []) ∧ Hid (contC s.data.toList (7 - k) p cs = R)) (fun _ kv _ => 7 - (intOf kv).toNat)
  case atStart => exact ⟨0, 4, [], by omega, rfl, rfl, rfl, HD0, HU0⟩
  case round =>
    obtain ⟨k, p, cs, hk, rfl, rfl, hlen, HD, HU⟩ := hrel
    clear HD0 HU0 hb
    by_cases hlt : k < 7
    · obtain ⟨j, hj⟩ : ∃ j, 7 - k = j + 1 := ⟨7 - k - 1, by omega⟩
      rw [hj] at HU
      have HJ : Hid (7 - (k + 1) = j) := Lib.hid (by omega)
      clear hj
      have hget := Lib.hid (fun W => refGetSpansO_any s p W hs)
      obtain ⟨xs, q, e, hg⟩ : ∃ xs q e, getSpans s.data.toList p = (xs, q, e) := ⟨_, _, _, rfl⟩
      rw [hg] at hget
      unfold RetSpansO at hget
      simp only at hget
      have HG := Lib.hid hg; clear hg
      have k0 : (0 : Int) ≤ (k : Int) := by omega
      have k1 : (k : Int) < (7 : Int) := by omega
      go_wp2_with fail
      refine (hget.out _).mono ?_
      rintro r w1 ⟨v, rfl, ho, hb1'⟩
      have hb1 := Lib.hid (show Below wr.heap.size wr w1 from ⟨hb1'.os, hb1'.tape, hb1'.output, hb1'.size, hb1'.block⟩)
      obtain ⟨A, c, rfl⟩ := own_shp ho
      have HSP : Hid (∀ W, onlyIn S w1 W → Spans W W.heap.size (.slice A xs.length c) xs) := Lib.hid (fun W hW => Spans.of_own (onlyIn.own ho HD.out.inS hW))
      have HD1 := Lib.hid (HD.out.next hb1.out)
      clear hget ho hb1' HD
      obtain ⟨ov, hov⟩ := HD1.out.a.cell (i := k) hlt
      have hfr := HD1.out.a.free k
      by_cases he : e = 0
      · subst he
        have HN : Hid (contC s.data.toList (7 - (k + 1)) q (cs ++ [xs]) = R) := Lib.hid (by rw [HJ.out, ← HU.out, contC_go HG.out])
        have HD2 := Lib.hid (HD1.out.pushA (by omega) (.slice A xs.length c) xs HSP.out)
        rw [hlen] at HD2
        clear HD1 HU
        go_wp2_with fail
        go_roundw
        case rel => exact ⟨k + 1, q, cs ++ [xs], by omega, by go_num, rfl, by simp; omega, HD2, HN⟩
        case measure => simp [intOf]; omega
      · have hne : (e != 0) = true := by rw [bne_iff_ne]; exact he
        have HX : Hid ((noT, e) = R) := Lib.hid (by rw [← HU.out, contC_err HG.out he])
        have HD2 := Lib.hid (HD1.out.pushA (by omega) (.slice A xs.length c) xs HSP.out)
        rw [hlen] at HD2
        have HB2 := Lib.hid HD2.out.bel
        have HD := HD1
        clear HD1 HD2 HU HSP
        obtain ⟨z0, z1, z2, z3, z4, z5, z6, z7, z8, z9, z10, z11⟩ := HD.out.bn.tab
        obtain ⟨y0, y1, y2, y3, y4, y5, y6, y7, y8, y9, y10, y11⟩ := HD.out.br.tab
        have q0 := HD.out.br.free 0
        have q1 := HD.out.br.free 1
        have q2 := HD.out.br.free 2
        have q3 := HD.out.br.free 3
        have q4 := HD.out.br.free 4
        have q5 := HD.out.br.free 5
        have q6 := HD.out.br.free 6
        have q7 := HD.out.br.free 7
        have q8 := HD.out.br.free 8
        have q9 := HD.out.br.free 9
        have q10 := HD.out.br.free 10
        have q11 := HD.out.br.free 11
        go_wp2_with fail
        (try go_region)
        all_goals (try go_wp2_with fail)
        all_goals
          (try simp only [Exit.inBlock, Exit.then])
          refine bodyPost_ret (v := .tuple #[.agg nil12, .int .i64 e]) ?_ rfl ?_
          · rw [results_cell_tmp rfl]; go_simp
          rw [← HX.out]
          exact retDcd_no (below_set12 HB2.out (Nat.le_refl _))
    · have hge : 7 ≤ k := by omega
      have HU1 : Hid (contM s.data.toList 4 p cs [] = R) := Lib.hid (by
        have h := HU.out
        rw [show 7 - k = 0 by omega] at h
        exact h)
      clear HU hlt
      have hcl : 7 ≤ cs.length ∧ cs.length ≤ 7 := by omega
      clear hlen
      go_wp2_with fail
      go_loopw [5, 48] (fun pv kv wr => ∃ (k : Nat) (p : Int) (ms : List (List Mp)), k ≤ 4 ∧ kv = .int .i64 k ∧ pv = .int .i64 p ∧ ms.length = k ∧ Hid (RfD S w wr cs ms) ∧ Hid (contM s.data.toList (4 - k) p cs ms = R)) (fun _ kv _ => 4 - (intOf kv).toNat)
      case atStart => exact ⟨0, p, [], by omega, rfl, rfl, rfl, HD, HU1⟩
      case round =>
        obtain ⟨j9, p, ms, hk9, rfl, rfl, hlenm, HD, HU⟩ := hrel
        clear HU1
        by_cases hlt : j9 < 4
        · obtain ⟨j, hj⟩ : ∃ j, 4 - j9 = j + 1 := ⟨4 - j9 - 1, by omega⟩
          rw [hj] at HU
          have HJ : Hid (4 - (j9 + 1) = j) := Lib.hid (by omega)
          clear hj
          have hget := Lib.hid (refGetMaps_any S s p wr hs HD.out.inS)
          obtain ⟨xs, q, e, hg⟩ : ∃ xs q e, getMaps s.data.toList p = (xs, q, e) := ⟨_, _, _, rfl⟩
          rw [hg] at hget
          unfold RetMapsO at hget
          simp only at hget
          have HG := Lib.hid hg; clear hg
          have k0 : (0 : Int) ≤ (j9 : Int) := by omega
          have k1 : (j9 : Int) < (4 : Int) := by omega
          go_wp2_with fail
          refine hget.out.mono ?_
          rintro r w1 ⟨v, rfl, ho, hb1'⟩
          have hb1 := Lib.hid hb1'
          obtain ⟨A, c, rfl, _⟩ := id ho
          have HSP : Hid (∀ W, onlyIn S w1 W → Mapps W W.heap.size (.slice A xs.length c) xs) := Lib.hid (fun W hW => hW.mapps ho)
          have HD1 := Lib.hid (HD.out.next hb1.out)
          clear hget ho hb1' HD
          obtain ⟨ov, hov⟩ := HD1.out.b.cell (i := j9) hlt
          have hfr := HD1.out.b.free j9
          by_cases he : e = 0
          · subst he
            have HN : Hid (contM s.data.toList (4 - (j9 + 1)) q cs (ms ++ [xs]) = R) := Lib.hid (by rw [HJ.out, ← HU.out, contM_go HG.out])
            have HD2 := Lib.hid (HD1.out.pushB (by omega) (.slice A xs.length c) xs HSP.out)
            rw [hlenm] at HD2
            clear HD1 HU
            go_wp2_with fail
            go_roundw
            case rel => exact ⟨j9 + 1, q, ms ++ [xs], by omega, by go_num, rfl, by simp; omega, HD2, HN⟩
            case measure => simp [intOf]; omega
          · have hne : (e != 0) = true := by rw [bne_iff_ne]; exact he
            have HX : Hid ((noT, e) = R) := Lib.hid (by rw [← HU.out, contM_err HG.out he])
            have HD2 := Lib.hid (HD1.out.pushB (by omega) (.slice A xs.length c) xs HSP.out)
            rw [hlenm] at HD2
            have HB2 := Lib.hid HD2.out.bel
            have HD := HD1
            clear HD1 HD2 HU HSP
            obtain ⟨z0, z1, z2, z3, z4, z5, z6, z7, z8, z9, z10, z11⟩ := HD.out.bn.tab
            obtain ⟨y0, y1, y2, y3, y4, y5, y6, y7, y8, y9, y10, y11⟩ := HD.out.br.tab
            have q0 := HD.out.br.free 0
            have q1 := HD.out.br.free 1
            have q2 := HD.out.br.free 2
            have q3 := HD.out.br.free 3
            have q4 := HD.out.br.free 4
            have q5 := HD.out.br.free 5
            have q6 := HD.out.br.free 6
            have q7 := HD.out.br.free 7
            have q8 := HD.out.br.free 8
            have q9 := HD.out.br.free 9
            have q10 := HD.out.br.free 10
            have q11 := HD.out.br.free 11
            go_wp2_with fail
            (try go_region)
            all_goals (try go_wp2_with fail)
            all_goals
              (try simp only [Exit.inBlock, Exit.then])
              refine bodyPost_ret (v := .tuple #[.agg nil12, .int .i64 e]) ?_ rfl ?_
              · rw [results_cell_tmp rfl]; go_simp
              rw [← HX.out]
              exact retDcd_no (below_set12 HB2.out (Nat.le_refl _))
        · have hge9 : 4 ≤ j9 := by omega
          have HU2 : Hid (contX s.data.toList p cs ms = R) := Lib.hid (by
            have h := HU.out
            rw [show 4 - j9 = 0 by omega] at h
            exact h)
          have hml : 4 ≤ ms.length ∧ ms.length ≤ 4 := by omega
          clear HU hlt hlenm
          have hget := Lib.hid (fun W => refGetListO_any s p W hs)
          obtain ⟨y, q, e, hg⟩ : ∃ xs q e, getList s.data.toList p = (xs, q, e) := ⟨_, _, _, rfl⟩
          rw [hg] at hget
          unfold RetGetO at hget
          simp only at hget
          have HG := Lib.hid hg; clear hg
          go_wp2_with fail
          refine (hget.out _).mono ?_
          rintro r w1 ⟨v, rfl, ho, hb1'⟩
          have hb1 := Lib.hid (show Below wr.heap.size wr w1 from ⟨hb1'.os, hb1'.tape, hb1'.output, hb1'.size, hb1'.block⟩)
          obtain ⟨Ay, ky, rfl⟩ := own_shp ho
          have HY : Hid (∀ W, onlyIn S w1 W → Ints W W.heap.size .i64 (.slice Ay y.length ky) y) := Lib.hid (fun W hW => Ints.of_own (onlyIn.own ho HD.out.inS hW))
          have HD1 := Lib.hid (HD.out.next hb1.out)
          have HD := HD1
          clear hget ho hb1' HD1 hb1
          by_cases he : e = 0
          case neg =>
            have hne : (e != 0) = true := by rw [bne_iff_ne]; exact he
            have HX : Hid ((noT, e) = R) := Lib.hid (by rw [← HU2.out, contX_err HG.out he])
            obtain ⟨z0, z1, z2, z3, z4, z5, z6, z7, z8, z9, z10, z11⟩ := HD.out.bn.tab
            obtain ⟨y0, y1, y2, y3, y4, y5, y6, y7, y8, y9, y10, y11⟩ := HD.out.br.tab
            have q0 := HD.out.br.free 0
            have q1 := HD.out.br.free 1
            have q2 := HD.out.br.free 2
            have q3 := HD.out.br.free 3
            have q4 := HD.out.br.free 4
            have q5 := HD.out.br.free 5
            have q6 := HD.out.br.free 6
            have q7 := HD.out.br.free 7
            have q8 := HD.out.br.free 8
            have q9 := HD.out.br.free 9
            have q10 := HD.out.br.free 10
            have q11 := HD.out.br.free 11
            go_wp2_with fail
            (try go_region)
            all_goals (try go_wp2_with fail)
            all_goals
              (try simp only [Exit.inBlock, Exit.then])
              refine bodyPost_ret (v := .tuple #[.agg nil12, .int .i64 e]) ?_ rfl ?_
              · rw [results_cell_tmp rfl]; go_simp
              rw [← HX.out]
              exact retDcd_no (below_set12 HD.out.bel (Nat.le_refl _))
          subst he
          obtain ⟨c0, c1, c2, c3, c4, c5, c6, hcs⟩ : ∃ c0 c1 c2 c3 c4 c5 c6, cs = [c0, c1, c2, c3, c4, c5, c6] := by
            match cs, (show cs.length = 7 by omega) with
            | [c0, c1, c2, c3, c4, c5, c6], _ => exact ⟨_, _, _, _, _, _, _, rfl⟩
          obtain ⟨m0, m1, m2, m3, hms⟩ : ∃ m0 m1 m2 m3, ms = [m0, m1, m2, m3] := by
            match ms, (show ms.length = 4 by omega) with
            | [m0, m1, m2, m3], _ => exact ⟨_, _, _, _, rfl⟩
          obtain ⟨TT, HTT⟩ : ∃ TT, Hid (TT = mkT cs ms y) := ⟨_, Lib.hid rfl⟩
          have HU3 : Hid (contS s.data.toList q TT = R) := Lib.hid (by rw [← HU2.out, contX_go HG.out, HTT.out])
          obtain ⟨b, hbq, hble⟩ : ∃ b : Nat, q = b ∧ b ≤ s.size := by
            obtain ⟨_, b, _, eb, _, hle, _⟩ := getList_back HG.out
            exact ⟨b, eb, by rw [sz_list] at hle; exact hle⟩
          subst hbq
          clear HU2 HG
          have hget := Lib.hid (fun W => refGetInt_any s b W hs)
          obtain ⟨n, q, e, hg⟩ : ∃ xs q e, getInt s.data.toList b = (xs, q, e) := ⟨_, _, _, rfl⟩
          rw [hg] at hget
          unfold tri at hget
          simp only at hget
          have HG := Lib.hid hg; clear hg
          have HCS := Lib.hid hcs
          have HMS := Lib.hid hms
          clear hcs hms
          go_wp2_with fail
          refine (hget.out _).mono ?_
          rintro r w2 ⟨rfl, rfl⟩
          clear hget
          by_cases he : e = 0
          case neg =>
            have hne : (e != 0) = true := by rw [bne_iff_ne]; exact he
            have HX : Hid ((noT, e) = R) := Lib.hid (by rw [← HU3.out, contS_err HG.out he])
            obtain ⟨z0, z1, z2, z3, z4, z5, z6, z7, z8, z9, z10, z11⟩ := HD.out.bn.tab
            obtain ⟨y0, y1, y2, y3, y4, y5, y6, y7, y8, y9, y10, y11⟩ := HD.out.br.tab
            have q0 := HD.out.br.free 0
            have q1 := HD.out.br.free 1
            have q2 := HD.out.br.free 2
            have q3 := HD.out.br.free 3
            have q4 := HD.out.br.free 4
            have q5 := HD.out.br.free 5
            have q6 := HD.out.br.free 6
            have q7 := HD.out.br.free 7
            have q8 := HD.out.br.free 8
            have q9 := HD.out.br.free 9
            have q10 := HD.out.br.free 10
            have q11 := HD.out.br.free 11
            go_wp2_with fail
            (try go_region)
            all_goals (try go_wp2_with fail)
            all_goals
              (try simp only [Exit.inBlock, Exit.then])
              refine bodyPost_ret (v := .tuple #[.agg nil12, .int .i64 e]) ?_ rfl ?_
              · rw [results_cell_tmp rfl]; go_simp
              rw [← HX.out]
              exact retDcd_no (below_set12 HD.out.bel (Nat.le_refl _))
          subst he
          have hxs : (s.extract 0 b).size ≤ maxLen := by
            have h1 : (s.extract 0 b).size = (s.data.toList.take b).length := by rw [← sz_list, ext_take]
            rw [List.length_take, HL.out] at h1
            unfold maxLen; omega
          have HSU := Lib.hid (fun W => refSum_any (s.extract 0 b) W hxs)
          obtain ⟨su, hsu⟩ : ∃ su, su = sumL (s.extract 0 b).data.toList := ⟨_, rfl⟩
          rw [← hsu] at HSU
          have HSE : Hid ((su : Int) = (sumL (s.data.toList.take (b : Int).toNat) : Int)) := Lib.hid (by rw [hsu, ext_take, Int.toNat_natCast])
          have b0 : (0 : Int) ≤ (b : Int) := by omega
          have b1 : (b : Int) ≤ (s.size : Int) := by omega
          clear hsu hxs
          go_wp2_with fail
          refine (HSU.out _).mono ?_
          rintro r w3 ⟨rfl, rfl⟩
          clear HSU
          by_cases hv : n = (su : Int)
          case neg =>
            have HX : Hid ((noT, 6) = R) := Lib.hid (by rw [← HU3.out, contS_sum HG.out (by rw [← HSE.out]; exact hv)])
            have hne : (n != (su : Int)) = true := by rw [bne_iff_ne]; exact hv
            obtain ⟨z0, z1, z2, z3, z4, z5, z6, z7, z8, z9, z10, z11⟩ := HD.out.bn.tab
            obtain ⟨y0, y1, y2, y3, y4, y5, y6, y7, y8, y9, y10, y11⟩ := HD.out.br.tab
            have q0 := HD.out.br.free 0
            have q1 := HD.out.br.free 1
            have q2 := HD.out.br.free 2
            have q3 := HD.out.br.free 3
            have q4 := HD.out.br.free 4
            have q5 := HD.out.br.free 5
            have q6 := HD.out.br.free 6
            have q7 := HD.out.br.free 7
            have q8 := HD.out.br.free 8
            have q9 := HD.out.br.free 9
            have q10 := HD.out.br.free 10
            have q11 := HD.out.br.free 11
            go_wp2_with fail
            (try go_region)
            all_goals (try go_wp2_with fail)
            all_goals
              (try simp only [Exit.inBlock, Exit.then])
              refine bodyPost_ret (v := .tuple #[.agg nil12, .int .i64 6]) ?_ rfl ?_
              · rw [results_cell_tmp rfl]; go_simp
              rw [← HX.out]
              exact retDcd_no (below_set12 HD.out.bel (Nat.le_refl _))
          have HV := Lib.hid (hv.trans HSE.out)
          have hne : (n != (su : Int)) = false := by rw [hv]; exact bne_self_eq_false _
          clear hv
          by_cases hq : q < (s.size : Int)
          · have HX : Hid ((noT, 4) = R) := Lib.hid (by rw [← HU3.out, contS_form HG.out HV.out (by rw [HL.out]; exact hq)])
            obtain ⟨z0, z1, z2, z3, z4, z5, z6, z7, z8, z9, z10, z11⟩ := HD.out.bn.tab
            obtain ⟨y0, y1, y2, y3, y4, y5, y6, y7, y8, y9, y10, y11⟩ := HD.out.br.tab
            have q0 := HD.out.br.free 0
            have q1 := HD.out.br.free 1
            have q2 := HD.out.br.free 2
            have q3 := HD.out.br.free 3
            have q4 := HD.out.br.free 4
            have q5 := HD.out.br.free 5
            have q6 := HD.out.br.free 6
            have q7 := HD.out.br.free 7
            have q8 := HD.out.br.free 8
            have q9 := HD.out.br.free 9
            have q10 := HD.out.br.free 10
            have q11 := HD.out.br.free 11
            go_wp2_with fail
            (try go_region)
            all_goals (try go_wp2_with fail)
            all_goals
              (try simp only [Exit.inBlock, Exit.then])
              refine bodyPost_ret (v := .tuple #[.agg nil12, .int .i64 4]) ?_ rfl ?_
              · rw [results_cell_tmp rfl]; go_simp
              rw [← HX.out]
              exact retDcd_no (below_set12 HD.out.bel (Nat.le_refl _))
          have HQ := Lib.hid (show (s.data.toList.length : Int) ≤ q by rw [HL.out]; omega)
          have hq' : (s.size : Int) ≤ q := by omega
          clear hq
          obtain ⟨A0, k0, x0, hx0⟩ := HD.out.a.atS (i := 0) (x := c0) (by rw [HCS.out]; rfl)
          have HX0 := Lib.hid hx0
          obtain ⟨A1, k1, x1, hx1⟩ := HD.out.a.atS (i := 1) (x := c1) (by rw [HCS.out]; rfl)
          have HX1 := Lib.hid hx1
          obtain ⟨A2, k2, x2, hx2⟩ := HD.out.a.atS (i := 2) (x := c2) (by rw [HCS.out]; rfl)
          have HX2 := Lib.hid hx2
          obtain ⟨A3, k3, x3, hx3⟩ := HD.out.a.atS (i := 3) (x := c3) (by rw [HCS.out]; rfl)
          have HX3 := Lib.hid hx3
          obtain ⟨A4, k4, x4, hx4⟩ := HD.out.a.atS (i := 4) (x := c4) (by rw [HCS.out]; rfl)
          have HX4 := Lib.hid hx4
          obtain ⟨A5, k5, x5, hx5⟩ := HD.out.a.atS (i := 5) (x := c5) (by rw [HCS.out]; rfl)
          have HX5 := Lib.hid hx5
          obtain ⟨A6, k6, x6, hx6⟩ := HD.out.a.atS (i := 6) (x := c6) (by rw [HCS.out]; rfl)
          have HX6 := Lib.hid hx6
          obtain ⟨A7, k7, x7, hx7⟩ := HD.out.b.atM (i := 0) (x := m0) (by rw [HMS.out]; rfl)
          have HX7 := Lib.hid hx7
          obtain ⟨A8, k8, x8, hx8⟩ := HD.out.b.atM (i := 1) (x := m1) (by rw [HMS.out]; rfl)
          have HX8 := Lib.hid hx8
          obtain ⟨A9, k9, x9, hx9⟩ := HD.out.b.atM (i := 2) (x := m2) (by rw [HMS.out]; rfl)
          have HX9 := Lib.hid hx9
          obtain ⟨A10, k10, x10, hx10⟩ := HD.out.b.atM (i := 3) (x := m3) (by rw [HMS.out]; rfl)
          have HX10 := Lib.hid hx10
          clear hx0 hx1 hx2 hx3 hx4 hx5 hx6 hx7 hx8 hx9 hx10
          have HTR : Hid (∀ V, onlyIn S w1 V → TabR V V.heap.size ⟨.slice A0 c0.length k0, .slice A1 c1.length k1, .slice A2 c2.length k2, .slice A3 c3.length k3, .slice A4 c4.length k4, .slice A5 c5.length k5, .slice A6 c6.length k6, .slice A7 m0.length k7, .slice A8 m1.length k8, .slice A9 m2.length k9, .slice Ay y.length ky, .slice A10 m3.length k10⟩ TT) := Lib.hid (fun V ho => by
            rw [HTT.out, HCS.out, HMS.out]
            exact ⟨HX0.out _ ho, HX1.out _ ho, HX2.out _ ho, HX3.out _ ho, HX4.out _ ho, HX5.out _ ho, HX6.out _ ho, HX7.out _ ho, HX8.out _ ho, HX9.out _ ho, HY.out _ ho, HX10.out _ ho⟩)
          have HCK := Lib.hid (fun V hA => check_ref ⟨.slice A0 c0.length k0, .slice A1 c1.length k1, .slice A2 c2.length k2, .slice A3 c3.length k3, .slice A4 c4.length k4, .slice A5 c5.length k5, .slice A6 c6.length k6, .slice A7 m0.length k7, .slice A8 m1.length k8, .slice A9 m2.length k9, .slice Ay y.length ky, .slice A10 m3.length k10⟩ TT V (HTR.out V hA))
          obtain ⟨ck, hck⟩ : ∃ ck, ck = TT.check := ⟨_, rfl⟩
          rw [← hck] at HCK
          have HCE := Lib.hid hck
          clear hck HX0 HX1 HX2 HX3 HX4 HX5 HX6 HX7 HX8 HX9 HX10 HY HTT HCS HMS
          have HNB := Lib.hid (Blk.new w1 29 #[.slice A0 c0.length k0, .slice A1 c1.length k1, .slice A2 c2.length k2, .slice A3 c3.length k3, .slice A4 c4.length k4, .slice A5 c5.length k5, .slice A6 c6.length k6, .slice A7 m0.length k7, .slice A8 m1.length k8, .slice A9 m2.length k9, .slice Ay y.length ky, .slice A10 m3.length k10])
          have hb3 := (Below.refl w1.heap.size w1).alloc (Nat.le_refl _) (.cells #[.slice A0 c0.length k0, .slice A1 c1.length k1, .slice A2 c2.length k2, .slice A3 c3.length k3, .slice A4 c4.length k4, .slice A5 c5.length k5, .slice A6 c6.length k6, .slice A7 m0.length k7, .slice A8 m1.length k8, .slice A9 m2.length k9, .slice Ay y.length ky, .slice A10 m3.length k10] 29)
          have HO3 : Hid (onlyIn S w1 (w1.alloc (.cells #[.slice A0 c0.length k0, .slice A1 c1.length k1, .slice A2 c2.length k2, .slice A3 c3.length k3, .slice A4 c4.length k4, .slice A5 c5.length k5, .slice A6 c6.length k6, .slice A7 m0.length k7, .slice A8 m1.length k8, .slice A9 m2.length k9, .slice Ay y.length ky, .slice A10 m3.length k10] 29))) := Lib.hid (onlyIn.of_below hb3)
          have HD3 := Lib.hid (HD.out.next hb3)
          clear hb3
          go_wp2_with fail
          generalize hwA : w1.alloc (.cells #[.slice A0 c0.length k0, .slice A1 c1.length k1, .slice A2 c2.length k2, .slice A3 c3.length k3, .slice A4 c4.length k4, .slice A5 c5.length k5, .slice A6 c6.length k6, .slice A7 m0.length k7, .slice A8 m1.length k8, .slice A9 m2.length k9, .slice Ay y.length ky, .slice A10 m3.length k10] 29) = wA at *
          clear hwA
          refine (HCK.out _ HO3.out).mono ?_
          rintro r w4 ⟨rfl, b4⟩
          have HN4 := Lib.hid (HNB.out.later b4)
          have HO4 := Lib.hid (HO3.out.trans (onlyIn.of_below b4))
          have HD4 := Lib.hid (HD3.out.next b4)
          have HD := HD4
          clear HNB HO3 HD3 HD4 b4 HCK hne
          by_cases hc0 : ck = 0
          case neg =>
            have HX : Hid ((noT, 2) = R) := Lib.hid (by rw [← HU3.out, contS_bad HG.out HV.out HQ.out (by rw [← HCE.out]; exact hc0)])
            have hne : (ck != 0) = true := by rw [bne_iff_ne]; exact hc0
            obtain ⟨z0, z1, z2, z3, z4, z5, z6, z7, z8, z9, z10, z11⟩ := HD.out.bn.tab
            obtain ⟨y0, y1, y2, y3, y4, y5, y6, y7, y8, y9, y10, y11⟩ := HD.out.br.tab
            have q0 := HD.out.br.free 0
            have q1 := HD.out.br.free 1
            have q2 := HD.out.br.free 2
            have q3 := HD.out.br.free 3
            have q4 := HD.out.br.free 4
            have q5 := HD.out.br.free 5
            have q6 := HD.out.br.free 6
            have q7 := HD.out.br.free 7
            have q8 := HD.out.br.free 8
            have q9 := HD.out.br.free 9
            have q10 := HD.out.br.free 10
            have q11 := HD.out.br.free 11
            go_wp2_with fail
            (try go_region)
            all_goals (try go_wp2_with fail)
            all_goals
              (try simp only [Exit.inBlock, Exit.then])
              refine bodyPost_ret (v := .tuple #[.agg nil12, .int .i64 2]) ?_ rfl ?_
              · rw [results_cell_tmp rfl]; go_simp
              rw [← HX.out]
              exact retDcd_no (below_set12 HD.out.bel (Nat.le_refl _))
          subst hc0
          have HX : Hid ((TT, 0) = R) := Lib.hid (by rw [← HU3.out, contS_ok HG.out HV.out HQ.out HCE.out.symm])
          obtain ⟨t0, t1, t2, t3, t4, t5, t6, t7, t8, t9, t10, t11⟩ := HN4.out.tab
          obtain ⟨y0, y1, y2, y3, y4, y5, y6, y7, y8, y9, y10, y11⟩ := HD.out.br.tab
          have q0 := HD.out.br.free 0
          have q1 := HD.out.br.free 1
          have q2 := HD.out.br.free 2
          have q3 := HD.out.br.free 3
          have q4 := HD.out.br.free 4
          have q5 := HD.out.br.free 5
          have q6 := HD.out.br.free 6
          have q7 := HD.out.br.free 7
          have q8 := HD.out.br.free 8
          have q9 := HD.out.br.free 9
          have q10 := HD.out.br.free 10
          have q11 := HD.out.br.free 11
          go_wp2_with fail
          (try simp only [Exit.inBlock, Exit.then])
          refine bodyPost_ret (v := .tuple #[.agg #[.slice A0 c0.length k0, .slice A1 c1.length k1, .slice A2 c2.length k2, .slice A3 c3.length k3, .slice A4 c4.length k4, .slice A5 c5.length k5, .slice A6 c6.length k6, .slice A7 m0.length k7, .slice A8 m1.length k8, .slice A9 m2.length k9, .slice Ay y.length ky, .slice A10 m3.length k10], .int .i64 0]) ?_ rfl ?_
          · rw [results_cell_tmp rfl]; go_simp
          rw [← HX.out]
          exact ⟨⟨.slice A0 c0.length k0, .slice A1 c1.length k1, .slice A2 c2.length k2, .slice A3 c3.length k3, .slice A4 c4.length k4, .slice A5 c5.length k5, .slice A6 c6.length k6, .slice A7 m0.length k7, .slice A8 m1.length k8, .slice A9 m2.length k9, .slice Ay y.length ky, .slice A10 m3.length k10⟩, rfl, HTR.out _ (only_set12 HO4.out HD.out.mr), below_set12 HD.out.bel (Nat.le_refl _)⟩
end Go.Proofs.YtikcfoobfobmnaaGreatDoor
