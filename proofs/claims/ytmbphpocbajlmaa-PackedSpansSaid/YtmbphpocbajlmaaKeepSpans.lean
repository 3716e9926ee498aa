/-
  The walk through keep.Spans: a valid list of at most six spans with small values.
-/
import Derived.Test.YtmbphpocbajlmaaKeep
import Derived.Test.YtmbphpocbajlmaaPoints
import Derived.Test.YtmbphpocbajlmaaGetSpans
import Derived.Deep.RegionLaw
namespace Go.Proofs.Ytmbphpocbajlmaa
open Go.RowKit ND

def lastOf : Int → List Sp → Int
  | last, [] => last
  | _, s :: r => lastOf s.2.1 r
theorem okS_snoc (lo hi : Int) (acc : List Sp) (s : Sp) : ∀ last, okS lo hi last (acc ++ [s]) = (okS lo hi last acc && okOne lo hi (lastOf last acc) s) := by
  induction acc with
  | nil => intro last; show (okOne lo hi last s && true) = (true && okOne lo hi last s); rw [Bool.and_true, Bool.true_and]
  | cons a r ih => intro last; simp only [List.cons_append, okS, lastOf, ih, Bool.and_assoc]
theorem lastOf_snoc (acc : List Sp) (s : Sp) : ∀ last, lastOf last (acc ++ [s]) = s.2.1 := by
  induction acc with
  | nil => intro last; rfl
  | cons a r ih => intro last; simp only [List.cons_append, lastOf, ih]

/-- At most six spans come back: valid, and their values fit. -/
def RetMade (w : World) (e : Ending) (w' : World) : Prop :=
  ∃ v xs, e = .returned v ∧ Spans w' w'.heap.size v xs ∧ xs.length ≤ 6 ∧ checkS xs 0 1114111 = true ∧ (∀ s ∈ xs, fitsB s.2.2 = true) ∧ Below w.heap.size w w'

theorem Src.put {w : World} {g : Nat} {v : Value} {n : Nat} (h : Src w g v n) {p : Addr} (hp : g ≠ p.block) (u : Value) : Src (w.setCell p u) g v n := by
  obtain ⟨i, hi, hb⟩ := h; exact ⟨i, hi, hb.far hp u⟩

set_option maxRecDepth 100000 in
set_option maxHeartbeats 1000000 in
theorem keepSpans_any (w : World) (v : Value) (xs : List Int) (hv : Ints w w.heap.size .i64 v xs) : Calls Try.prog 41 #[v] w (RetMade w) := by
  obtain ⟨i0, hi, hz0, hz1, hz2⟩ := info_parts Try.infoSpan
  obtain ⟨A, c, rfl⟩ : ∃ A c, v = .slice A xs.length c := by obtain ⟨A, c, h, _⟩ := hv; exact ⟨A, c, h⟩
  go_enter Try.func41, Try.ntmps41
  go_wp2_with fail
  refine (from_any A xs.length c w).mono ?_
  rintro e w1 ⟨rfl, rfl⟩
  have hs1 : Src (w.alloc (.cells #[.slice A xs.length c, .int .i64 0] 79)) w.heap.size (.slice A xs.length c) xs.length := ⟨0, Nat.zero_le _, Blk.new w _ _⟩
  have hbel1 : Below w.heap.size w (w.alloc (.cells #[.slice A xs.length c, .int .i64 0] 79)) := (Below.refl _ _).alloc (Nat.le_refl _) _
  have hsz1 : w.heap.size + 1 ≤ (w.alloc (.cells #[.slice A xs.length c, .int .i64 0] 79)).heap.size := by simp
  generalize w.alloc (.cells #[.slice A xs.length c, .int .i64 0] 79) = w1 at *
  have hv1 := hv.below hbel1
  go_wp2_with fail
  refine (next_src w1 w.heap.size _ xs 5 hv1 hs1 (by decide) (by decide)).mono ?_
  rintro e w2 ⟨a0, rfl, ha0, ha1, hs2, hg2⟩
  have hbel2 := below_of_grown hbel1 hg2 (Nat.le_refl _) (by omega)
  have hsz2 := Nat.le_trans hsz1 hg2.size
  have hv2 := hv.below hbel2
  clear hs1 hbel1 hsz1 hv1 hg2
  go_wp2_with fail
  refine (next_src w2 w.heap.size _ xs 7 hv2 hs2 (by decide) (by decide)).mono ?_
  rintro e w3 ⟨r, rfl, hr0, hr1, hs3, hg3⟩
  have hbel3 := below_of_grown hbel2 hg3 (Nat.le_refl _) (by omega)
  have hsz3 := Nat.le_trans hsz2 hg3.size
  obtain ⟨m0, rfl⟩ := Int.eq_ofNat_of_zero_le hr0
  have hm0 : m0 ≤ 6 := by omega
  have HS3 := Lib.hid hs3
  have HV := Lib.hid hv
  clear hs2 hs3 hbel2 hsz2 hv2 hg3 hr0 hr1 hv
  go_wp2_with fail
  go_loopw [4, 5, 6] (fun l av n wr => ∃ (m : Nat) (at_ : Int) (acc : List Sp), n = .int .i64 m ∧ av = .int .i64 at_ ∧ 0 ≤ at_ ∧ at_ ≤ 4 + 8 * (acc.length : Int) ∧ acc.length + m ≤ 6 ∧ wr.ownsRow (w.heap.size + 1) 60 3 l acc.length (acc.flatMap spCells) ∧
      Hid (okS 0 1114111 (-1) acc = true ∧ lastOf (-1) acc < at_ ∧ ∀ s ∈ acc, fitsB s.2.2 = true) ∧ Hid (Src wr w.heap.size (.slice A xs.length c) xs.length) ∧ Below w.heap.size w wr ∧ w.heap.size + 1 ≤ wr.heap.size) (fun _ _ n _ => (intOf n).toNat)
  case atStart => exact ⟨m0, a0, [], rfl, rfl, ha0, by simp; omega, by simpa using hm0, World.ownsRow_nil _ _ _ _, Lib.hid ⟨rfl, by show -1 < a0; omega, by simp⟩, HS3, hbel3, hsz3⟩
  case round =>
    obtain ⟨m, at_, acc, rfl, rfl, hat0, hat1, hm, hown, HF, HS, hbel, hsz⟩ := hrel
    by_cases hlt : 0 < m
    · have hv' := HV.out.below hbel
      go_wp2_with fail
      refine (next_src wr w.heap.size _ xs 4 hv' HS.out (by decide) (by decide)).mono ?_
      rintro e w4 ⟨q, rfl, hq0, hq1, hs4, hg4⟩
      have hbel4 := below_of_grown hbel hg4 (Nat.le_refl _) (by omega)
      have hsz4 := Nat.le_trans hsz hg4.size
      have hown4 := own_grown hown hg4 (by omega)
      have hv4 := HV.out.below hbel4
      clear hv' hown hbel hsz hg4 HS
      go_wp2_with fail
      refine (next_src w4 w.heap.size _ xs 3 hv4 hs4 (by decide) (by decide)).mono ?_
      rintro e w5 ⟨y, rfl, hy0, hy1, hs5, hg5⟩
      have hbel5 := below_of_grown hbel4 hg5 (Nat.le_refl _) (by omega)
      have hsz5 := Nat.le_trans hsz4 hg5.size
      have hown5 := own_grown hown4 hg5 (by omega)
      clear hv4 hown4 hbel4 hsz4 hg5 hs4
      have HS5 := Lib.hid hs5; clear hs5
      go_wp2_with fail
      have hb6 : Blk (w5.alloc (.cells #[.int .i64 (at_ + q), .int .i64 0, .int .i64 y] 60)) w5.heap.size 60 #[.int .i64 (at_ + q), .int .i64 0, .int .i64 y] := Blk.new _ _ _
      have hs6 := HS5.out.alloc (.cells #[.int .i64 (at_ + q), .int .i64 0, .int .i64 y] 60)
      have hbel6 := hbel5.alloc hbel5.size (.cells #[.int .i64 (at_ + q), .int .i64 0, .int .i64 y] 60)
      have hown6 := hown5.alloc (.cells #[.int .i64 (at_ + q), .int .i64 0, .int .i64 y] 60)
      have hfar : ∀ k, u4.ownBlock = some k → k ≠ w5.heap.size := fun k hk => by have := (hown5.lt k hk).2; omega
      generalize w5.alloc (.cells #[.int .i64 (at_ + q), .int .i64 0, .int .i64 y] 60) = w6 at *
      have hv6 := HV.out.below hbel6
      have d0 := hb6.at_ (i := 0) rfl
      clear hown5 hbel5 HS5
      go_region_law (first
        | (go_simp; go_at_call 46; refine (next_src w6.drew w.heap.size (.slice A xs.length c) xs 5 hv6 hs6 (by decide) (by decide)).mono ?_; rintro e w7 ⟨z, rfl, hzl, hzh, hs7, hg7⟩; have hb7 := (show Blk w6.drew w5.heap.size 60 #[.int .i64 (at_ + q), .int .i64 0, .int .i64 y] from hb6).grown hg7 (by intro e; injection e; omega); have e0 := hb7.at_ (i := 0) rfl; have e1 := hb7.at_ (i := 1) rfl; have f1 := hb7.free 1; have hwz : IntKind.i64.wrap (at_ + q + z) = at_ + q + z := IntWalk.i64_in _ (by omega)))
      all_goals
        have hbel7 := below_of_grown (show Below w.heap.size w w6.drew from ⟨hbel6.os, hbel6.tape, hbel6.output, hbel6.size, hbel6.block⟩) hg7 (Nat.le_refl _) hbel6.size
        have hown7 := own_grown (show w6.drew.ownsRow (w.heap.size + 1) 60 3 u4 acc.length (acc.flatMap spCells) from hown6) hg7 (by omega)
        have h8 : Blk (w7.setCell ⟨w5.heap.size, 1, none⟩ (.int .i64 (at_ + q + z))) w5.heap.size 60 #[.int .i64 (at_ + q), .int .i64 (at_ + q + z), .int .i64 y] := hb7.put 1 _
        have hs8 := hs7.put (p := ⟨w5.heap.size, 1, none⟩) (by show w.heap.size ≠ w5.heap.size; omega) (.int .i64 (at_ + q + z))
        have hbel8 := hbel7.setCell (p := ⟨w5.heap.size, 1, none⟩) (by show w.heap.size ≤ w5.heap.size; omega) (.int .i64 (at_ + q + z))
        have hown8 := hown7.kept (row := some w5.heap.size) (grown_setCell (grown_refl _ _) 1 (.int .i64 (at_ + q + z))) (by
          cases hk : u4.ownBlock with
          | none => exact .inl rfl
          | some k => exact .inr (fun e => by cases e; exact hfar _ hk rfl))
        generalize w7.setCell ⟨w5.heap.size, 1, none⟩ (.int .i64 (at_ + q + z)) = w8 at *
        have k0 := h8.at_ (i := 0) (u := .int .i64 (at_ + q)) rfl
        have k1 := h8.at_ (i := 1) (u := .int .i64 (at_ + q + z)) rfl
        have k2 := h8.at_ (i := 2) (u := .int .i64 y) rfl
        have HB8 := Lib.hid h8
        have HS8 := Lib.hid hs8
        clear hb6 hs6 hbel6 hown6 hv6 d0 hs7 hg7 hb7 e0 e1 f1 hwz hbel7 hown7 h8 hs8
        go_wp2_with (at_builtin; refine wpList_append_own _ rfl _ _ 43 rfl (w.heap.size + 1) 60 i0 (.agg #[.int .i64 0, .int .i64 0, .int .i64 0]) 3 24 Try.underlying43 hi hz0 hz1 hz2 rfl (by decide) _ _ _ rfl (hown8.alloc _) ⟨w8.heap.size, 0, none⟩ 1 1 [.int .i64 (at_ + q), .int .i64 (at_ + q + z), .int .i64 y] rfl rfl (World.news_of_block (cs := #[.int .i64 (at_ + q), .int .i64 (at_ + q + z), .int .i64 y]) (heap_alloc_new w8 _)) ?c1 ?c2 ?c3 ?c4 ?_)
        case c1 => intro u hu; simp at hu; rcases hu with rfl | rfl | rfl <;> rfl
        case c2 => unfold maxLen; omega
        case c3 => omega
        case c4 => have := HB8.out.lt; simp; omega
        intro v' w9 hown9 hgrow _
        have hlt8 := HB8.out.lt
        have hbel9 : Below w.heap.size w w9 := (hbel8.alloc hbel8.size _).grown hgrow (by have := hbel8.size; simp; omega) (fun k hk => by have := (hown8.lt k hk).1; omega)
        have HS9 := Lib.hid ((HS8.out.alloc _).grown hgrow (fun hk => by have := (hown8.lt _ hk.symm).1; omega))
        have hsz9 : w.heap.size + 1 ≤ w9.heap.size := by have := hgrow.size; simp at this; omega
        have hx9 := ((HB8.out.alloc (.cells #[.int .i64 (at_ + q), .int .i64 (at_ + q + z), .int .i64 y] 60)).grown hgrow (fun hk => hfar _ hk.symm rfl)).at_ (i := 1) (u := .int .i64 (at_ + q + z)) rfl
        have HF9 : Hid (okS 0 1114111 (-1) (acc ++ [(at_ + q, at_ + q + z, y)]) = true ∧ lastOf (-1) (acc ++ [(at_ + q, at_ + q + z, y)]) < at_ + q + z + 1 ∧ ∀ s ∈ acc ++ [(at_ + q, at_ + q + z, y)], fitsB s.2.2 = true) := by
          obtain ⟨g1, g2, g3⟩ := HF.out
          refine Lib.hid ⟨?_, ?_, ?_⟩
          · rw [okS_snoc, g1, Bool.true_and]
            unfold okOne
            rw [decide_eq_true_eq]
            simp only
            omega
          · rw [lastOf_snoc]; simp only; omega
          · intro s hs
            rcases List.mem_append.1 hs with h | h
            · exact g3 s h
            · rw [List.mem_singleton] at h; subst h; exact (fitsB_iff _).2 (by simp only; omega)
        clear hgrow hown8 hbel8 HB8 HS8 k0 k1 k2 HF
        go_wp2_with fail
        go_roundw
        case rel => exact ⟨m - 1, at_ + q + z + 1, acc ++ [(at_ + q, at_ + q + z, y)], by go_num, rfl, by omega, by simp; omega, by simp; omega, by rw [spans_snoc]; simpa [spCells] using hown9, HF9, HS9, hbel9, hsz9⟩
        case measure => simp [intOf]; omega
    · go_wp2_with fail
      go_ret
      refine ⟨_, acc, rfl, Spans.of_own hown, by omega, ?_, HF.out.2.2, hbel⟩
      unfold checkS
      rw [HF.out.1, Bool.true_and, decide_eq_true_eq]; omega
end Go.Proofs.Ytmbphpocbajlmaa
