/-
  Merged texts: lemmas and walks that the last text of this claim leans on.
-/
import Derived.Test.YtikcfoobfobmnaaGreatDoorMgB72
import Derived.Test.YtikcfoobfobmnaaGreatDoorMgB73
import Derived.Test.YtikcfoobfobmnaaGreatDoorMgB75
import Derived.Deep.Cut
import Derived.Deep.CutRange
import Derived.Deep.LoopGhost
import Derived.Test.YtikcfoobfobmnaaGreatDoorMgB71
import Derived.WalkSmall
/-
  The walks through keep.usual and keep.choose.
-/
namespace Go.Proofs.YtikcfoobfobmnaaGreatDoor
open Go.RowKit ND

/-- Six usual properties. -/
def RetUsual (w : World) (e : Ending) (w' : World) : Prop :=
  ∃ u0 u1 u2 u3 u4 u5 : Int, e = .returned (.agg #[.int .i64 u0, .int .i64 u1, .int .i64 u2, .int .i64 u3, .int .i64 u4, .int .i64 u5]) ∧ (0 ≤ u0 ∧ u0 ≤ 8) ∧ (0 ≤ u1 ∧ u1 ≤ 254) ∧ (0 ≤ u2 ∧ u2 ≤ 5) ∧ (0 ≤ u3 ∧ u3 ≤ 11) ∧ (0 ≤ u4 ∧ u4 ≤ 60) ∧ (u5 = 0 ∨ u5 = 1 ∨ u5 = 4) ∧ Below w.heap.size w w'

set_option maxRecDepth 100000 in
set_option maxHeartbeats 4000000 in
theorem usual_any (c : Int) (w : World) : Calls Tryz.prog 23 #[.int .i64 c] w (RetUsual w) := by
  by_cases q173 : c = 173
  · subst q173; (go_enter Tryz.func23, Tryz.ntmps23; go_wp2; all_goals exact bodyPost_ret (v := .agg #[.int .i64 8, .int .i64 0, .int .i64 5, .int .i64 9, .int .i64 1, .int .i64 4]) (by simp [results, Tryz.results23, go_sem]) rfl ⟨8, 0, 5, 9, 1, 4, rfl, by omega, by omega, by omega, by omega, by omega, by omega, Below.alloc (Below.refl _ _) (Nat.le_refl _) _⟩)
  by_cases q8204 : c = 8204
  · subst q8204; (go_enter Tryz.func23, Tryz.ntmps23; go_wp2; all_goals exact bodyPost_ret (v := .agg #[.int .i64 8, .int .i64 0, .int .i64 5, .int .i64 9, .int .i64 1, .int .i64 4]) (by simp [results, Tryz.results23, go_sem]) rfl ⟨8, 0, 5, 9, 1, 4, rfl, by omega, by omega, by omega, by omega, by omega, by omega, Below.alloc (Below.refl _ _) (Nat.le_refl _) _⟩)
  by_cases q8205 : c = 8205
  · subst q8205; (go_enter Tryz.func23, Tryz.ntmps23; go_wp2; all_goals exact bodyPost_ret (v := .agg #[.int .i64 8, .int .i64 0, .int .i64 5, .int .i64 9, .int .i64 1, .int .i64 4]) (by simp [results, Tryz.results23, go_sem]) rfl ⟨8, 0, 5, 9, 1, 4, rfl, by omega, by omega, by omega, by omega, by omega, by omega, Below.alloc (Below.refl _ _) (Nat.le_refl _) _⟩)
  by_cases q183 : c = 183
  · subst q183; (go_enter Tryz.func23, Tryz.ntmps23; go_wp2; all_goals exact bodyPost_ret (v := .agg #[.int .i64 5, .int .i64 0, .int .i64 0, .int .i64 8, .int .i64 1, .int .i64 1]) (by simp [results, Tryz.results23, go_sem]) rfl ⟨5, 0, 0, 8, 1, 1, rfl, by omega, by omega, by omega, by omega, by omega, by omega, Below.alloc (Below.refl _ _) (Nat.le_refl _) _⟩)
  by_cases q885 : c = 885
  · subst q885; (go_enter Tryz.func23, Tryz.ntmps23; go_wp2; all_goals exact bodyPost_ret (v := .agg #[.int .i64 5, .int .i64 0, .int .i64 0, .int .i64 8, .int .i64 1, .int .i64 1]) (by simp [results, Tryz.results23, go_sem]) rfl ⟨5, 0, 0, 8, 1, 1, rfl, by omega, by omega, by omega, by omega, by omega, by omega, Below.alloc (Below.refl _ _) (Nat.le_refl _) _⟩)
  by_cases q12539 : c = 12539
  · subst q12539; (go_enter Tryz.func23, Tryz.ntmps23; go_wp2; all_goals exact bodyPost_ret (v := .agg #[.int .i64 5, .int .i64 0, .int .i64 0, .int .i64 8, .int .i64 1, .int .i64 1]) (by simp [results, Tryz.results23, go_sem]) rfl ⟨5, 0, 0, 8, 1, 1, rfl, by omega, by omega, by omega, by omega, by omega, by omega, Below.alloc (Below.refl _ _) (Nat.le_refl _) _⟩)
  by_cases q803 : c = 803
  · subst q803; (go_enter Tryz.func23, Tryz.ntmps23; go_wp2; all_goals exact bodyPost_ret (v := .agg #[.int .i64 2, .int .i64 220, .int .i64 5, .int .i64 10, .int .i64 2, .int .i64 1]) (by simp [results, Tryz.results23, go_sem]) rfl ⟨2, 220, 5, 10, 2, 1, rfl, by omega, by omega, by omega, by omega, by omega, by omega, Below.alloc (Below.refl _ _) (Nat.le_refl _) _⟩)
  by_cases q2381 : c = 2381
  · subst q2381; (go_enter Tryz.func23, Tryz.ntmps23; go_wp2; all_goals exact bodyPost_ret (v := .agg #[.int .i64 2, .int .i64 9, .int .i64 5, .int .i64 10, .int .i64 20, .int .i64 1]) (by simp [results, Tryz.results23, go_sem]) rfl ⟨2, 9, 5, 10, 20, 1, rfl, by omega, by omega, by omega, by omega, by omega, by omega, Below.alloc (Below.refl _ _) (Nat.le_refl _) _⟩)
  by_cases q1072 : c = 1072
  · subst q1072; (go_enter Tryz.func23, Tryz.ntmps23; go_wp2; all_goals exact bodyPost_ret (v := .agg #[.int .i64 1, .int .i64 0, .int .i64 0, .int .i64 0, .int .i64 5, .int .i64 1]) (by simp [results, Tryz.results23, go_sem]) rfl ⟨1, 0, 0, 0, 5, 1, rfl, by omega, by omega, by omega, by omega, by omega, by omega, Below.alloc (Below.refl _ _) (Nat.le_refl _) _⟩)
  by_cases q1488 : c = 1488
  · subst q1488; (go_enter Tryz.func23, Tryz.ntmps23; go_wp2; all_goals exact bodyPost_ret (v := .agg #[.int .i64 1, .int .i64 0, .int .i64 0, .int .i64 1, .int .i64 11, .int .i64 1]) (by simp [results, Tryz.results23, go_sem]) rfl ⟨1, 0, 0, 1, 11, 1, rfl, by omega, by omega, by omega, by omega, by omega, by omega, Below.alloc (Below.refl _ _) (Nat.le_refl _) _⟩)
  by_cases q1523 : c = 1523
  · subst q1523; (go_enter Tryz.func23, Tryz.ntmps23; go_wp2; all_goals exact bodyPost_ret (v := .agg #[.int .i64 1, .int .i64 0, .int .i64 0, .int .i64 1, .int .i64 11, .int .i64 1]) (by simp [results, Tryz.results23, go_sem]) rfl ⟨1, 0, 0, 1, 11, 1, rfl, by omega, by omega, by omega, by omega, by omega, by omega, Below.alloc (Below.refl _ _) (Nat.le_refl _) _⟩)
  by_cases q1576 : c = 1576
  · subst q1576; (go_enter Tryz.func23, Tryz.ntmps23; go_wp2; all_goals exact bodyPost_ret (v := .agg #[.int .i64 1, .int .i64 0, .int .i64 3, .int .i64 2, .int .i64 12, .int .i64 1]) (by simp [results, Tryz.results23, go_sem]) rfl ⟨1, 0, 3, 2, 12, 1, rfl, by omega, by omega, by omega, by omega, by omega, by omega, Below.alloc (Below.refl _ _) (Nat.le_refl _) _⟩)
  by_cases q1577 : c = 1577
  · subst q1577; (go_enter Tryz.func23, Tryz.ntmps23; go_wp2; all_goals exact bodyPost_ret (v := .agg #[.int .i64 1, .int .i64 0, .int .i64 3, .int .i64 2, .int .i64 12, .int .i64 1]) (by simp [results, Tryz.results23, go_sem]) rfl ⟨1, 0, 3, 2, 12, 1, rfl, by omega, by omega, by omega, by omega, by omega, by omega, Below.alloc (Below.refl _ _) (Nat.le_refl _) _⟩)
  by_cases q1632 : c = 1632
  · subst q1632; (go_enter Tryz.func23, Tryz.ntmps23; go_wp2; all_goals exact bodyPost_ret (v := .agg #[.int .i64 3, .int .i64 0, .int .i64 0, .int .i64 3, .int .i64 1, .int .i64 1]) (by simp [results, Tryz.results23, go_sem]) rfl ⟨3, 0, 0, 3, 1, 1, rfl, by omega, by omega, by omega, by omega, by omega, by omega, Below.alloc (Below.refl _ _) (Nat.le_refl _) _⟩)
  by_cases q1776 : c = 1776
  · subst q1776; (go_enter Tryz.func23, Tryz.ntmps23; go_wp2; all_goals exact bodyPost_ret (v := .agg #[.int .i64 3, .int .i64 0, .int .i64 0, .int .i64 4, .int .i64 1, .int .i64 1]) (by simp [results, Tryz.results23, go_sem]) rfl ⟨3, 0, 0, 4, 1, 1, rfl, by omega, by omega, by omega, by omega, by omega, by omega, Below.alloc (Below.refl _ _) (Nat.le_refl _) _⟩)
  by_cases q19968 : c = 19968
  · subst q19968; (go_enter Tryz.func23, Tryz.ntmps23; go_wp2; all_goals exact bodyPost_ret (v := .agg #[.int .i64 1, .int .i64 0, .int .i64 0, .int .i64 0, .int .i64 6, .int .i64 1]) (by simp [results, Tryz.results23, go_sem]) rfl ⟨1, 0, 0, 0, 6, 1, rfl, by omega, by omega, by omega, by omega, by omega, by omega, Below.alloc (Below.refl _ _) (Nat.le_refl _) _⟩)
  have b173 : (c == 173) = false := by simpa using q173
  have b8204 : (c == 8204) = false := by simpa using q8204
  have b8205 : (c == 8205) = false := by simpa using q8205
  have b183 : (c == 183) = false := by simpa using q183
  have b885 : (c == 885) = false := by simpa using q885
  have b12539 : (c == 12539) = false := by simpa using q12539
  have b803 : (c == 803) = false := by simpa using q803
  have b2381 : (c == 2381) = false := by simpa using q2381
  have b1072 : (c == 1072) = false := by simpa using q1072
  have b1488 : (c == 1488) = false := by simpa using q1488
  have b1523 : (c == 1523) = false := by simpa using q1523
  have b1576 : (c == 1576) = false := by simpa using q1576
  have b1577 : (c == 1577) = false := by simpa using q1577
  have b1632 : (c == 1632) = false := by simpa using q1632
  have b1776 : (c == 1776) = false := by simpa using q1776
  have b19968 : (c == 19968) = false := by simpa using q19968
  clear q173 q8204 q8205 q183 q885 q12539 q803 q2381 q1072 q1488 q1523 q1576 q1577 q1632 q1776 q19968
  by_cases r769 : 769 ≤ c ∧ c ≤ 837
  · obtain ⟨h1, h2⟩ := r769
    (go_enter Tryz.func23, Tryz.ntmps23; go_wp2; all_goals exact bodyPost_ret (v := .agg #[.int .i64 2, .int .i64 230, .int .i64 5, .int .i64 10, .int .i64 2, .int .i64 1]) (by simp [results, Tryz.results23, go_sem]) rfl ⟨2, 230, 5, 10, 2, 1, rfl, by omega, by omega, by omega, by omega, by omega, by omega, Below.alloc (Below.refl _ _) (Nat.le_refl _) _⟩)
  by_cases r945 : 945 ≤ c ∧ c ≤ 947
  · obtain ⟨h1, h2⟩ := r945
    (go_enter Tryz.func23, Tryz.ntmps23; go_wp2; all_goals exact bodyPost_ret (v := .agg #[.int .i64 1, .int .i64 0, .int .i64 0, .int .i64 0, .int .i64 4, .int .i64 1]) (by simp [results, Tryz.results23, go_sem]) rfl ⟨1, 0, 0, 0, 4, 1, rfl, by omega, by omega, by omega, by omega, by omega, by omega, Below.alloc (Below.refl _ _) (Nat.le_refl _) _⟩)
  by_cases r7680 : 7680 ≤ c ∧ c ≤ 7684
  · obtain ⟨h1, h2⟩ := r7680
    (go_enter Tryz.func23, Tryz.ntmps23; go_wp2; all_goals exact bodyPost_ret (v := .agg #[.int .i64 1, .int .i64 0, .int .i64 0, .int .i64 0, .int .i64 3, .int .i64 1]) (by simp [results, Tryz.results23, go_sem]) rfl ⟨1, 0, 0, 0, 3, 1, rfl, by omega, by omega, by omega, by omega, by omega, by omega, Below.alloc (Below.refl _ _) (Nat.le_refl _) _⟩)
  (go_enter Tryz.func23, Tryz.ntmps23; go_wp2; all_goals exact bodyPost_ret (v := .agg #[.int .i64 6, .int .i64 0, .int .i64 0, .int .i64 8, .int .i64 1, .int .i64 0]) (by simp [results, Tryz.results23, go_sem]) rfl ⟨6, 0, 0, 8, 1, 0, rfl, by omega, by omega, by omega, by omega, by omega, by omega, Below.alloc (Below.refl _ _) (Nat.le_refl _) _⟩)
end Go.Proofs.YtikcfoobfobmnaaGreatDoor
/-
  The walk through keep.maps.
-/
namespace Go.Proofs.YtikcfoobfobmnaaGreatDoor
open Go.RowKit ND

/-- What keep.maps leaves: the statuses and the mappings. -/
def RetMaps (w : World) (g b sb : Nat) (v : Value) (n : Nat) (c0 c1 c2 c3 c4 c6 c7 c9 c10 c11 : Value) (e : Ending) (w' : World) : Prop :=
  ∃ v5 v8 S M, e = .returned (.tuple #[]) ∧ Blk w' b 29 #[c0, c1, c2, c3, c4, v5, c6, c7, v8, c9, c10, c11] ∧ Spans (veil [g, b] w') w'.heap.size v5 S ∧ Mapps (veil [g, b] w') w'.heap.size v8 M ∧ MapN 28 S M ∧
    Src w' g v n ∧ onlyIn [g, b, sb] w w'

theorem set_same {l : List Int} {k : Nat} {x : Int} (h : l[k]? = some x) : l.set k x = l := by
  refine List.ext_getElem? fun i => ?_
  rw [List.getElem?_set]
  split
  · rename_i e; subst e; rw [h]; have := (List.getElem?_eq_some_iff.1 h).1; simp [this]
  · rfl

/-- A sequence that a code point may be mapped to. -/
def mapL (l : List Int) : Prop := ∃ a, (a = 97 ∨ a = 98 ∨ a = 99) ∧ (l = [a] ∨ l = [a, 46])

set_option maxRecDepth 100000 in
set_option maxHeartbeats 4000000 in
theorem keepMaps_any (w : World) (g b sb : Nat) (v : Value) (xs : List Int) (c0 c1 c2 c3 c4 c6 c7 c9 c10 c11 : Value) (st : List Int) (sc : Nat) (hv : Ints w g .i64 v xs) (hs : Src w g v xs.length)
    (hb : Blk w b 29 #[c0, c1, c2, c3, c4, .slice none 0 0, c6, c7, .slice none 0 0, c9, c10, c11]) (hgb : g < b) (hbs : b < sb)
    (hst : StRow w sb 0 st) (hst1 : ∀ x ∈ st, 0 ≤ x ∧ x ≤ 4 ∧ x ≠ 3) (hst2 : st.length = 28) :
    Calls Tryz.prog 27 #[.pointer (some ⟨g, 0, none⟩), .pointer (some ⟨b, 0, none⟩), .slice (some ⟨sb, 0, none⟩) 28 sc] w (RetMaps w g b sb v xs.length c0 c1 c2 c3 c4 c6 c7 c9 c10 c11) := by
  have HV := Lib.hid hv
  have HT := Lib.hid hst
  have hsb : sb < w.heap.size := by obtain ⟨cs, h, _⟩ := hst; exact h.lt
  have HS := Lib.hid hs
  have HB := Lib.hid hb
  clear hv hs hb hst
  go_enter Tryz.func27, Tryz.ntmps27
  go_wp2_with (go_at_call 22; refine (pool_any _).mono ?_; rintro e w1 ⟨rfl, rfl⟩)
  have hI : MSt w g b sb xs.length v c0 c1 c2 c3 c4 c6 c7 c9 c10 c11 0 (.slice none 0 0) (.slice none 0 0) [] [] st (w.alloc (.cells (poolL.map (Value.int .i64)).toArray 3)) :=
    ⟨HB.out.alloc _, Spans.none_, OwnM.nil _ _ _, (by obtain ⟨i, h1, h2⟩ := HS.out; exact ⟨i, h1, h2.alloc _⟩), onlyIn.of_below (Below.alloc (Below.refl _ _) (Nat.le_refl _) _), Blk.new _ _ _, (by obtain ⟨cs, h1, h2⟩ := HT.out; exact ⟨cs, h1.alloc _, h2⟩)⟩
  have HI := Lib.hid hI
  clear hI HS HB HT
  generalize w.alloc (.cells (poolL.map (Value.int .i64)).toArray 3) = w1 at *
  go_loopg [13] 28 (fun gk iv wr => ∃ (k : Nat) (v5 v8 : Value) (S : List Sp) (M : List Mp), iv = .int .i64 k ∧ k + gk = 28 ∧ Hid (MSt w g b sb xs.length v c0 c1 c2 c3 c4 c6 c7 c9 c10 c11 k v5 v8 S M st wr) ∧ Hid (MapN k S M))
  case atStart => exact ⟨0, _, _, [], [], rfl, rfl, HI, Lib.hid (MapN.nil 0)⟩
  case round =>
    obtain ⟨k, v5, v8, S, M, rfl, hk, HM, HN⟩ := hrel
    by_cases hlt : k < 28
    · obtain ⟨c, hc, _⟩ := get_of (show k < poolL.length from hlt)
      have d0 : wr.cell? ⟨w.heap.size, k, none⟩ = some (.int .i64 c) := HM.out.pool.at_ (by simp [hc])
      have HNX : Hid (∀ (W : World) (m : Int), onlyIn [g, b, sb] w W → Src W g v xs.length → 0 < m → m ≤ 1000000 → Calls Tryz.prog 21 #[.pointer (some ⟨g, 0, none⟩), .int .i64 m] W (RetNext W g v xs.length m)) :=
        Lib.hid fun W m h1 h2 h3 h4 => next_src W g v xs m (HV.out.below (h1.below (by intro x hx; simp at hx; omega) (by omega))) h2 h3 h4
      have hdl : decide ((k : Int) < (28 : Int)) = true := by simp; omega
      go_upto_region 4 with fail
      go_cut [32] from 18 to 32 (fun s32 wx => ∃ d : Bool, s32 = .bool d ∧ Hid (MSt w g b sb xs.length v c0 c1 c2 c3 c4 c6 c7 c9 c10 c11 k v5 v8 S M st wx))
      case first =>
        have hN2 := HNX.out wr 2 HM.out.oi HM.out.src (by decide) (by decide)
        by_cases ha : c = 128512
        · have n1 : (c == 128512) = true := by simpa using ha
          go_wp2; go_meet; case rel => exact ⟨true, rfl, HM⟩
        · have n1 : (c == 128512) = false := by simpa using ha
          by_cases hb : c = 7684
          · have n2 : (c == 7684) = true := by simpa using hb
            go_wp2; go_meet; case rel => exact ⟨true, rfl, HM⟩
          · have n2 : (c == 7684) = false := by simpa using hb
            by_cases hd : c = 947
            · have n3 : (c == 947) = true := by simpa using hd
              clear ha hb hd
              go_wp2_with (go_at_call 21; refine hN2.mono ?_; rintro e w2 ⟨q, rfl, q0, q1, hs2, hg2⟩)
              all_goals go_meet
              all_goals case rel => exact ⟨_, rfl, Lib.hid (HM.out.only hgb hbs hsb (onlyIn.of_grown hg2 (by simp)) hs2)⟩
            · have n3 : (c == 947) = false := by simpa using hd
              go_wp2; go_meet; case rel => exact ⟨false, rfl, HM⟩
      case rest =>
        obtain ⟨d, rfl, HM1⟩ := hcut
        clear d0 HM
        go_upto_if 32 with fail
        go_cut [] from 33 to 62 (fun wx => ∃ v8' M' x, Hid (MSt w g b sb xs.length v c0 c1 c2 c3 c4 c6 c7 c9 c10 c11 k v5 v8' S M' (st.set k x) wx) ∧ Hid ((M' = M ∧ 0 ≤ x ∧ x ≤ 4 ∧ x ≠ 3) ∨ (x = 3 ∧ ∃ l, M' = M ++ [(c, l)] ∧ mapL l)))
        case first =>
          cases d
          · obtain ⟨x, hx, hxm⟩ := get_of (show k < st.length by omega)
            go_wp2
            go_meet
            case rel => exact ⟨v8, M, x, Lib.hid (by rw [set_same hx]; exact HM1.out), Lib.hid (.inl ⟨rfl, hst1 x hxm⟩)⟩
          · have hN0 := HNX.out wc 3 HM1.out.oi HM1.out.src (by decide) (by decide)
            go_upto_region 6 with (go_at_call 21; refine hN0.mono ?_; rintro e w2 ⟨q, rfl, q0, q1, hs2, hg2⟩)
            have HM2 := Lib.hid (HM1.out.only hgb hbs hsb (onlyIn.of_grown hg2 (by simp)) hs2)
            have hX5 : XAt ((w2.alloc (.cells #[.int .i64 (97 + q)] 3)).alloc (.cells #[.int .i64 c, .slice (some ⟨w2.heap.size, 0, none⟩) 1 1] 51)) (w2.heap.size + 1) w2.heap.size c (.slice (some ⟨w2.heap.size, 0, none⟩) 1 1) [97 + q] :=
              ⟨by have h := Blk.new (w2.alloc (.cells #[.int .i64 (97 + q)] 3)) 51 #[.int .i64 c, .slice (some ⟨w2.heap.size, 0, none⟩) 1 1]; simpa using h, (own_new w2 3 [97 + q] (by simp)).alloc _⟩
            have hO5 : onlyIn [g] w2 ((w2.alloc (.cells #[.int .i64 (97 + q)] 3)).alloc (.cells #[.int .i64 c, .slice (some ⟨w2.heap.size, 0, none⟩) 1 1] 51)) :=
              onlyIn.of_below (((Below.refl _ _).alloc (Nat.le_refl _) _).alloc (by simp) _)
            have hS5 : Src ((w2.alloc (.cells #[.int .i64 (97 + q)] 3)).alloc (.cells #[.int .i64 c, .slice (some ⟨w2.heap.size, 0, none⟩) 1 1] 51)) g v xs.length := by
              obtain ⟨i, h1, h2⟩ := hs2
              exact ⟨i, h1, (h2.alloc _).alloc _⟩
            have hsb2 : sb < w2.heap.size := by have h1 := HM1.out.oi.2.2.2.1; have h2 := hg2.size; omega
            have hz5 : w2.heap.size + 1 < ((w2.alloc (.cells #[.int .i64 (97 + q)] 3)).alloc (.cells #[.int .i64 c, .slice (some ⟨w2.heap.size, 0, none⟩) 1 1] 51)).heap.size := by simp
            have HX5 := Lib.hid hX5
            have HO5 := Lib.hid hO5
            have HS5 := Lib.hid hS5
            clear hX5 hO5 hS5 hs2 hg2 HM1
            generalize (w2.alloc (.cells #[.int .i64 (97 + q)] 3)).alloc (.cells #[.int .i64 c, .slice (some ⟨w2.heap.size, 0, none⟩) 1 1] 51) = W5 at *
            have HNW : Hid (∀ (W : World) (m : Int), onlyIn [g] w2 W → Src W g v xs.length → 0 < m → m ≤ 1000000 → Calls Tryz.prog 21 #[.pointer (some ⟨g, 0, none⟩), .int .i64 m] W (RetNext W g v xs.length m)) :=
              Lib.hid fun W m h1 h2 h3 h4 => HNX.out W m (HM2.out.only hgb hbs hsb h1 h2).oi h2 h3 h4
            obtain ⟨B0, HB0⟩ : ∃ B0, Hid (B0 = w2.heap.size) := ⟨_, Lib.hid rfl⟩
            rw [← HB0.out] at hsb2 hz5 HX5
            simp only [← HB0.out]
            have hN6 := HNW.out W5 2 HO5.out HS5.out (by decide) (by decide)
            go_upto_if 41 with (go_at_call 21; refine hN6.mono ?_; rintro e w6 ⟨q6, rfl, q60, q61, hs6, hg6⟩; have HO6 := Lib.hid (HO5.out.trans (onlyIn.of_grown hg6 (by simp))); have HS6 := Lib.hid hs6; have HX6 := Lib.hid (HX5.out.grown hg6 (by omega) (by omega)); have hz6 := Nat.le_trans hz5 hg6.size; clear hs6 hg6)
            go_cut [] from 41 to 46 (fun wx => ∃ sv l, Hid (onlyIn [g] w2 wx) ∧ Hid (Src wx g v xs.length) ∧ Hid (XAt wx (B0 + 1) B0 c sv l) ∧ Hid (mapL l) ∧ B0 + 1 < wx.heap.size)
            case first =>
              by_cases h46 : q6 = 0
              · have n6 : (q6 == 0) = true := by simpa using h46
                have hb6 := HX6.out.1
                have d1 := hb6.at_ (i := 1) rfl
                have HB6 := Lib.hid hb6
                clear hb6 h46
                obtain ⟨i0, hi, hz0, hz1, hz2⟩ := info_parts Tryz.infoInt'
                go_wp2_with (at_builtin; refine wpList_append_ints (by rfl) (.tmp 43) (.tmp 44) rfl Tryz.underlying22 hi hz0 hz1 hz2 (w6.heap.size + 1) B0 (.slice (some ⟨B0, 0, none⟩) 1 1) [97 + q] (.slice (some ⟨w6.heap.size, 0, none⟩) 1 1) [46] rfl (HX6.out.2.alloc _) rfl (by have h := Ints.of_own (own_new w6 3 [46] (by simp)); simpa using h) (by simp) (by simp; omega) ?_; intro v7 w7 hown7 hg7 _; have hb7 := (HB6.out.alloc (.cells #[.int .i64 46] 3)).grown hg7 (by simp [Value.ownBlock]); have e7 := hb7.at_ (i := 1) rfl; have f7 := hb7.free 1; have HB7 := Lib.hid hb7; have HOW7 := Lib.hid hown7; obtain ⟨A7, m7, c7', rfl⟩ := own_slice HOW7.out; have HG7 := Lib.hid hg7; clear hb7 hown7 hg7)
                go_meet
                case rel =>
                  have hB0 := HB0.out
                  refine ⟨_, [97 + q, 46], Lib.hid (((HO6.out.far (World.grownBy_alloc w6 _ none) (by simp)).far HG7.out ?_).far (grown_setCell (grown_refl w7 (some (B0 + 1))) 1 _) ?_), Lib.hid (((HS6.out.alloc _).grown HG7.out ?_).grown (grown_setCell (grown_refl w7 (some (B0 + 1))) 1 _) ?_), Lib.hid (XAt.put1 HB7.out HOW7.out), Lib.hid ⟨97 + q, by omega, .inr rfl⟩, ?_⟩
                  · intro x hx; simp [Value.ownBlock] at hx; omega
                  · intro x hx; simp at hx; omega
                  · simp [Value.ownBlock]; omega
                  · simp; omega
                  · have := HG7.out.size; simp at this ⊢; omega
              · have n6 : (q6 == 0) = false := by simpa using h46
                clear h46
                go_wp2
                go_meet
                case rel => exact ⟨_, _, HO6, HS6, HX6, Lib.hid ⟨97 + q, by omega, .inl rfl⟩, by omega⟩
            case rest =>
              obtain ⟨sv, l, HO7, HS7, HX7, HL, hz7⟩ := hcut
              clear HO6 HS6 HX6 hz6 HO5 HS5 HX5 hz5
              have hN8 := HNW.out wc 3 HO7.out HS7.out (by decide) (by decide)
              go_upto_if 49 with (go_at_call 21; refine hN8.mono ?_; rintro e w8 ⟨q8, rfl, q80, q81, hs8, hg8⟩; have HO8 := Lib.hid (HO7.out.trans (onlyIn.of_grown hg8 (by simp))); have HS8 := Lib.hid hs8; have HX8 := Lib.hid (HX7.out.grown hg8 (by omega) (by omega)); have hz8 := Nat.lt_of_lt_of_le hz7 hg8.size; clear hs8 hg8)
              have HM8 := Lib.hid (HM2.out.only hgb hbs hsb HO8.out HS8.out)
              by_cases h8 : 0 < q8
              · go_upto_region 9 with fail
                go_cut [] from 49 to 59 (fun wx => ∃ v8', Hid (MSt w g b sb xs.length v c0 c1 c2 c3 c4 c6 c7 c9 c10 c11 k v5 v8' S (M ++ [(c, l)]) st wx))
                case first =>
                  have hb8 := HM8.out.blk
                  have e8 := hb8.at_ (i := 8) rfl
                  have f8 := hb8.free 8
                  have hx8 := HX8.out.1
                  have x0 := hx8.at_ (i := 0) rfl
                  have x1 := hx8.at_ (i := 1) rfl
                  have ea := (hb8.alloc (.cells #[.int .i64 c, sv] 51)).at_ (i := 8) rfl
                  have HBA := Lib.hid (hb8.alloc (.cells #[.int .i64 c, sv] 51))
                  have HOX : Hid (onlyIn [] w8 (w8.alloc (.cells #[.int .i64 c, sv] 51)).drew) := Lib.hid (onlyIn.of_below ((Below.refl _ _).alloc (Nat.le_refl _) _).drew)
                  have HMX := Lib.hid (HM8.out.only hgb hbs hsb (HOX.out.more (by simp)) (show Src (w8.alloc (.cells #[.int .i64 c, sv] 51)).drew g v xs.length from HM8.out.src.alloc _))
                  have HIX : Hid (Ints (veil ([g, b, sb] ++ v8.ownBlock.toList) (w8.alloc (.cells #[.int .i64 c, sv] 51)).drew) (w8.alloc (.cells #[.int .i64 c, sv] 51)).drew.heap.size .i64 sv l) := by
                    have h := Ints.veil_own (S := [g, b, sb] ++ v8.ownBlock.toList) (show World.ownsRow (w8.alloc (.cells #[.int .i64 c, sv] 51)).drew B0 3 1 sv l.length (l.map (Value.int .i64)) from HX8.out.2.alloc _) (fun q hq => by
                      rcases List.mem_append.1 hq with hq | hq
                      · simp at hq; omega
                      · rw [Option.mem_toList] at hq; have := (HM2.out.own q hq).2; have := HB0.out; omega)
                    rw [veil_size] at h
                    exact Lib.hid h
                  have HKX : Hid (Blk (w8.alloc (.cells #[.int .i64 c, sv] 51)).drew w8.heap.size 51 #[.int .i64 c, sv]) := Lib.hid (Blk.new w8 51 #[.int .i64 c, sv])
                  have hml : M.length ≤ 1000000 := by have h := HN.out.same; have h2 := colN_len HN.out.col; have := congrArg List.length h; simp [keysOf] at this; have := List.length_filter_le (fun s : Sp => decide (s.2.2 = 3)) S; omega
                  have hsz8 : w.heap.size + 1 ≤ (w8.alloc (.cells #[.int .i64 c, sv] 51)).drew.heap.size := by have h1 := HM8.out.oi.2.2.2.1; simp; omega
                  obtain ⟨i0, hi, hz0, hz1, hz2⟩ := info_parts Tryz.infoMap
                  clear hb8 hx8
                  go_region_law (first
                    | (refine step_app_map rfl (.tmp 54) (.tmp 56) rfl Tryz.underlying27 hi _ hz0 hz1 hz2 rfl [g, b, sb] (w.heap.size + 1) v8 M w8.heap.size c sv l rfl rfl HMX.out.om HKX.out HIX.out hml hsz8 ?_; intro v9 w9 hM9 hg9 hr9 hs9; have hb9 := (show Blk (w8.alloc (.cells #[.int .i64 c, sv] 51)).drew b 29 #[c0, c1, c2, c3, c4, v5, c6, c7, v8, c9, c10, c11] from HBA.out).grown hg9 (fun e => by have := (HM8.out.own b e.symm).1; omega); have e9 := hb9.at_ (i := 8) rfl; have f9 := hb9.free 8; have HM9 := Lib.hid hM9; have HG9 := Lib.hid hg9; have HR9 := Lib.hid hr9; obtain ⟨A9, m9, c9', rfl⟩ := hs9; clear hb9 hM9 hg9 hr9))
                  all_goals go_wp2
                  all_goals go_meet
                  all_goals case rel => exact ⟨_, Lib.hid (HM8.out.append hgb hbs hsb HOX.out HG9.out HR9.out HM9.out)⟩
                case rest =>
                  obtain ⟨v8', HM9⟩ := hcut
                  clear HM8 HX8 HO8 HS8
                  have k1 : (k : Int) < 28 := by omega
                  obtain ⟨ct, ht1, ht2⟩ := HM9.out.row
                  obtain ⟨x, hx, hxm⟩ := get_of (show k < st.length by omega)
                  have d1 := ht1.at_ (ht2 k x (Nat.le_refl _) hx)
                  have f1 := ht1.free k
                  clear ht1 ht2 hx hxm hdl
                  go_wp2
                  go_meet
                  case rel => exact ⟨v8', _, 3, Lib.hid (HM9.out.status hgb hbs hsb 3), Lib.hid (.inr ⟨rfl, l, rfl, HL.out⟩)⟩
              · obtain ⟨x, hx, hxm⟩ := get_of (show k < st.length by omega)
                go_wp2
                go_meet
                case rel => exact ⟨v8, M, x, Lib.hid (by rw [set_same hx]; exact HM8.out), Lib.hid (.inl ⟨rfl, hst1 x hxm⟩)⟩
        case rest =>
          obtain ⟨v8', M', x, HM2, HX⟩ := hcut
          clear HM1 HNX
          obtain ⟨ct, ht1, ht2⟩ := HM2.out.row
          have d1 := ht1.at_ (ht2 k x (Nat.le_refl _) (by rw [List.getElem?_set_self (by omega)]))
          have e5 := HM2.out.blk.at_ (i := 5) rfl
          have hsl : S.length ≤ 1000000 := by have := colN_len HN.out.col; omega
          have hsu : Hid (Spans wc wc.heap.size v5 S) := Lib.hid HM2.out.sp.unveil
          clear ht1 ht2 hdl
          have k1 : (k : Int) < 28 := by omega
          go_wp2
          go_region_law (go_simp; go_at_call 25; refine (add_any wc.drew b 5 29 #[c0, c1, c2, c3, c4, v5, c6, c7, v8', c9, c10, c11] v5 S c c 0 x (show Blk wc.drew b 29 #[c0, c1, c2, c3, c4, v5, c6, c7, v8', c9, c10, c11] from HM2.out.blk) rfl (show Spans wc.drew wc.drew.heap.size v5 S from hsu.out) hsl).mono ?_; intro e w5 hret; obtain ⟨v5', S', rfl, hM5, hx0, hx1⟩ := HM2.out.add hgb hbs hsb hret; have HM5 := Lib.hid hM5; clear hret hM5; have HX0 := Lib.hid hx0; have HX1 := Lib.hid hx1; clear hx0 hx1)
          all_goals go_wp2
          go_roundg (27 - k)
          case measure => omega
          case rel =>
            refine ⟨k + 1, v5', v8', S', M', by go_num, by omega, Lib.hid (HM5.out.up fun j y hj hy => by rw [List.getElem?_set_ne (by omega)]; exact hy), Lib.hid ?_⟩
            rcases HX.out with ⟨rfl, h1, h2, h3⟩ | ⟨h, l, rfl, hl⟩
            · by_cases h0 : x ≤ 0
              · rw [HX0.out h0]; exact HN.out.skip
              · rw [HX1.out (by omega)]; exact HN.out.plain hc (by omega) (by omega) (by omega)
            · rw [HX1.out (by omega)]; subst h; exact HN.out.mapped hc hl
    · have hk28 : k = 28 := by omega
      subst hk28
      go_wp2
      go_end0
      refine ⟨v5, v8, S, M, rfl, HM.out.blk, ?_, ?_, HN.out, HM.out.src, HM.out.oi⟩
      · exact HM.out.sp.reveil fun p x _ hp hx => ⟨fun h => hp (List.mem_append_left _ (by simp at h ⊢; omega)), hx⟩
      · have h := HM.out.om.mapps (by intro x hx; simp at hx; omega)
        rw [veil_size] at h
        exact h.reveil fun p x _ hp hx => ⟨fun h => hp (by simp at h ⊢; omega), hx⟩
end Go.Proofs.YtikcfoobfobmnaaGreatDoor
/-
  The walk through keep.Same at integers.
-/
namespace Go.Proofs.YtikcfoobfobmnaaGreatDoor
open Go.RowKit ND

theorem same_step {xs ys : List Int} {k : Nat} {x : Int} (h : xs.take k = ys.take k) (hx : xs[k]? = some x) (hy : ys[k]? = some x) : xs.take (k + 1) = ys.take (k + 1) := by
  obtain ⟨a, a'⟩ := List.getElem?_eq_some_iff.1 hx
  obtain ⟨b, b'⟩ := List.getElem?_eq_some_iff.1 hy
  rw [List.take_succ_eq_append_getElem a, List.take_succ_eq_append_getElem b, h, a', b']

set_option maxRecDepth 100000 in
set_option maxHeartbeats 1000000 in
theorem same_any (v u : Value) (xs ys : List Int) (w : World) (hv : Ints w w.heap.size .i64 v xs) (hu : Ints w w.heap.size .i64 u ys) :
    Calls Tryz.prog 31 #[v, u] w fun e w' => e = .returned (.bool (decide (xs = ys))) ∧ Below w.heap.size w w' := by
  obtain ⟨A, c, rfl, hc1, hc2, _, hcell⟩ := hv
  obtain ⟨A', c', rfl, hc1', hc2', _, hcell'⟩ := hu
  have HC := Lib.hid hcell; clear hcell
  have HC' := Lib.hid hcell'; clear hcell'
  have hl : xs.length ≤ 9223372036854775807 := by unfold maxLen at hc2; omega
  clear hc2 hc2' hc1 hc1'
  by_cases hlen : xs.length = ys.length
  · have hb : ((xs.length : Int) != (ys.length : Int)) = false := by rw [hlen]; simp
    have hl1 : xs.length ≤ ys.length := by omega
    have hl2 : ys.length ≤ xs.length := by omega
    clear hlen
    obtain ⟨R, hR⟩ : ∃ R, R = decide (xs = ys) := ⟨_, rfl⟩
    rw [← hR]
    have HR := Lib.hid hR; clear hR
    go_enter Tryz.func31, Tryz.ntmps31
    go_wp2_with fail
    go_loopw [13] (fun i wr => ∃ k : Nat, k ≤ xs.length ∧ i = .int .i64 k ∧ Hid (xs.take k = ys.take k) ∧ Below w.heap.size w wr) (fun i _ => xs.length - (intOf i).toNat)
    case atStart => exact ⟨0, by omega, rfl, Lib.hid (by simp), Below.refl _ _⟩
    case round =>
      obtain ⟨k, hk, rfl, HS, hbel⟩ := hrel
      by_cases hlt : k < xs.length
      · obtain ⟨x, hxk, _⟩ := get_of hlt
        obtain ⟨y, hyk, _⟩ := get_of (show k < ys.length by omega)
        obtain ⟨ad, rfl, ha, hce⟩ := HC.out k x hxk
        obtain ⟨ad', rfl, ha', hce'⟩ := HC'.out k y hyk
        have e1 := (hbel.cell (p := ad.add k) (by rw [block_of_add]; exact ha)).trans hce
        have e2 := (hbel.cell (p := ad'.add k) (by rw [block_of_add]; exact ha')).trans hce'
        have HX := Lib.hid hxk
        have HY := Lib.hid hyk
        clear hce hce' hxk hyk ha ha'
        have k0 : (0 : Int) ≤ (k : Int) := by omega
        have k1 : (k : Int) < (xs.length : Int) := by omega
        have k2 : (k : Int) < (ys.length : Int) := by omega
        by_cases hxy : x = y
        · have hb2 : (x != y) = false := by rw [hxy]; simp
          have HT := Lib.hid (same_step HS.out HX.out (by rw [hxy]; exact HY.out))
          clear hxy
          go_wp2_with fail
          go_quiet (fail)
          go_wp2_with fail
          go_roundw
          case rel => exact ⟨k + 1, by omega, by go_num, HT, below_drewN hbel nq⟩
          case measure => simp [intOf]; omega
        · have hb2 : (x != y) = true := by rw [bne_iff_ne]; exact hxy
          have HN : Hid (R = false) := by
            refine Lib.hid ?_
            rw [HR.out, decide_eq_false_iff_not]
            rintro rfl
            have := HX.out.symm.trans HY.out
            simp at this
            exact hxy this
          clear hxy
          go_wp2_with fail
          go_quiet (fail)
          go_wp2_with fail
          go_ret
          rw [HN.out]
          exact ⟨rfl, below_drewN hbel nq⟩
      · have HN : Hid (R = true) := by
          refine Lib.hid ?_
          rw [HR.out, decide_eq_true_iff]
          have h := HS.out
          rw [List.take_of_length_le (by omega), List.take_of_length_le (by omega)] at h
          exact h
        go_wp2_with fail
        go_ret
        rw [HN.out]
        exact ⟨rfl, hbel⟩
  · have hb : ((xs.length : Int) != (ys.length : Int)) = true := by rw [bne_iff_ne]; omega
    have hn : decide (xs = ys) = false := by
      rw [decide_eq_false_iff_not]; rintro rfl; exact hlen rfl
    rw [hn]
    clear hn hlen
    go_enter Tryz.func31, Tryz.ntmps31
    go_wp2_with fail
    go_ret
    exact ⟨rfl, Below.refl _ _⟩
end Go.Proofs.YtikcfoobfobmnaaGreatDoor
