/-
  Merged texts: lemmas and walks that the last text of this claim leans on.
-/
import Derived.Test.YtkdhldhbjomiaaaDoorMgRTableMapped3
import Derived.Test.YtkdhldhbjomiaaaDoorMgRTableMapped5
import Derived.Deep.Cut
import Derived.Deep.CutRange
import Derived.Deep.CutBlock
import Derived.Deep.LoopGhost
import Derived.Deep.AppendLies
import Derived.Test.YtkdhldhbjomiaaaDoorMgRTableMapped1
/-
  The walk through keep.decomps.
-/
namespace Go.Proofs.YtkdhldhbjomiaaaDoor
open Go.RowKit ND

/-- What keep.decomps leaves: the decompositions and the exclusions. -/
def RetDec (w : World) (g b : Nat) (v : Value) (n : Nat) (c0 c1 c2 c3 c4 c5 c6 c7 c8 c11 : Value) (e : Ending) (w' : World) : Prop :=
  ∃ v9 v10 D X, e = .returned (.tuple #[]) ∧ Blk w' b 26 #[c0, c1, c2, c3, c4, c5, c6, c7, c8, v9, v10, c11] ∧ Mapps (veil (List.range w.heap.size) w') w'.heap.size v9 D ∧ Ints (veil (List.range w.heap.size) w') w'.heap.size .i64 v10 X ∧ DecN 5 D X ∧
    Src w' g v n ∧ onlyIn [g, b] w w'

/-- A decomposition of the k-th code point. -/
def decL (k : Nat) (l : List Int) : Prop := ∃ a r, l = a :: r ∧ (a = 97 ∨ a = 98 ∨ 7680 ≤ a ∧ a < 7680 + (k : Int)) ∧ (r = [] ∨ ∃ b, r = [b] ∧ (b = 769 ∨ b = 776 ∨ b = 803 ∨ b = 837 ∨ b = 945))
def fiveL : List Int := [769, 776, 803, 837, 945]

theorem five_at {j : Nat} {y : Int} (h : fiveL[j]? = some y) : (#[Value.int .i64 769, .int .i64 776, .int .i64 803, .int .i64 837, .int .i64 945] : Array Value)[j]? = some (.int .i64 y) := by
  have e : (#[Value.int .i64 769, .int .i64 776, .int .i64 803, .int .i64 837, .int .i64 945] : Array Value) = (fiveL.map (Value.int .i64)).toArray := rfl
  rw [e, List.getElem?_toArray, List.getElem?_map, h]; rfl

set_option maxRecDepth 100000 in
set_option maxHeartbeats 4000000 in
theorem decomps_any (w : World) (g b : Nat) (v : Value) (xs : List Int) (c0 c1 c2 c3 c4 c5 c6 c7 c8 c11 : Value) (hv : Ints w g .i64 v xs) (hs : Src w g v xs.length)
    (hb : Blk w b 26 #[c0, c1, c2, c3, c4, c5, c6, c7, c8, .slice none 0 0, .slice none 0 0, c11]) (hgb : g < b) :
    Calls Tryd.prog 57 #[.pointer (some ⟨g, 0, none⟩), .pointer (some ⟨b, 0, none⟩)] w (RetDec w g b v xs.length c0 c1 c2 c3 c4 c5 c6 c7 c8 c11) := by
  have hbw : b < w.heap.size := hb.lt
  have HI : Hid (DSt w g b xs.length v c0 c1 c2 c3 c4 c5 c6 c7 c8 c11 (.slice none 0 0) (.slice none 0 0) [] [] w) :=
    Lib.hid ⟨hb, OwnM.nil _ _ _, World.ownsRow_nil _ _ _ _, hs, onlyIn.refl _ _⟩
  have HV := Lib.hid hv
  clear hv hs hb
  have HNX : Hid (∀ (W : World) (m : Int), onlyIn [g, b] w W → Src W g v xs.length → 0 < m → m ≤ 1000000 → Calls Tryd.prog 52 #[.pointer (some ⟨g, 0, none⟩), .int .i64 m] W (RetNext W g v xs.length m)) :=
    Lib.hid fun W m h1 h2 h3 h4 => next_src W g v xs m (HV.out.below (h1.below (by intro x hx; simp at hx; omega) (by omega))) h2 h3 h4
  go_enter Tryd.func57, Tryd.ntmps57
  go_wp2
  go_loopg [4] 5 (fun gk iv wr => ∃ (k : Nat) (v9 v10 : Value) (D : List Mp) (X : List Int), iv = .int .i64 k ∧ k + gk = 5 ∧ D.length ≤ k ∧ X.length ≤ k ∧ Hid (DSt w g b xs.length v c0 c1 c2 c3 c4 c5 c6 c7 c8 c11 v9 v10 D X wr) ∧ Hid (DecN k D X))
  case atStart => exact ⟨0, _, _, [], [], rfl, rfl, by simp, by simp, HI, Lib.hid (DecN.nil 0)⟩
  case round =>
    obtain ⟨k, v9, v10, D, X, rfl, hk, hDl, hXl, HM, HN⟩ := hrel
    by_cases hlt : k < 5
    · have hN0 := HNX.out wr 4 HM.out.oi HM.out.src (by decide) (by decide)
      have hdl : decide ((k : Int) < (5 : Int)) = true := by simp; omega
      go_upto_region 4 with (go_at_call 52; refine hN0.mono ?_; rintro e w1 ⟨q, rfl, q0, q1, hs1, hg1⟩)
      · go_roundg (4 - k)
        case measure => omega
        case rel => exact ⟨k + 1, v9, v10, D, X, by go_num, by omega, by omega, by omega, Lib.hid (HM.out.only hgb hbw (onlyIn.of_grown hg1 (by simp)) hs1), Lib.hid HN.out.skip⟩
      · have HM1 := Lib.hid (HM.out.only hgb hbw (onlyIn.of_grown hg1 (by simp)) hs1)
        clear hs1 hg1 HM
        have hN1 := HNX.out w1 2 HM1.out.oi HM1.out.src (by decide) (by decide)
        go_upto_region 5 with (go_at_call 52; refine hN1.mono ?_; rintro e w2 ⟨r, rfl, r0, r1, hs2, hg2⟩)
        have HM2 := Lib.hid (HM1.out.only hgb hbw (onlyIn.of_grown hg2 (by simp)) hs2)
        have hX5 : XAt ((w2.alloc (.cells #[.int .i64 (97 + r)] 3)).alloc (.cells #[.int .i64 (7680 + k), .slice (some ⟨w2.heap.size, 0, none⟩) 1 1] 54)) (w2.heap.size + 1) w2.heap.size (7680 + k) (.slice (some ⟨w2.heap.size, 0, none⟩) 1 1) [97 + r] :=
          ⟨by have h := Blk.new (w2.alloc (.cells #[.int .i64 (97 + r)] 3)) 54 #[.int .i64 (7680 + k), .slice (some ⟨w2.heap.size, 0, none⟩) 1 1]; simpa using h, (own_new w2 3 [97 + r] (by simp)).alloc _⟩
        have hO5 : onlyIn [g] w2 ((w2.alloc (.cells #[.int .i64 (97 + r)] 3)).alloc (.cells #[.int .i64 (7680 + k), .slice (some ⟨w2.heap.size, 0, none⟩) 1 1] 54)) :=
          onlyIn.of_below (((Below.refl _ _).alloc (Nat.le_refl _) _).alloc (by simp) _)
        have hS5 : Src ((w2.alloc (.cells #[.int .i64 (97 + r)] 3)).alloc (.cells #[.int .i64 (7680 + k), .slice (some ⟨w2.heap.size, 0, none⟩) 1 1] 54)) g v xs.length := by
          obtain ⟨i, h1, h2⟩ := hs2
          exact ⟨i, h1, (h2.alloc _).alloc _⟩
        have hb2 : b < w2.heap.size := by have h1 := HM1.out.oi.2.2.2.1; have h2 := hg2.size; omega
        have hz5 : w2.heap.size + 1 < ((w2.alloc (.cells #[.int .i64 (97 + r)] 3)).alloc (.cells #[.int .i64 (7680 + k), .slice (some ⟨w2.heap.size, 0, none⟩) 1 1] 54)).heap.size := by simp
        have HX5 := Lib.hid hX5
        have HO5 := Lib.hid hO5
        have HS5 := Lib.hid hS5
        clear hX5 hO5 hS5 hs2 hg2 HM1
        generalize (w2.alloc (.cells #[.int .i64 (97 + r)] 3)).alloc (.cells #[.int .i64 (7680 + k), .slice (some ⟨w2.heap.size, 0, none⟩) 1 1] 54) = W5 at *
        have HNW : Hid (∀ (W : World) (m : Int), onlyIn [g] w2 W → Src W g v xs.length → 0 < m → m ≤ 1000000 → Calls Tryd.prog 52 #[.pointer (some ⟨g, 0, none⟩), .int .i64 m] W (RetNext W g v xs.length m)) :=
          Lib.hid fun W m h1 h2 h3 h4 => HNX.out W m (HM2.out.only hgb hbw h1 h2).oi h2 h3 h4
        obtain ⟨B0, HB0⟩ : ∃ B0, Hid (B0 = w2.heap.size) := ⟨_, Lib.hid rfl⟩
        rw [← HB0.out] at hb2 hz5 HX5
        simp only [← HB0.out]
        go_cut [29] from 23 to 29 (fun s29 wx => ∃ d : Bool, s29 = .bool d ∧ (d = true → 0 < k) ∧ Hid (onlyIn [g] w2 wx) ∧ Hid (Src wx g v xs.length) ∧ Hid (XAt wx (B0 + 1) B0 (7680 + k) (.slice (some ⟨B0, 0, none⟩) 1 1) [97 + r]) ∧ B0 + 1 < wx.heap.size)
        case first =>
          clear hdl
          by_cases h0 : 0 < k
          · have hN5 := HNW.out W5 3 HO5.out HS5.out (by decide) (by decide)
            have h0' : decide ((0 : Int) < (k : Int)) = true := by simp; omega
            go_wp2_with (go_at_call 52; refine hN5.mono ?_; rintro e w6 ⟨q6, rfl, q60, q61, hs6, hg6⟩)
            go_meet
            case rel => exact ⟨_, rfl, fun _ => h0, Lib.hid (HO5.out.trans (onlyIn.of_grown hg6 (by simp))), Lib.hid hs6, Lib.hid (HX5.out.grown hg6 (by omega) (by omega)), Nat.lt_of_lt_of_le hz5 hg6.size⟩
          · have h0' : decide ((0 : Int) < (k : Int)) = false := by simp; omega
            go_wp2
            go_meet
            case rel => exact ⟨false, rfl, by simp, HO5, HS5, HX5, hz5⟩
        case rest =>
          obtain ⟨d, rfl, hd0, HO6, HS6, HX6, hz6⟩ := hcut
          clear HO5 HS5 HX5 hz5
          go_upto_if 29 with fail
          go_cut [] from 29 to 36 (fun wx => ∃ a : Int, (a = 97 ∨ a = 98 ∨ 7680 ≤ a ∧ a < 7680 + k) ∧ Hid (onlyIn [g] w2 wx) ∧ Hid (Src wx g v xs.length) ∧ Hid (XAt wx (B0 + 1) B0 (7680 + k) (.slice (some ⟨B0, 0, none⟩) 1 1) [a]) ∧ B0 + 1 < wx.heap.size)
          case first =>
            cases d
            · go_wp2
              go_meet
              case rel => exact ⟨97 + r, by omega, HO6, HS6, HX6, hz6⟩
            · have hk0 := hd0 rfl
              have hx1 := HX6.out.1
              have x1 := hx1.at_ (i := 1) rfl
              clear hx1 hdl
              have HND := Lib.hid (HNW.out wc.drew k HO6.out HS6.out (by omega) (by omega))
              go_wp2
              go_region_law (first | (go_simp; go_at_call 52; refine HND.out.mono ?_; rintro e w7 ⟨q7, rfl, q70, q71, hs7, hg70⟩; have hg7 := undrew hg70; have hx7 := HX6.out.grown hg7 (by omega) (by omega); have x7 := hx7.1.at_ (i := 1) rfl; have hy7 := own_one hx7.2; have y7 := hy7.at_ (i := 0) rfl; have g7 := hy7.free 0; have HX7 := Lib.hid hx7; have HY7 := Lib.hid hy7; have HO7 := Lib.hid (HO6.out.trans (onlyIn.of_grown hg7 (by simp))); have HS7 := Lib.hid hs7; have hz7 := Nat.lt_of_lt_of_le hz6 hg7.size; clear hx7 hy7 hs7 hg7 hg70))
              all_goals go_wp2
              all_goals go_meet
              all_goals case rel =>
                have hB0 := HB0.out
                rw [show IntKind.i64.wrap (7680 + q7) = 7680 + q7 from IntWalk.i64_in _ (by omega)]
                refine ⟨7680 + q7, .inr (.inr ⟨by omega, by omega⟩), Lib.hid (HO7.out.far (grown_setCell (grown_refl w7 (some B0)) 0 _) ?_), Lib.hid (HS7.out.grown (grown_setCell (grown_refl w7 (some B0)) 0 _) ?_), Lib.hid ⟨HX7.out.1.far ?_ _, own_of_one (by simpa using HY7.out.put 0 (.int .i64 (7680 + q7))) (Nat.le_refl _)⟩, ?_⟩
                · intro x hx; simp at hx; omega
                · simp; omega
                · simp
                · simpa using hz7
          case rest =>
            obtain ⟨a, ha, HO7, HS7, HX7, hz7⟩ := hcut
            clear HO6 HS6 HX6 hz6
            have hN7 := HNW.out wc 8 HO7.out HS7.out (by decide) (by decide)
            go_upto_if 39 with (go_at_call 52; refine hN7.mono ?_; rintro e w8 ⟨q8, rfl, q80, q81, hs8, hg8⟩; have HO8 := Lib.hid (HO7.out.trans (onlyIn.of_grown hg8 (by simp))); have HS8 := Lib.hid hs8; have HX8 := Lib.hid (HX7.out.grown hg8 (by omega) (by omega)); have hz8 := Nat.lt_of_lt_of_le hz7 hg8.size; clear hs8 hg8)
            clear hN7
            go_cut [] from 39 to 49 (fun wx => ∃ sv l, Hid (onlyIn [g] w2 wx) ∧ Hid (Src wx g v xs.length) ∧ Hid (XAt wx (B0 + 1) B0 (7680 + k) sv l) ∧ Hid (decL k l) ∧ B0 + 1 < wx.heap.size)
            case first =>
              by_cases h8 : 0 < q8
              · have hx8 := HX8.out.1
                have x8 := hx8.at_ (i := 1) rfl
                have x8a := (hx8.alloc (.cells #[.int .i64 769, .int .i64 776, .int .i64 803, .int .i64 837, .int .i64 945] 3)).at_ (i := 1) rfl
                clear hx8 hdl
                have HND1 := Lib.hid (HNW.out w8.drew 5 HO8.out HS8.out (by omega) (by omega))
                have HOA : Hid (onlyIn [g] w2 (w8.alloc (.cells #[.int .i64 769, .int .i64 776, .int .i64 803, .int .i64 837, .int .i64 945] 3))) := Lib.hid (HO8.out.trans (onlyIn.of_below ((Below.refl _ _).alloc (Nat.le_refl _) _)))
                have HSA : Hid (Src (w8.alloc (.cells #[.int .i64 769, .int .i64 776, .int .i64 803, .int .i64 837, .int .i64 945] 3)) g v xs.length) := Lib.hid (HS8.out.alloc _)
                have HXA : Hid (XAt (w8.alloc (.cells #[.int .i64 769, .int .i64 776, .int .i64 803, .int .i64 837, .int .i64 945] 3)) (B0 + 1) B0 (7680 + k) (.slice (some ⟨B0, 0, none⟩) 1 1) [a]) := Lib.hid ⟨HX8.out.1.alloc _, HX8.out.2.alloc _⟩
                have HND2 := Lib.hid (HNW.out (w8.alloc (.cells #[.int .i64 769, .int .i64 776, .int .i64 803, .int .i64 837, .int .i64 945] 3)).drew 5 HOA.out HSA.out (by omega) (by omega))
                obtain ⟨i0, hi, hz0, hz1, hz2⟩ := info_parts Tryd.infoInt'
                go_wp2
                go_region_law (first
                  | (go_simp; go_at_call 52; (with_reducible refine HND1.out.mono ?_); rintro e w9 ⟨q9, rfl, q90, q91, hs9, hg90⟩; have hg9 := undrew hg90; obtain ⟨j, rfl⟩ := Int.eq_ofNat_of_zero_le q90; obtain ⟨y, hy, hym⟩ := get_of (show j < fiveL.length by show j < 5; omega); have hx9 := HX8.out.grown hg9 (by omega) (by omega); have x9 := hx9.1.at_ (i := 1) rfl; have x9a := (hx9.1.alloc (.cells #[.int .i64 769, .int .i64 776, .int .i64 803, .int .i64 837, .int .i64 945] 3)).at_ (i := 1) rfl; have x9b := ((hx9.1.alloc (.cells #[.int .i64 769, .int .i64 776, .int .i64 803, .int .i64 837, .int .i64 945] 3)).alloc (.cells #[.int .i64 y] 3)).at_ (i := 1) rfl; have y9 : (w9.alloc (.cells #[.int .i64 769, .int .i64 776, .int .i64 803, .int .i64 837, .int .i64 945] 3)).cell? ⟨w9.heap.size, j, none⟩ = some (.int .i64 y) := (Blk.new w9 3 #[.int .i64 769, .int .i64 776, .int .i64 803, .int .i64 837, .int .i64 945]).at_ (five_at hy); have HX9 := Lib.hid (show XAt (w9.alloc (.cells #[.int .i64 769, .int .i64 776, .int .i64 803, .int .i64 837, .int .i64 945] 3)) (B0 + 1) B0 (7680 + k) (.slice (some ⟨B0, 0, none⟩) 1 1) [a] from ⟨hx9.1.alloc _, hx9.2.alloc _⟩); have HO9 := Lib.hid ((HO8.out.trans (onlyIn.of_grown hg9 (by simp))).far (World.grownBy_alloc w9 (.cells #[.int .i64 769, .int .i64 776, .int .i64 803, .int .i64 837, .int .i64 945] 3) none) (by simp)); have HS9 := Lib.hid (hs9.alloc (.cells #[.int .i64 769, .int .i64 776, .int .i64 803, .int .i64 837, .int .i64 945] 3)); have HYM := Lib.hid hym; have hz9 := Nat.lt_of_lt_of_le hz8 hg9.size; clear hx9 hs9 hg9 hg90 hy hym)
                  | (go_simp; go_at_call 52; (with_reducible refine HND2.out.mono ?_); rintro e w9 ⟨q9, rfl, q90, q91, hs9, hg90⟩; have hg9 := undrew hg90; obtain ⟨j, rfl⟩ := Int.eq_ofNat_of_zero_le q90; obtain ⟨y, hy, hym⟩ := get_of (show j < fiveL.length by show j < 5; omega); have hx9 := HXA.out.grown hg9 (by omega) (by omega); have x9 := hx9.1.at_ (i := 1) rfl; have x9b := (hx9.1.alloc (.cells #[.int .i64 y] 3)).at_ (i := 1) rfl; have y9 : w9.cell? ⟨w8.heap.size, j, none⟩ = some (.int .i64 y) := ((Blk.new w8 3 #[.int .i64 769, .int .i64 776, .int .i64 803, .int .i64 837, .int .i64 945]).grown hg9 (by simp; omega)).at_ (five_at hy); have HX9 := Lib.hid hx9; have HO9 := Lib.hid (HOA.out.trans (onlyIn.of_grown hg9 (by simp))); have HS9 := Lib.hid hs9; have HYM := Lib.hid hym; have hz9 := Nat.lt_of_lt_of_le hz8 (Nat.le_trans (by simp) hg9.size); clear hx9 hs9 hg9 hg90 hy hym)
                  | (refine step_app_blk rfl (.tmp 41) (.tmp 47) rfl Tryd.underlying24 hi (.int .i64 0) 1 8 hz0 hz1 hz2 rfl (by decide) (by decide) B0 (.slice (some ⟨B0, 0, none⟩) 1 1) 1 [.int .i64 a] (w9.heap.size + 1) #[.int .i64 y] rfl rfl (show World.ownsRow ((w9.alloc (.cells #[.int .i64 769, .int .i64 776, .int .i64 803, .int .i64 837, .int .i64 945] 3)).alloc (.cells #[.int .i64 y] 3)) B0 3 1 (.slice (some ⟨B0, 0, none⟩) 1 1) 1 [.int .i64 a] from HX9.out.2.alloc _) (show Blk ((w9.alloc (.cells #[.int .i64 769, .int .i64 776, .int .i64 803, .int .i64 837, .int .i64 945] 3)).alloc (.cells #[.int .i64 y] 3)) (w9.heap.size + 1) 3 #[.int .i64 y] from (by have h := Blk.new (w9.alloc (.cells #[.int .i64 769, .int .i64 776, .int .i64 803, .int .i64 837, .int .i64 945] 3)) 3 #[.int .i64 y]; simpa using h)) rfl (by simp [Value.oneCell']) (by decide) (by simp; omega) ?_; intro v10' w10 hown10 hg10 _ hsl; have hb10 := (HX9.out.1.alloc (.cells #[.int .i64 y] 3)).grown hg10 (by intro e; simp [Value.ownBlock] at e); have e10 := hb10.at_ (i := 1) rfl; have f10 := hb10.free 1; have HB10 := Lib.hid hb10; have HOW10 := Lib.hid (show w10.ownsRow B0 3 1 v10' [a, y].length ([a, y].map (Value.int .i64)) from hown10); have HO10 := Lib.hid ((HO9.out.far (World.grownBy_alloc (w9.alloc (.cells #[.int .i64 769, .int .i64 776, .int .i64 803, .int .i64 837, .int .i64 945] 3)) (.cells #[.int .i64 y] 3) none) (by simp)).far hg10 (by simp [Value.ownBlock]; have := HB0.out; omega)); have HS10 := Lib.hid ((HS9.out.alloc (.cells #[.int .i64 y] 3)).grown hg10 (by simp [Value.ownBlock]; omega)); have hz10 := Nat.lt_of_lt_of_le hz9 (Nat.le_trans (by simp; try omega) hg10.size); obtain ⟨A10, m10, c10', rfl⟩ := hsl; clear hb10 hown10 hg10)
                  | (refine step_app_blk rfl (.tmp 41) (.tmp 47) rfl Tryd.underlying24 hi (.int .i64 0) 1 8 hz0 hz1 hz2 rfl (by decide) (by decide) B0 (.slice (some ⟨B0, 0, none⟩) 1 1) 1 [.int .i64 a] (w9.heap.size) #[.int .i64 y] rfl rfl (show World.ownsRow (w9.alloc (.cells #[.int .i64 y] 3)) B0 3 1 (.slice (some ⟨B0, 0, none⟩) 1 1) 1 [.int .i64 a] from HX9.out.2.alloc _) (show Blk (w9.alloc (.cells #[.int .i64 y] 3)) (w9.heap.size) 3 #[.int .i64 y] from Blk.new w9 3 #[.int .i64 y]) rfl (by simp [Value.oneCell']) (by decide) (by simp; omega) ?_; intro v10' w10 hown10 hg10 _ hsl; have hb10 := (HX9.out.1.alloc (.cells #[.int .i64 y] 3)).grown hg10 (by intro e; simp [Value.ownBlock] at e); have e10 := hb10.at_ (i := 1) rfl; have f10 := hb10.free 1; have HB10 := Lib.hid hb10; have HOW10 := Lib.hid (show w10.ownsRow B0 3 1 v10' [a, y].length ([a, y].map (Value.int .i64)) from hown10); have HO10 := Lib.hid ((HO9.out.far (World.grownBy_alloc w9 (.cells #[.int .i64 y] 3) none) (by simp)).far hg10 (by simp [Value.ownBlock]; have := HB0.out; omega)); have HS10 := Lib.hid ((HS9.out.alloc (.cells #[.int .i64 y] 3)).grown hg10 (by simp [Value.ownBlock]; omega)); have hz10 := Nat.lt_of_lt_of_le hz9 (Nat.le_trans (by simp; try omega) hg10.size); obtain ⟨A10, m10, c10', rfl⟩ := hsl; clear hb10 hown10 hg10))
                all_goals go_wp2
                all_goals go_meet
                all_goals case rel =>
                  have hB0 := HB0.out
                  refine ⟨_, [a, y], Lib.hid (HO10.out.far (grown_setCell (grown_refl w10 (some (B0 + 1))) 1 _) ?_), Lib.hid (HS10.out.grown (grown_setCell (grown_refl w10 (some (B0 + 1))) 1 _) ?_), Lib.hid (XAt.put1 HB10.out HOW10.out), Lib.hid ⟨a, [y], rfl, ha, .inr ⟨y, rfl, ?_⟩⟩, ?_⟩
                  · intro x hx; simp at hx; omega
                  · simp; omega
                  · simpa [fiveL] using HYM.out
                  · simpa using hz10
              · have h8' : q8 ≤ 0 := by omega
                clear h8
                go_wp2
                go_meet
                case rel => exact ⟨_, _, HO8, HS8, HX8, Lib.hid ⟨a, [], rfl, ha, .inl rfl⟩, hz8⟩
            case rest =>
              obtain ⟨sv, l, HO9, HS9, HX9, HL, hz9⟩ := hcut
              clear HO7 HS7 HX7 hz7 HO8 HS8 HX8 hz8
              have hm9 := (HM2.out.om.restrict (S' := List.range w.heap.size) fun x hx => List.mem_append_left _ hx).mapps (by intro x hx; simp at hx; omega)
              obtain ⟨A9, c9, rfl, _⟩ := id hm9
              have hDk : D.length ≤ 4 := by omega
              clear hm9
              have hN9 := HNW.out wc 6 HO9.out HS9.out (by decide) (by decide)
              go_upto_block 2 with (go_at_call 52; refine hN9.mono ?_; rintro e w10 ⟨q10, rfl, q100, q101, hs10, hg10⟩; have HO10 := Lib.hid (HO9.out.trans (onlyIn.of_grown hg10 (by simp))); have HS10 := Lib.hid hs10; have HX10 := Lib.hid (HX9.out.grown hg10 (by omega) (by omega)); have hz10 := Nat.lt_of_lt_of_le hz9 hg10.size; have e9 := (HM2.out.only hgb hbw HO10.out hs10).blk.at_ (i := 9) rfl; clear hs10 hg10)
              clear e9
              go_cut [6] from 58 to 70 (fun s6 wx => ∃ t : Bool, s6 = .bool t ∧ Hid (t = false → ∀ d ∈ D, d.2 ≠ l) ∧ Hid (onlyIn [g] w2 wx) ∧ Hid (Src wx g v xs.length) ∧ Hid (XAt wx (B0 + 1) B0 (7680 + k) sv l) ∧ B0 + 1 < wx.heap.size)
              case first =>
                go_wp2_with fail
                go_loopg [6, 58] D.length (fun gj s6 iv wr => ∃ (j : Nat) (t : Bool), s6 = .bool t ∧ iv = .int .i64 j ∧ j + gj = D.length ∧ Hid (t = false → ∀ d ∈ D.take j, d.2 ≠ l) ∧ Hid (onlyIn [g] w2 wr) ∧ Hid (Src wr g v xs.length) ∧ Hid (XAt wr (B0 + 1) B0 (7680 + k) sv l) ∧ B0 + 1 < wr.heap.size)
                case atStart => exact ⟨0, _, rfl, rfl, by omega, Lib.hid (by simp), HO10, HS10, HX10, hz10⟩
                case round =>
                  obtain ⟨j, t, rfl, rfl, hj, HT, HOr, HSr, HXr, hzr⟩ := hrel
                  clear HO10 HS10 HX10 hz10 HO9 HS9 HX9 hz9
                  by_cases hjl : j < D.length
                  · obtain ⟨⟨dc, dl⟩, hd, hdm⟩ := get_el hjl
                    have hmr := ((HM2.out.only hgb hbw HOr.out HSr.out).om.restrict (S' := List.range w.heap.size) fun x hx => List.mem_append_left _ hx).mapps (by intro x hx; simp at hx; omega)
                    rw [veil_size] at hmr
                    obtain ⟨A9', c9', hv9, _, _, _, hcl⟩ := hmr.unveil
                    cases hv9
                    obtain ⟨aj, dsv, rfl, haj, d0, d1, hto⟩ := hcl j _ hd
                    obtain ⟨e0, e1⟩ := map_cells (Below.refl _ _) haj d0 d1
                    have hHD := Lib.hid hd
                    have HTO := Lib.hid hto
                    obtain ⟨A', c', rfl, _⟩ := id hto
                    clear hcl d0 d1 hto hmr hd hdm haj
                    have r0 : (0 : Int) ≤ (j : Int) := by omega
                    have r1 : (j : Int) < (D.length : Int) := by omega
                    have hx1 := HXr.out.1
                    have x1 := (hx1.alloc (.cells #[.int .i64 dc, .slice A' dl.length c'] 54)).at_ (i := 1) rfl
                    have HBA : Hid (Below wr.heap.size wr (wr.alloc (.cells #[.int .i64 dc, .slice A' dl.length c'] 54))) := Lib.hid ((Below.refl _ _).alloc (Nat.le_refl _) _)
                    have HXa := Lib.hid (HXr.out.below HBA.out)
                    have HC := Lib.hid (same_any (.slice A' dl.length c') sv dl l (wr.alloc (.cells #[.int .i64 dc, .slice A' dl.length c'] 54)) (HTO.out.later HBA.out) (Ints.of_own HXa.out.2))
                    clear hx1
                    cases t
                    · go_wp2_with (go_at_call 31; refine HC.out.mono ?_; rintro e w12 ⟨rfl, b12⟩; have HB12 := Lib.hid (below_next HBA.out b12); have hz12 := Nat.lt_of_lt_of_le hzr HB12.out.size; clear b12)
                      go_roundg (D.length - (j + 1))
                      case measure => omega
                      case rel =>
                        refine ⟨j + 1, _, rfl, by go_num, by omega, Lib.hid fun ht => take_ne hHD.out (HT.out (by simp)) (by simpa using ht), Lib.hid (HOr.out.trans (onlyIn.of_below HB12.out)), Lib.hid (HSr.out.below HB12.out), Lib.hid (HXr.out.below HB12.out), hz12⟩
                    · go_wp2
                      go_roundg (D.length - (j + 1))
                      case measure => omega
                      case rel =>
                        exact ⟨j + 1, true, rfl, by go_num, by omega, Lib.hid (by simp), Lib.hid (HOr.out.trans (onlyIn.of_below HBA.out)), Lib.hid (HSr.out.below HBA.out), HXa, Nat.lt_of_lt_of_le hzr HBA.out.size⟩
                  · have hjj : ¬ (j : Int) < (D.length : Int) := by omega
                    go_wp2
                    go_meet
                    case rel => exact ⟨t, rfl, Lib.hid fun ht d hd => HT.out ht d (by rw [List.take_of_length_le (by omega)]; exact hd), HOr, HSr, HXr, hzr⟩
              case rest =>
                obtain ⟨t, rfl, HT, HO11, HS11, HX11, hz11⟩ := hcut
                clear HO10 HS10 HX10 hz10 HO9 HS9 HX9 hz9
                have HM11 := Lib.hid (HM2.out.only hgb hbw HO11.out HS11.out)
                have hap : ∀ q, v10.ownBlock = some q → sv.ownBlock ≠ some q := fun q hq e => by
                  have h1 := (HM2.out.own10 q hq).2
                  have h2 := (HX11.out.2.lt q e).1
                  have h3 := HB0.out
                  omega
                have HAP := Lib.hid hap
                clear hap
                go_upto_if 71 with fail
                go_cut [] from 71 to 82 (fun wx => ∃ v10' X', Hid (DSt w g b xs.length v c0 c1 c2 c3 c4 c5 c6 c7 c8 c11 (.slice A9 D.length c9) v10' D X' wx) ∧ Hid (XAt wx (B0 + 1) B0 (7680 + k) sv l) ∧ Hid (∀ q, v10'.ownBlock = some q → sv.ownBlock ≠ some q) ∧ Hid (X' = if t then X ++ [7680 + (k : Int)] else X))
                case first =>
                  cases t
                  · go_wp2
                    go_meet
                    case rel => exact ⟨v10, X, HM11, HX11, HAP, Lib.hid (by simp)⟩
                  · have hb11 := HM11.out.blk
                    have e10 := hb11.at_ (i := 10) rfl
                    have e10a := (hb11.alloc (.cells #[.int .i64 (7680 + k)] 3)).at_ (i := 10) rfl
                    have hx11 := HX11.out.1
                    have x0 := hx11.at_ (i := 0) rfl
                    have HOX : Hid (onlyIn [] wc (wc.alloc (.cells #[.int .i64 (7680 + k)] 3)).drew) := Lib.hid (onlyIn.of_below ((Below.refl _ _).alloc (Nat.le_refl _) _).drew)
                    have HBA := Lib.hid (hb11.alloc (.cells #[.int .i64 (7680 + k)] 3))
                    have HKX : Hid (Blk (wc.alloc (.cells #[.int .i64 (7680 + k)] 3)).drew wc.heap.size 3 #[.int .i64 (7680 + k)]) := Lib.hid (Blk.new wc 3 #[.int .i64 (7680 + k)])
                    have HWX : Hid (World.ownsRow (wc.alloc (.cells #[.int .i64 (7680 + k)] 3)).drew w.heap.size 3 1 v10 X.length (X.map (Value.int .i64))) := Lib.hid (HM11.out.ox.alloc _)
                    have hszY : w.heap.size ≤ (wc.alloc (.cells #[.int .i64 (7680 + k)] 3)).drew.heap.size := by have h1 := HM11.out.oi.2.2.2.1; simp; omega
                    obtain ⟨i0, hi, hz0, hz1, hz2⟩ := info_parts Tryd.infoInt'
                    clear hb11 hx11 hdl
                    go_wp2
                    go_region_law (first
                      | (refine step_app_blk rfl (.tmp 76) (.tmp 79) rfl Tryd.underlying24 hi (.int .i64 0) 1 8 hz0 hz1 hz2 rfl (by decide) (by decide) w.heap.size v10 X.length (X.map (Value.int .i64)) wc.heap.size #[.int .i64 (7680 + k)] rfl rfl HWX.out HKX.out rfl (by simp [Value.oneCell']) (by omega) hszY ?_; intro v12 w12 hown12 hg12 hr12 hsl; have hb12 := (show Blk (wc.alloc (.cells #[.int .i64 (7680 + k)] 3)).drew b 26 #[c0, c1, c2, c3, c4, c5, c6, c7, c8, .slice A9 D.length c9, v10, c11] from HBA.out).grown hg12 (fun e => by have := (HM11.out.own10 b e.symm).1; omega); have e12 := hb12.at_ (i := 10) rfl; have f12 := hb12.free 10; have HW12 := Lib.hid hown12; have HG12 := Lib.hid hg12; have HR12 := Lib.hid hr12; obtain ⟨A12, m12, c12', rfl⟩ := hsl; clear hb12 hown12 hg12 hr12))
                    all_goals go_wp2
                    all_goals go_meet
                    all_goals case rel =>
                      have hB0 := HB0.out
                      have h10 := HM2.out.own10
                      refine ⟨_, X ++ [7680 + (k : Int)], Lib.hid (HM11.out.exclude hgb hbw HOX.out HG12.out HR12.out (by simpa using HW12.out)), Lib.hid (((HX11.out.below ((Below.refl _ _).alloc (Nat.le_refl _) _).drew).far HG12.out ?_ ?_).far (grown_setCell (grown_refl w12 (some b)) 10 _) ?_ ?_), Lib.hid ?_, Lib.hid (by simp)⟩
                      · intro e; have := (h10 _ e).2; omega
                      · intro q hq e; exact HAP.out q e hq
                      · simp; omega
                      · intro q hq e; have := (HX11.out.2.lt q hq).1; injection e; omega
                      · intro q hq e
                        rcases HR12.out q hq with e1 | e1
                        · exact HAP.out q e1 e
                        · have := (HX11.out.2.lt q e).2; simp at e1; omega
                case rest =>
                  obtain ⟨v10', X', HM12, HX12, HAP12, HXX⟩ := hcut
                  clear HM11 HX11 HO11 HS11 HAP
                  have hb12 := HM12.out.blk
                  have e9 := hb12.at_ (i := 9) rfl
                  have hx12 := HX12.out.1
                  have x0 := hx12.at_ (i := 0) rfl
                  have x1 := hx12.at_ (i := 1) rfl
                  have e9a := (hb12.alloc (.cells #[.int .i64 (7680 + k), sv] 54)).at_ (i := 9) rfl
                  have HBA := Lib.hid (hb12.alloc (.cells #[.int .i64 (7680 + k), sv] 54))
                  have HOX : Hid (onlyIn [] wc (wc.alloc (.cells #[.int .i64 (7680 + k), sv] 54)).drew) := Lib.hid (onlyIn.of_below ((Below.refl _ _).alloc (Nat.le_refl _) _).drew)
                  have HMX := Lib.hid (HM12.out.only hgb hbw (HOX.out.more (by simp)) (show Src (wc.alloc (.cells #[.int .i64 (7680 + k), sv] 54)).drew g v xs.length from HM12.out.src.alloc _))
                  have HIX : Hid (Ints (veil ((List.range w.heap.size ++ v10'.ownBlock.toList) ++ (Value.slice A9 D.length c9).ownBlock.toList) (wc.alloc (.cells #[.int .i64 (7680 + k), sv] 54)).drew) (wc.alloc (.cells #[.int .i64 (7680 + k), sv] 54)).drew.heap.size .i64 sv l) := by
                    refine Lib.hid (Ints.veil_own' (show World.ownsRow (wc.alloc (.cells #[.int .i64 (7680 + k), sv] 54)).drew B0 3 1 sv l.length (l.map (Value.int .i64)) from HX12.out.2.alloc _) fun q hq hx => ?_)
                    simp only [List.mem_append, Option.mem_toList] at hx
                    rcases hx with (hx | hx) | hx
                    · have := (HX12.out.2.lt q hq).1; have := HB0.out; have := HM2.out.oi.2.2.2.1; simp at hx; omega
                    · exact HAP12.out q hx hq
                    · obtain ⟨ps, _, _, ho, _⟩ := HM12.out.om
                      exact own_own ho HX12.out.2 (by decide) q hx hq
                  have HKX : Hid (Blk (wc.alloc (.cells #[.int .i64 (7680 + k), sv] 54)).drew wc.heap.size 54 #[.int .i64 (7680 + k), sv]) := Lib.hid (Blk.new wc 54 #[.int .i64 (7680 + k), sv])
                  have hszY : w.heap.size ≤ (wc.alloc (.cells #[.int .i64 (7680 + k), sv] 54)).drew.heap.size := by have h1 := HM12.out.oi.2.2.2.1; simp; omega
                  obtain ⟨i0, hi, hz0, hz1, hz2⟩ := info_parts Tryd.infoMap
                  clear hb12 hx12 hdl
                  go_wp2
                  go_region_law (first
                    | (refine step_app_map rfl (.tmp 87) (.tmp 89) rfl Tryd.underlying23 hi _ hz0 hz1 hz2 rfl (List.range w.heap.size ++ v10'.ownBlock.toList) w.heap.size (.slice A9 D.length c9) D wc.heap.size (7680 + k) sv l rfl rfl HMX.out.om HKX.out HIX.out (by omega) hszY ?_; intro v13 w13 hM13 hg13 hr13 hs13; have hb13 := (show Blk (wc.alloc (.cells #[.int .i64 (7680 + k), sv] 54)).drew b 26 #[c0, c1, c2, c3, c4, c5, c6, c7, c8, .slice A9 D.length c9, v10', c11] from HBA.out).grown hg13 (fun e => by have := (HM12.out.own9 b e.symm).1; omega); have e13 := hb13.at_ (i := 9) rfl; have f13 := hb13.free 9; have HM13 := Lib.hid hM13; have HG13 := Lib.hid hg13; obtain ⟨A13, m13, c13', rfl⟩ := hs13; clear hb13 hM13 hg13 hr13))
                  all_goals go_wp2
                  all_goals
                    go_roundg (4 - k)
                    case measure => omega
                    case rel =>
                      refine ⟨k + 1, _, v10', D ++ [(7680 + (k : Int), l)], X', by go_num, by omega, by simp; omega, ?_, Lib.hid (HM12.out.append hgb hbw HOX.out HG13.out HM13.out), Lib.hid ?_⟩
                      · rw [HXX.out]; cases t <;> simp <;> omega
                      · rw [HXX.out]; exact HN.out.add t HL.out HT.out
    · have hk5 : k = 5 := by omega
      subst hk5
      go_wp2
      go_end0
      refine ⟨v9, v10, D, X, rfl, HM.out.blk, ?_, ?_, HN.out, HM.out.src, HM.out.oi⟩
      · have h := (HM.out.om.restrict (S' := List.range w.heap.size) fun x hx => List.mem_append_left _ hx).mapps (by intro x hx; simp at hx; omega)
        rw [veil_size] at h
        exact h
      · have h := Ints.veil_own HM.out.ox (S := List.range w.heap.size) (by intro x hx; simp at hx; omega)
        rw [veil_size] at h
        exact h
end Go.Proofs.YtkdhldhbjomiaaaDoor
/-
  The walk through keep.Tables: what it makes is well-formed.
-/
namespace Go.Proofs.YtkdhldhbjomiaaaDoor
open Go.RowKit ND

/-- Well-formed tables come back. -/
def RetTables (w : World) (e : Ending) (w' : World) : Prop := ∃ (t : Tv) (T : Tab), e = .returned t.val ∧ TabR w' w'.heap.size t T ∧ Made T ∧ Below w.heap.size w w'

def noneT : Tv := ⟨.slice none 0 0, .slice none 0 0, .slice none 0 0, .slice none 0 0, .slice none 0 0, .slice none 0 0, .slice none 0 0, .slice none 0 0, .slice none 0 0, .slice none 0 0, .slice none 0 0, .slice none 0 0⟩

def emptyT : Tab := { category := [], cls := [], joining := [], bidi := [], script := [], status := [], ignorable := [], extensions := [], maps := [], decomps := [], excluded := [], prototypes := [] }

/-- What stands in the columns after k code points. -/
structure Cols (k : Nat) (t : Tv) (T : Tab) (st : List Int) : Prop where
  c0 : colN k 1 8 T.category
  c1 : colN k 1 254 T.cls
  c2 : colN k 1 5 T.joining
  c3 : colN k 1 11 T.bidi
  c4 : colN k 1 60 T.script
  c6 : colN k 1 1 T.ignorable
  len : st.length = k
  sts : ∀ y ∈ st, 0 ≤ y ∧ y ≤ 4 ∧ y ≠ 3
  rest : t.c5 = .slice none 0 0 ∧ t.c7 = .slice none 0 0 ∧ t.c8 = .slice none 0 0 ∧ t.c9 = .slice none 0 0 ∧ t.c10 = .slice none 0 0 ∧ t.c11 = .slice none 0 0
  empty : T.status = [] ∧ T.extensions = [] ∧ T.maps = [] ∧ T.decomps = [] ∧ T.excluded = [] ∧ T.prototypes = []

set_option maxRecDepth 100000 in
set_option maxHeartbeats 4000000 in
theorem keepTables_any (w0 : World) (v : Value) (xs : List Int) (hv : Ints w0 w0.heap.size .i64 v xs) : Calls Tryd.prog 13 #[v] w0 (RetTables w0) := by
  obtain ⟨A, c, rfl, _⟩ := id hv
  have HV := Lib.hid hv
  clear hv
  go_enter Tryd.func13, Tryd.ntmps13
  go_upto_region 3 with (go_at_call 51; refine (from_any _ _ _ _).mono ?_; rintro e w1 ⟨rfl, rfl⟩)
  have hbel : Below w0.heap.size w0 (((w0.alloc (.cells #[.slice none 0 0, .slice none 0 0, .slice none 0 0, .slice none 0 0, .slice none 0 0, .slice none 0 0, .slice none 0 0, .slice none 0 0, .slice none 0 0, .slice none 0 0, .slice none 0 0, .slice none 0 0] 26)).alloc (.cells #[.slice A xs.length c, .int .i64 0] 107)).alloc (.cells #[.slice none 0 0, .slice none 0 0, .slice none 0 0, .slice none 0 0, .slice none 0 0, .slice none 0 0, .slice none 0 0, .slice none 0 0, .slice none 0 0, .slice none 0 0, .slice none 0 0, .slice none 0 0] 26)) := (((Below.refl _ _).alloc (Nat.le_refl _) _).alloc (by simp) _).alloc (by simp; omega) _
  have hR : Blk (((w0.alloc (.cells #[.slice none 0 0, .slice none 0 0, .slice none 0 0, .slice none 0 0, .slice none 0 0, .slice none 0 0, .slice none 0 0, .slice none 0 0, .slice none 0 0, .slice none 0 0, .slice none 0 0, .slice none 0 0] 26)).alloc (.cells #[.slice A xs.length c, .int .i64 0] 107)).alloc (.cells #[.slice none 0 0, .slice none 0 0, .slice none 0 0, .slice none 0 0, .slice none 0 0, .slice none 0 0, .slice none 0 0, .slice none 0 0, .slice none 0 0, .slice none 0 0, .slice none 0 0, .slice none 0 0] 26)) w0.heap.size 26 #[.slice none 0 0, .slice none 0 0, .slice none 0 0, .slice none 0 0, .slice none 0 0, .slice none 0 0, .slice none 0 0, .slice none 0 0, .slice none 0 0, .slice none 0 0, .slice none 0 0, .slice none 0 0] := ((Blk.new w0 26 _).alloc _).alloc _
  have hS : Src (((w0.alloc (.cells #[.slice none 0 0, .slice none 0 0, .slice none 0 0, .slice none 0 0, .slice none 0 0, .slice none 0 0, .slice none 0 0, .slice none 0 0, .slice none 0 0, .slice none 0 0, .slice none 0 0, .slice none 0 0] 26)).alloc (.cells #[.slice A xs.length c, .int .i64 0] 107)).alloc (.cells #[.slice none 0 0, .slice none 0 0, .slice none 0 0, .slice none 0 0, .slice none 0 0, .slice none 0 0, .slice none 0 0, .slice none 0 0, .slice none 0 0, .slice none 0 0, .slice none 0 0, .slice none 0 0] 26)) (w0.heap.size + 1) (.slice A xs.length c) xs.length := ⟨0, Nat.zero_le _, by have h := (Blk.new (w0.alloc (.cells #[.slice none 0 0, .slice none 0 0, .slice none 0 0, .slice none 0 0, .slice none 0 0, .slice none 0 0, .slice none 0 0, .slice none 0 0, .slice none 0 0, .slice none 0 0, .slice none 0 0, .slice none 0 0] 26)) 107 #[.slice A xs.length c, .int .i64 0]).alloc (.cells #[.slice none 0 0, .slice none 0 0, .slice none 0 0, .slice none 0 0, .slice none 0 0, .slice none 0 0, .slice none 0 0, .slice none 0 0, .slice none 0 0, .slice none 0 0, .slice none 0 0, .slice none 0 0] 26); simpa using h⟩
  have hB : Blk (((w0.alloc (.cells #[.slice none 0 0, .slice none 0 0, .slice none 0 0, .slice none 0 0, .slice none 0 0, .slice none 0 0, .slice none 0 0, .slice none 0 0, .slice none 0 0, .slice none 0 0, .slice none 0 0, .slice none 0 0] 26)).alloc (.cells #[.slice A xs.length c, .int .i64 0] 107)).alloc (.cells #[.slice none 0 0, .slice none 0 0, .slice none 0 0, .slice none 0 0, .slice none 0 0, .slice none 0 0, .slice none 0 0, .slice none 0 0, .slice none 0 0, .slice none 0 0, .slice none 0 0, .slice none 0 0] 26)) (w0.heap.size + 1 + 1) 26 #[.slice none 0 0, .slice none 0 0, .slice none 0 0, .slice none 0 0, .slice none 0 0, .slice none 0 0, .slice none 0 0, .slice none 0 0, .slice none 0 0, .slice none 0 0, .slice none 0 0, .slice none 0 0] := by have h := Blk.new ((w0.alloc (.cells #[.slice none 0 0, .slice none 0 0, .slice none 0 0, .slice none 0 0, .slice none 0 0, .slice none 0 0, .slice none 0 0, .slice none 0 0, .slice none 0 0, .slice none 0 0, .slice none 0 0, .slice none 0 0] 26)).alloc (.cells #[.slice A xs.length c, .int .i64 0] 107)) 26 #[.slice none 0 0, .slice none 0 0, .slice none 0 0, .slice none 0 0, .slice none 0 0, .slice none 0 0, .slice none 0 0, .slice none 0 0, .slice none 0 0, .slice none 0 0, .slice none 0 0, .slice none 0 0]; simpa using h
  have HBEL := Lib.hid hbel
  have HR := Lib.hid hR
  have HS := Lib.hid hS
  have HB := Lib.hid hB
  clear hbel hR hS hB
  generalize (((w0.alloc (.cells #[.slice none 0 0, .slice none 0 0, .slice none 0 0, .slice none 0 0, .slice none 0 0, .slice none 0 0, .slice none 0 0, .slice none 0 0, .slice none 0 0, .slice none 0 0, .slice none 0 0, .slice none 0 0] 26)).alloc (.cells #[.slice A xs.length c, .int .i64 0] 107)).alloc (.cells #[.slice none 0 0, .slice none 0 0, .slice none 0 0, .slice none 0 0, .slice none 0 0, .slice none 0 0, .slice none 0 0, .slice none 0 0, .slice none 0 0, .slice none 0 0, .slice none 0 0, .slice none 0 0] 26)) = W at *
  obtain ⟨g, hg⟩ : ∃ g, w0.heap.size + 1 = g := ⟨_, rfl⟩
  simp only [hg] at HS HB ⊢
  obtain ⟨b, hb⟩ : ∃ b, g + 1 = b := ⟨_, rfl⟩
  simp only [hb] at HB ⊢
  have hgw : w0.heap.size < g := by omega
  have hgb : g < b := by omega
  clear hg hb
  have HNX : Hid (∀ (X : World) (m : Int), Below g W X → Src X g (.slice A xs.length c) xs.length → 0 < m → m ≤ 1000000 → Calls Tryd.prog 52 #[.pointer (some ⟨g, 0, none⟩), .int .i64 m] X (RetNext X g (.slice A xs.length c) xs.length m)) :=
    Lib.hid fun X m h1 h2 h3 h4 => next_src X g _ xs m (((HV.out.below HBEL.out).more (by omega)).below h1) h2 h3 h4
  have hN0 := HNX.out W 3 (Below.refl _ _) HS.out (by decide) (by decide)
  go_wp2_with (first | (go_at_call 52; refine hN0.mono ?_; rintro e w2 ⟨q2, rfl, q20, q21, hs2, hg2⟩; have HS2 := Lib.hid hs2; have HG2 := Lib.hid hg2; clear hs2 hg2) | (go_at_call 53; refine (pool_any _).mono ?_; rintro e w3 ⟨rfl, rfl⟩))
  generalize (q2 == 0) = wild
  have hbW : b < W.heap.size := HB.out.lt
  have hbw : b < (w2.alloc (.cells (poolL.map (Value.int .i64)).toArray 3)).heap.size := by have := HG2.out.size; simp; omega
  have hI : KSt (w2.alloc (.cells (poolL.map (Value.int .i64)).toArray 3)) g b xs.length (.slice A xs.length c) noneT emptyT (.slice none 0 0) [] (w2.alloc (.cells (poolL.map (Value.int .i64)).toArray 3)) :=
    ⟨(HB.out.grown HG2.out (by intro e; injection e; omega)).alloc _, ⟨Spans.none_, Spans.none_, Spans.none_, Spans.none_, Spans.none_, Spans.none_, Spans.none_, Mapps.none_, Mapps.none_, Mapps.none_, Ints.none_, Mapps.none_⟩, World.ownsRow_nil _ _ _ _, HS2.out.alloc _, onlyIn.refl _ _⟩
  have hRb : Blk (w2.alloc (.cells (poolL.map (Value.int .i64)).toArray 3)) w0.heap.size 26 #[.slice none 0 0, .slice none 0 0, .slice none 0 0, .slice none 0 0, .slice none 0 0, .slice none 0 0, .slice none 0 0, .slice none 0 0, .slice none 0 0, .slice none 0 0, .slice none 0 0, .slice none 0 0] := (HR.out.grown HG2.out (by intro e; injection e; omega)).alloc _
  have hPb : Blk (w2.alloc (.cells (poolL.map (Value.int .i64)).toArray 3)) w2.heap.size 3 (poolL.map (Value.int .i64)).toArray := Blk.new _ _ _
  have hpb : b < w2.heap.size ∧ w2.heap.size < (w2.alloc (.cells (poolL.map (Value.int .i64)).toArray 3)).heap.size := ⟨by have := HG2.out.size; omega, by simp⟩
  have hbl : Below g W (w2.alloc (.cells (poolL.map (Value.int .i64)).toArray 3)) := (below_of_grown (Below.refl _ _) HG2.out (Nat.le_refl _) (by omega)).alloc (by have := HG2.out.size; omega) _
  have HI := Lib.hid hI
  have HRb := Lib.hid hRb
  have HPb := Lib.hid hPb
  have HBL := Lib.hid hbl
  have HC0 : Hid (Cols 0 noneT emptyT []) := Lib.hid ⟨colN_nil _ _ _, colN_nil _ _ _, colN_nil _ _ _, colN_nil _ _ _, colN_nil _ _ _, colN_nil _ _ _, rfl, by simp, ⟨rfl, rfl, rfl, rfl, rfl, rfl⟩, ⟨rfl, rfl, rfl, rfl, rfl, rfl⟩⟩
  clear hI hRb hPb hbl HR HB HS HS2 HG2 hN0
  generalize w2.alloc (.cells (poolL.map (Value.int .i64)).toArray 3) = Wb at *
  generalize w2.heap.size = pb at *
  obtain ⟨hpb1, hpb2⟩ := hpb
  have HNW : Hid (∀ (X : World) (m : Int), onlyIn [g, b] Wb X → Src X g (.slice A xs.length c) xs.length → 0 < m → m ≤ 1000000 → Calls Tryd.prog 52 #[.pointer (some ⟨g, 0, none⟩), .int .i64 m] X (RetNext X g (.slice A xs.length c) xs.length m)) :=
    Lib.hid fun X m h1 h2 h3 h4 => HNX.out X m (HBL.out.trans (h1.below (by intro x hx; simp at hx; omega) (by omega))) h2 h3 h4
  have HVW : Hid (∀ X, onlyIn [g, b] Wb X → Ints X g .i64 (.slice A xs.length c) xs) :=
    Lib.hid fun X h1 => (((HV.out.below HBEL.out).more (by omega)).below HBL.out).below (h1.below (by intro x hx; simp at hx; omega) (by omega))
  have HBB : Hid (∀ X, onlyIn [g, b] Wb X → Below w0.heap.size w0 X) :=
    Lib.hid fun X h1 => (HBEL.out.trans (HBL.out.mono (by omega))).trans (h1.below (by intro x hx; simp at hx; omega) (by omega))
  clear HNX HBL HBEL HV
  go_loopg [6, 21] 28 (fun gk sv iv wr => ∃ (k : Nat) (t : Tv) (T : Tab) (st : List Int), iv = .int .i64 k ∧ k + gk = 28 ∧ Hid (KSt Wb g b xs.length (.slice A xs.length c) t T sv st wr) ∧ Hid (Cols k t T st))
  case atStart => exact ⟨0, _, _, _, rfl, rfl, HI, HC0⟩
  case round =>
    obtain ⟨k, t, T, st, rfl, hk, HM, HC⟩ := hrel
    clear HI HC0
    by_cases hlt : k < 28
    · obtain ⟨cc, hc, _⟩ := get_of (show k < poolL.length from hlt)
      have d0 : wr.cell? ⟨pb, k, none⟩ = some (.int .i64 cc) := (HM.out.oi.blk HPb.out (by simp; omega)).at_ (by simp [hc])
      have HCC := Lib.hid hc
      have k1 : (k : Int) < 28 := by omega
      clear hc
      go_upto_if 27 with (go_at_call 54; refine (usual_any _ _).mono ?_; rintro e w4 ⟨u0, u1, u2, u3, u4, u5, rfl, hu0, hu1, hu2, hu3, hu4, hu5, hb4⟩; have HB4 := Lib.hid hb4; clear hb4)
      have hO4 : onlyIn [g] wr (w4.alloc (.cells #[.int .i64 u0, .int .i64 u1, .int .i64 u2, .int .i64 u3, .int .i64 u4, .int .i64 u5] 60)) := onlyIn.of_below (HB4.out.alloc HB4.out.size _)
      have hS4 : Src (w4.alloc (.cells #[.int .i64 u0, .int .i64 u1, .int .i64 u2, .int .i64 u3, .int .i64 u4, .int .i64 u5] 60)) g (.slice A xs.length c) xs.length := HM.out.src.below (HB4.out.alloc HB4.out.size _)
      have hU4 : Blk (w4.alloc (.cells #[.int .i64 u0, .int .i64 u1, .int .i64 u2, .int .i64 u3, .int .i64 u4, .int .i64 u5] 60)) w4.heap.size 60 #[.int .i64 u0, .int .i64 u1, .int .i64 u2, .int .i64 u3, .int .i64 u4, .int .i64 u5] := Blk.new _ _ _
      have hub : wr.heap.size ≤ w4.heap.size := HB4.out.size
      have hbr : b < wr.heap.size := by have := HM.out.oi.2.2.2.1; omega
      have HO4 := Lib.hid hO4
      have HS4 := Lib.hid hS4
      have HU4 := Lib.hid hU4
      clear hO4 hS4 hU4 HB4 d0
      generalize w4.alloc (.cells #[.int .i64 u0, .int .i64 u1, .int .i64 u2, .int .i64 u3, .int .i64 u4, .int .i64 u5] 60) = W4 at *
      generalize w4.heap.size = ub at *
      go_cut [] from 27 to 63 (fun wx => ∃ u0 u1 u2 u3 u4 u5 : Int, (0 ≤ u0 ∧ u0 ≤ 8) ∧ (0 ≤ u1 ∧ u1 ≤ 254) ∧ (0 ≤ u2 ∧ u2 ≤ 5) ∧ (0 ≤ u3 ∧ u3 ≤ 11) ∧ (0 ≤ u4 ∧ u4 ≤ 60) ∧ (0 ≤ u5 ∧ u5 ≤ 4 ∧ u5 ≠ 3) ∧ Hid (onlyIn [g] wr wx) ∧ Hid (Src wx g (.slice A xs.length c) xs.length) ∧ Hid (Blk wx ub 60 #[.int .i64 u0, .int .i64 u1, .int .i64 u2, .int .i64 u3, .int .i64 u4, .int .i64 u5]))
      case first =>
        cases wild
        · go_wp2
          go_meet
          case rel => exact ⟨u0, u1, u2, u3, u4, u5, hu0, hu1, hu2, hu3, hu4, by omega, HO4, HS4, HU4⟩
        · clear k1
          have hu := HU4.out.at_ (i := 0) rfl
          have HK : Hid (Calls Tryd.prog 55 #[.pointer (some ⟨g, 0, none⟩), .slice (some ⟨W4.heap.size, 0, none⟩) 3 3] (W4.alloc (.cells #[.int .i64 u0, .int .i64 2, .int .i64 1] 3)) (RetChoose (W4.alloc (.cells #[.int .i64 u0, .int .i64 2, .int .i64 1] 3)) g (.slice A xs.length c) xs.length [u0, 2, 1])) :=
            Lib.hid (choose_any _ g _ xs (HVW.out _ ((HM.out.oi.trans (HO4.out.more (by simp))).trans (onlyIn.of_below ((Below.refl _ _).alloc (Nat.le_refl _) _)))) (HS4.out.alloc _) [u0, 2, 1] ⟨W4.heap.size, 0, none⟩ 3 (fun j y hy => (Ints.of_own (own_new W4 3 [u0, 2, 1] (by simp)) |> fun h => by obtain ⟨_, _, hv, _, _, _, h4⟩ := h; cases hv; obtain ⟨_, e, _, hc⟩ := h4 j y hy; cases e; exact hc)) (by have := HO4.out.2.2.2.1; simp; omega) (by simp) (by simp))
          go_upto_region 12 with (go_at_call 55; refine HK.out.mono ?_; rintro e x4 ⟨r0, rfl, hr0, hs, hg⟩; have hU := (HU4.out.alloc (.cells #[.int .i64 u0, .int .i64 2, .int .i64 1] 3)).grown hg (by intro e; injection e; omega); have hS := Lib.hid hs; have hO := Lib.hid ((HO4.out.trans (onlyIn.of_below ((Below.refl _ _).alloc (Nat.le_refl _) _))).trans (onlyIn.of_grown hg (by simp))); have eu := hU.at_ (i := 0) rfl; have fu := hU.free 0; have HU := Lib.hid hU; clear hs hg hU)
          have HU5 : Hid (Blk (x4.setCell ⟨ub, 0, none⟩ (.int .i64 r0)) ub 60 #[.int .i64 r0, .int .i64 u1, .int .i64 u2, .int .i64 u3, .int .i64 u4, .int .i64 u5]) := Lib.hid (by simpa using HU.out.put 0 (.int .i64 r0))
          have HO5 : Hid (onlyIn [g] wr (x4.setCell ⟨ub, 0, none⟩ (.int .i64 r0))) := Lib.hid (hO.out.far (grown_setCell (grown_refl x4 (some ub)) 0 _) (by intro x hx; injection hx; omega))
          have HS5 : Hid (Src (x4.setCell ⟨ub, 0, none⟩ (.int .i64 r0)) g (.slice A xs.length c) xs.length) := Lib.hid (hS.out.grown (grown_setCell (grown_refl x4 (some ub)) 0 _) (by intro e; injection e; omega))
          clear hu HK hS hO eu fu HU HU4 HO4 HS4
          generalize x4.setCell ⟨ub, 0, none⟩ (.int .i64 r0) = W5 at *
          have hu := HU5.out.at_ (i := 1) rfl
          have HK : Hid (Calls Tryd.prog 55 #[.pointer (some ⟨g, 0, none⟩), .slice (some ⟨W5.heap.size, 0, none⟩) 8 8] (W5.alloc (.cells #[.int .i64 u1, .int .i64 0, .int .i64 1, .int .i64 9, .int .i64 202, .int .i64 220, .int .i64 230, .int .i64 254] 3)) (RetChoose (W5.alloc (.cells #[.int .i64 u1, .int .i64 0, .int .i64 1, .int .i64 9, .int .i64 202, .int .i64 220, .int .i64 230, .int .i64 254] 3)) g (.slice A xs.length c) xs.length [u1, 0, 1, 9, 202, 220, 230, 254])) :=
            Lib.hid (choose_any _ g _ xs (HVW.out _ ((HM.out.oi.trans (HO5.out.more (by simp))).trans (onlyIn.of_below ((Below.refl _ _).alloc (Nat.le_refl _) _)))) (HS5.out.alloc _) [u1, 0, 1, 9, 202, 220, 230, 254] ⟨W5.heap.size, 0, none⟩ 8 (fun j y hy => (Ints.of_own (own_new W5 3 [u1, 0, 1, 9, 202, 220, 230, 254] (by simp)) |> fun h => by obtain ⟨_, _, hv, _, _, _, h4⟩ := h; cases hv; obtain ⟨_, e, _, hc⟩ := h4 j y hy; cases e; exact hc)) (by have := HO5.out.2.2.2.1; simp; omega) (by simp) (by simp))
          go_upto_region 13 with (go_at_call 55; refine HK.out.mono ?_; rintro e x5 ⟨r1, rfl, hr1, hs, hg⟩; have hU := (HU5.out.alloc (.cells #[.int .i64 u1, .int .i64 0, .int .i64 1, .int .i64 9, .int .i64 202, .int .i64 220, .int .i64 230, .int .i64 254] 3)).grown hg (by intro e; injection e; omega); have hS := Lib.hid hs; have hO := Lib.hid ((HO5.out.trans (onlyIn.of_below ((Below.refl _ _).alloc (Nat.le_refl _) _))).trans (onlyIn.of_grown hg (by simp))); have eu := hU.at_ (i := 1) rfl; have fu := hU.free 1; have HU := Lib.hid hU; clear hs hg hU)
          have HU6 : Hid (Blk (x5.setCell ⟨ub, 1, none⟩ (.int .i64 r1)) ub 60 #[.int .i64 r0, .int .i64 r1, .int .i64 u2, .int .i64 u3, .int .i64 u4, .int .i64 u5]) := Lib.hid (by simpa using HU.out.put 1 (.int .i64 r1))
          have HO6 : Hid (onlyIn [g] wr (x5.setCell ⟨ub, 1, none⟩ (.int .i64 r1))) := Lib.hid (hO.out.far (grown_setCell (grown_refl x5 (some ub)) 1 _) (by intro x hx; injection hx; omega))
          have HS6 : Hid (Src (x5.setCell ⟨ub, 1, none⟩ (.int .i64 r1)) g (.slice A xs.length c) xs.length) := Lib.hid (hS.out.grown (grown_setCell (grown_refl x5 (some ub)) 1 _) (by intro e; injection e; omega))
          clear hu HK hS hO eu fu HU HU5 HO5 HS5
          generalize x5.setCell ⟨ub, 1, none⟩ (.int .i64 r1) = W6 at *
          have hu := HU6.out.at_ (i := 2) rfl
          have HK : Hid (Calls Tryd.prog 55 #[.pointer (some ⟨g, 0, none⟩), .slice (some ⟨W6.heap.size, 0, none⟩) 7 7] (W6.alloc (.cells #[.int .i64 u2, .int .i64 0, .int .i64 1, .int .i64 2, .int .i64 3, .int .i64 4, .int .i64 5] 3)) (RetChoose (W6.alloc (.cells #[.int .i64 u2, .int .i64 0, .int .i64 1, .int .i64 2, .int .i64 3, .int .i64 4, .int .i64 5] 3)) g (.slice A xs.length c) xs.length [u2, 0, 1, 2, 3, 4, 5])) :=
            Lib.hid (choose_any _ g _ xs (HVW.out _ ((HM.out.oi.trans (HO6.out.more (by simp))).trans (onlyIn.of_below ((Below.refl _ _).alloc (Nat.le_refl _) _)))) (HS6.out.alloc _) [u2, 0, 1, 2, 3, 4, 5] ⟨W6.heap.size, 0, none⟩ 7 (fun j y hy => (Ints.of_own (own_new W6 3 [u2, 0, 1, 2, 3, 4, 5] (by simp)) |> fun h => by obtain ⟨_, _, hv, _, _, _, h4⟩ := h; cases hv; obtain ⟨_, e, _, hc⟩ := h4 j y hy; cases e; exact hc)) (by have := HO6.out.2.2.2.1; simp; omega) (by simp) (by simp))
          go_upto_region 14 with (go_at_call 55; refine HK.out.mono ?_; rintro e x6 ⟨r2, rfl, hr2, hs, hg⟩; have hU := (HU6.out.alloc (.cells #[.int .i64 u2, .int .i64 0, .int .i64 1, .int .i64 2, .int .i64 3, .int .i64 4, .int .i64 5] 3)).grown hg (by intro e; injection e; omega); have hS := Lib.hid hs; have hO := Lib.hid ((HO6.out.trans (onlyIn.of_below ((Below.refl _ _).alloc (Nat.le_refl _) _))).trans (onlyIn.of_grown hg (by simp))); have eu := hU.at_ (i := 2) rfl; have fu := hU.free 2; have HU := Lib.hid hU; clear hs hg hU)
          have HU7 : Hid (Blk (x6.setCell ⟨ub, 2, none⟩ (.int .i64 r2)) ub 60 #[.int .i64 r0, .int .i64 r1, .int .i64 r2, .int .i64 u3, .int .i64 u4, .int .i64 u5]) := Lib.hid (by simpa using HU.out.put 2 (.int .i64 r2))
          have HO7 : Hid (onlyIn [g] wr (x6.setCell ⟨ub, 2, none⟩ (.int .i64 r2))) := Lib.hid (hO.out.far (grown_setCell (grown_refl x6 (some ub)) 2 _) (by intro x hx; injection hx; omega))
          have HS7 : Hid (Src (x6.setCell ⟨ub, 2, none⟩ (.int .i64 r2)) g (.slice A xs.length c) xs.length) := Lib.hid (hS.out.grown (grown_setCell (grown_refl x6 (some ub)) 2 _) (by intro e; injection e; omega))
          clear hu HK hS hO eu fu HU HU6 HO6 HS6
          generalize x6.setCell ⟨ub, 2, none⟩ (.int .i64 r2) = W7 at *
          have hu := HU7.out.at_ (i := 3) rfl
          have HK : Hid (Calls Tryd.prog 55 #[.pointer (some ⟨g, 0, none⟩), .slice (some ⟨W7.heap.size, 0, none⟩) 9 9] (W7.alloc (.cells #[.int .i64 u3, .int .i64 0, .int .i64 1, .int .i64 2, .int .i64 3, .int .i64 4, .int .i64 8, .int .i64 10, .int .i64 11] 3)) (RetChoose (W7.alloc (.cells #[.int .i64 u3, .int .i64 0, .int .i64 1, .int .i64 2, .int .i64 3, .int .i64 4, .int .i64 8, .int .i64 10, .int .i64 11] 3)) g (.slice A xs.length c) xs.length [u3, 0, 1, 2, 3, 4, 8, 10, 11])) :=
            Lib.hid (choose_any _ g _ xs (HVW.out _ ((HM.out.oi.trans (HO7.out.more (by simp))).trans (onlyIn.of_below ((Below.refl _ _).alloc (Nat.le_refl _) _)))) (HS7.out.alloc _) [u3, 0, 1, 2, 3, 4, 8, 10, 11] ⟨W7.heap.size, 0, none⟩ 9 (fun j y hy => (Ints.of_own (own_new W7 3 [u3, 0, 1, 2, 3, 4, 8, 10, 11] (by simp)) |> fun h => by obtain ⟨_, _, hv, _, _, _, h4⟩ := h; cases hv; obtain ⟨_, e, _, hc⟩ := h4 j y hy; cases e; exact hc)) (by have := HO7.out.2.2.2.1; simp; omega) (by simp) (by simp))
          go_upto_region 15 with (go_at_call 55; refine HK.out.mono ?_; rintro e x7 ⟨r3, rfl, hr3, hs, hg⟩; have hU := (HU7.out.alloc (.cells #[.int .i64 u3, .int .i64 0, .int .i64 1, .int .i64 2, .int .i64 3, .int .i64 4, .int .i64 8, .int .i64 10, .int .i64 11] 3)).grown hg (by intro e; injection e; omega); have hS := Lib.hid hs; have hO := Lib.hid ((HO7.out.trans (onlyIn.of_below ((Below.refl _ _).alloc (Nat.le_refl _) _))).trans (onlyIn.of_grown hg (by simp))); have eu := hU.at_ (i := 3) rfl; have fu := hU.free 3; have HU := Lib.hid hU; clear hs hg hU)
          have HU8 : Hid (Blk (x7.setCell ⟨ub, 3, none⟩ (.int .i64 r3)) ub 60 #[.int .i64 r0, .int .i64 r1, .int .i64 r2, .int .i64 r3, .int .i64 u4, .int .i64 u5]) := Lib.hid (by simpa using HU.out.put 3 (.int .i64 r3))
          have HO8 : Hid (onlyIn [g] wr (x7.setCell ⟨ub, 3, none⟩ (.int .i64 r3))) := Lib.hid (hO.out.far (grown_setCell (grown_refl x7 (some ub)) 3 _) (by intro x hx; injection hx; omega))
          have HS8 : Hid (Src (x7.setCell ⟨ub, 3, none⟩ (.int .i64 r3)) g (.slice A xs.length c) xs.length) := Lib.hid (hS.out.grown (grown_setCell (grown_refl x7 (some ub)) 3 _) (by intro e; injection e; omega))
          clear hu HK hS hO eu fu HU HU7 HO7 HS7
          generalize x7.setCell ⟨ub, 3, none⟩ (.int .i64 r3) = W8 at *
          have hu := HU8.out.at_ (i := 4) rfl
          have HK : Hid (Calls Tryd.prog 55 #[.pointer (some ⟨g, 0, none⟩), .slice (some ⟨W8.heap.size, 0, none⟩) 9 9] (W8.alloc (.cells #[.int .i64 u4, .int .i64 0, .int .i64 1, .int .i64 2, .int .i64 3, .int .i64 6, .int .i64 7, .int .i64 9, .int .i64 10] 3)) (RetChoose (W8.alloc (.cells #[.int .i64 u4, .int .i64 0, .int .i64 1, .int .i64 2, .int .i64 3, .int .i64 6, .int .i64 7, .int .i64 9, .int .i64 10] 3)) g (.slice A xs.length c) xs.length [u4, 0, 1, 2, 3, 6, 7, 9, 10])) :=
            Lib.hid (choose_any _ g _ xs (HVW.out _ ((HM.out.oi.trans (HO8.out.more (by simp))).trans (onlyIn.of_below ((Below.refl _ _).alloc (Nat.le_refl _) _)))) (HS8.out.alloc _) [u4, 0, 1, 2, 3, 6, 7, 9, 10] ⟨W8.heap.size, 0, none⟩ 9 (fun j y hy => (Ints.of_own (own_new W8 3 [u4, 0, 1, 2, 3, 6, 7, 9, 10] (by simp)) |> fun h => by obtain ⟨_, _, hv, _, _, _, h4⟩ := h; cases hv; obtain ⟨_, e, _, hc⟩ := h4 j y hy; cases e; exact hc)) (by have := HO8.out.2.2.2.1; simp; omega) (by simp) (by simp))
          go_upto_region 16 with (go_at_call 55; refine HK.out.mono ?_; rintro e x8 ⟨r4, rfl, hr4, hs, hg⟩; have hU := (HU8.out.alloc (.cells #[.int .i64 u4, .int .i64 0, .int .i64 1, .int .i64 2, .int .i64 3, .int .i64 6, .int .i64 7, .int .i64 9, .int .i64 10] 3)).grown hg (by intro e; injection e; omega); have hS := Lib.hid hs; have hO := Lib.hid ((HO8.out.trans (onlyIn.of_below ((Below.refl _ _).alloc (Nat.le_refl _) _))).trans (onlyIn.of_grown hg (by simp))); have eu := hU.at_ (i := 4) rfl; have fu := hU.free 4; have HU := Lib.hid hU; clear hs hg hU)
          have HU9 : Hid (Blk (x8.setCell ⟨ub, 4, none⟩ (.int .i64 r4)) ub 60 #[.int .i64 r0, .int .i64 r1, .int .i64 r2, .int .i64 r3, .int .i64 r4, .int .i64 u5]) := Lib.hid (by simpa using HU.out.put 4 (.int .i64 r4))
          have HO9 : Hid (onlyIn [g] wr (x8.setCell ⟨ub, 4, none⟩ (.int .i64 r4))) := Lib.hid (hO.out.far (grown_setCell (grown_refl x8 (some ub)) 4 _) (by intro x hx; injection hx; omega))
          have HS9 : Hid (Src (x8.setCell ⟨ub, 4, none⟩ (.int .i64 r4)) g (.slice A xs.length c) xs.length) := Lib.hid (hS.out.grown (grown_setCell (grown_refl x8 (some ub)) 4 _) (by intro e; injection e; omega))
          clear hu HK hS hO eu fu HU HU8 HO8 HS8
          generalize x8.setCell ⟨ub, 4, none⟩ (.int .i64 r4) = W9 at *
          have hu := HU9.out.at_ (i := 5) rfl
          have HK : Hid (Calls Tryd.prog 55 #[.pointer (some ⟨g, 0, none⟩), .slice (some ⟨W9.heap.size, 0, none⟩) 5 5] (W9.alloc (.cells #[.int .i64 u5, .int .i64 0, .int .i64 1, .int .i64 2, .int .i64 4] 3)) (RetChoose (W9.alloc (.cells #[.int .i64 u5, .int .i64 0, .int .i64 1, .int .i64 2, .int .i64 4] 3)) g (.slice A xs.length c) xs.length [u5, 0, 1, 2, 4])) :=
            Lib.hid (choose_any _ g _ xs (HVW.out _ ((HM.out.oi.trans (HO9.out.more (by simp))).trans (onlyIn.of_below ((Below.refl _ _).alloc (Nat.le_refl _) _)))) (HS9.out.alloc _) [u5, 0, 1, 2, 4] ⟨W9.heap.size, 0, none⟩ 5 (fun j y hy => (Ints.of_own (own_new W9 3 [u5, 0, 1, 2, 4] (by simp)) |> fun h => by obtain ⟨_, _, hv, _, _, _, h4⟩ := h; cases hv; obtain ⟨_, e, _, hc⟩ := h4 j y hy; cases e; exact hc)) (by have := HO9.out.2.2.2.1; simp; omega) (by simp) (by simp))
          go_wp2_with (go_at_call 55; refine HK.out.mono ?_; rintro e x9 ⟨r5, rfl, hr5, hs, hg⟩; have hU := (HU9.out.alloc (.cells #[.int .i64 u5, .int .i64 0, .int .i64 1, .int .i64 2, .int .i64 4] 3)).grown hg (by intro e; injection e; omega); have hS := Lib.hid hs; have hO := Lib.hid ((HO9.out.trans (onlyIn.of_below ((Below.refl _ _).alloc (Nat.le_refl _) _))).trans (onlyIn.of_grown hg (by simp))); have eu := hU.at_ (i := 5) rfl; have fu := hU.free 5; have HU := Lib.hid hU; clear hs hg hU)
          have HU10 : Hid (Blk (x9.setCell ⟨ub, 5, none⟩ (.int .i64 r5)) ub 60 #[.int .i64 r0, .int .i64 r1, .int .i64 r2, .int .i64 r3, .int .i64 r4, .int .i64 r5]) := Lib.hid (by simpa using HU.out.put 5 (.int .i64 r5))
          have HO10 : Hid (onlyIn [g] wr (x9.setCell ⟨ub, 5, none⟩ (.int .i64 r5))) := Lib.hid (hO.out.far (grown_setCell (grown_refl x9 (some ub)) 5 _) (by intro x hx; injection hx; omega))
          have HS10 : Hid (Src (x9.setCell ⟨ub, 5, none⟩ (.int .i64 r5)) g (.slice A xs.length c) xs.length) := Lib.hid (hS.out.grown (grown_setCell (grown_refl x9 (some ub)) 5 _) (by intro e; injection e; omega))
          clear hu HK hS hO eu fu HU HU9 HO9 HS9
          generalize x9.setCell ⟨ub, 5, none⟩ (.int .i64 r5) = W10 at *
          go_meet
          case rel =>
            exact ⟨r0, r1, r2, r3, r4, r5, (by have h := hr0; simp only [List.mem_cons, List.not_mem_nil, or_false] at h; clear hr0 hr1 hr2 hr3 hr4 hr5; omega), (by have h := hr1; simp only [List.mem_cons, List.not_mem_nil, or_false] at h; clear hr0 hr1 hr2 hr3 hr4 hr5; omega), (by have h := hr2; simp only [List.mem_cons, List.not_mem_nil, or_false] at h; clear hr0 hr1 hr2 hr3 hr4 hr5; omega), (by have h := hr3; simp only [List.mem_cons, List.not_mem_nil, or_false] at h; clear hr0 hr1 hr2 hr3 hr4 hr5; omega), (by have h := hr4; simp only [List.mem_cons, List.not_mem_nil, or_false] at h; clear hr0 hr1 hr2 hr3 hr4 hr5; omega), (by have h := hr5; simp only [List.mem_cons, List.not_mem_nil, or_false] at h; clear hr0 hr1 hr2 hr3 hr4 hr5; omega), HO10, HS10, HU10⟩
      case rest =>
        obtain ⟨u0, u1, u2, u3, u4, u5, bu0, bu1, bu2, bu3, bu4, bu5, HO5, HS5, HU5⟩ := hcut
        clear HO4 HS4 HU4 hu0 hu1 hu2 hu3 hu4 hu5
        have HK5 := Lib.hid (HM.out.only hgb hbw HO5.out HS5.out)
        go_upto_region 18 with fail
        have hK6 := HK5.out.only hgb hbw (onlyIn.of_below ((Below.refl _ _).alloc (Nat.le_refl _) (.cells #[.int .i64 cc, .int .i64 cc, .int .i64 0] 64))) (HK5.out.src.alloc _)
        have hU6 := HU5.out.alloc (.cells #[.int .i64 cc, .int .i64 cc, .int .i64 0] 64)
        have hX6 := Blk.new wc 64 #[.int .i64 cc, .int .i64 cc, .int .i64 0]
        have hxb : b < wc.heap.size ∧ b < ub := ⟨by have := HO5.out.2.2.2.1; omega, by omega⟩
        have HK0 := Lib.hid hK6
        have HU0 := Lib.hid hU6
        have HX0 := Lib.hid hX6
        clear hK6 hU6 hX6 HU5 HO5 HS5 HK5 HM
        generalize wc.alloc (.cells #[.int .i64 cc, .int .i64 cc, .int .i64 0] 64) = Y0 at *
        generalize wc.heap.size = xb at *
        obtain ⟨hxb1, hxb2⟩ := hxb
        have hl0 : T.category.length ≤ 1000000 := by have := colN_len HC.out.c0; omega
        have hl1 : T.cls.length ≤ 1000000 := by have := colN_len HC.out.c1; omega
        have hl2 : T.joining.length ≤ 1000000 := by have := colN_len HC.out.c2; omega
        have hl3 : T.bidi.length ≤ 1000000 := by have := colN_len HC.out.c3; omega
        have hl4 : T.script.length ≤ 1000000 := by have := colN_len HC.out.c4; omega
        have hl6 : T.ignorable.length ≤ 1000000 := by have := colN_len HC.out.c6; omega
        have x0 := HX0.out.at_ (i := 0) rfl
        have x1 := HX0.out.at_ (i := 1) rfl
        have x2 := HX0.out.at_ (i := 2) rfl
        have eu := HU0.out.at_ (i := 0) rfl
        have HA : Hid (Calls Tryd.prog 56 #[.pointer (some ⟨b, 0, none⟩), .agg #[.int .i64 cc, .int .i64 cc, .int .i64 0], .int .i64 u0] Y0 (RetAdd Y0 b 0 26 (Tv.cells t) t.c0 T.category cc cc u0)) :=
          Lib.hid (add_any Y0 b 0 26 (Tv.cells t) t.c0 T.category cc cc 0 u0 HK0.out.blk rfl HK0.out.tr.r0.unveil hl0)
        go_upto_region 19 with (go_at_call 56; refine HA.out.mono ?_; intro e Y1 hret; obtain ⟨v0, rfl, hk', hg'⟩ := HK0.out.add0 hgb hbw hret; have HK1 := Lib.hid hk'; have HU1 := Lib.hid (HU0.out.grown hg' (by intro e; injection e; omega)); have HX1 := Lib.hid (HX0.out.grown hg' (by intro e; injection e; omega)); clear hret hk' hg')
        clear x0 x1 x2 eu HA HK0 HU0 HX0
        have x0 := HX1.out.at_ (i := 0) rfl
        have x1 := HX1.out.at_ (i := 1) rfl
        have x2 := HX1.out.at_ (i := 2) rfl
        have eu := HU1.out.at_ (i := 1) rfl
        have HA : Hid (Calls Tryd.prog 56 #[.pointer (some ⟨b, 1, none⟩), .agg #[.int .i64 cc, .int .i64 cc, .int .i64 0], .int .i64 u1] Y1 (RetAdd Y1 b 1 26 (Tv.cells { t with c0 := v0 }) t.c1 T.cls cc cc u1)) :=
          Lib.hid (add_any Y1 b 1 26 (Tv.cells { t with c0 := v0 }) t.c1 T.cls cc cc 0 u1 HK1.out.blk rfl HK1.out.tr.r1.unveil hl1)
        go_upto_region 20 with (go_at_call 56; refine HA.out.mono ?_; intro e Y2 hret; obtain ⟨v1, rfl, hk', hg'⟩ := HK1.out.add1 hgb hbw hret; have HK2 := Lib.hid hk'; have HU2 := Lib.hid (HU1.out.grown hg' (by intro e; injection e; omega)); have HX2 := Lib.hid (HX1.out.grown hg' (by intro e; injection e; omega)); clear hret hk' hg')
        clear x0 x1 x2 eu HA HK1 HU1 HX1
        have x0 := HX2.out.at_ (i := 0) rfl
        have x1 := HX2.out.at_ (i := 1) rfl
        have x2 := HX2.out.at_ (i := 2) rfl
        have eu := HU2.out.at_ (i := 2) rfl
        have HA : Hid (Calls Tryd.prog 56 #[.pointer (some ⟨b, 2, none⟩), .agg #[.int .i64 cc, .int .i64 cc, .int .i64 0], .int .i64 u2] Y2 (RetAdd Y2 b 2 26 (Tv.cells { { t with c0 := v0 } with c1 := v1 }) t.c2 T.joining cc cc u2)) :=
          Lib.hid (add_any Y2 b 2 26 (Tv.cells { { t with c0 := v0 } with c1 := v1 }) t.c2 T.joining cc cc 0 u2 HK2.out.blk rfl HK2.out.tr.r2.unveil hl2)
        go_upto_region 21 with (go_at_call 56; refine HA.out.mono ?_; intro e Y3 hret; obtain ⟨v2, rfl, hk', hg'⟩ := HK2.out.add2 hgb hbw hret; have HK3 := Lib.hid hk'; have HU3 := Lib.hid (HU2.out.grown hg' (by intro e; injection e; omega)); have HX3 := Lib.hid (HX2.out.grown hg' (by intro e; injection e; omega)); clear hret hk' hg')
        clear x0 x1 x2 eu HA HK2 HU2 HX2
        have x0 := HX3.out.at_ (i := 0) rfl
        have x1 := HX3.out.at_ (i := 1) rfl
        have x2 := HX3.out.at_ (i := 2) rfl
        have eu := HU3.out.at_ (i := 3) rfl
        have HA : Hid (Calls Tryd.prog 56 #[.pointer (some ⟨b, 3, none⟩), .agg #[.int .i64 cc, .int .i64 cc, .int .i64 0], .int .i64 u3] Y3 (RetAdd Y3 b 3 26 (Tv.cells { { { t with c0 := v0 } with c1 := v1 } with c2 := v2 }) t.c3 T.bidi cc cc u3)) :=
          Lib.hid (add_any Y3 b 3 26 (Tv.cells { { { t with c0 := v0 } with c1 := v1 } with c2 := v2 }) t.c3 T.bidi cc cc 0 u3 HK3.out.blk rfl HK3.out.tr.r3.unveil hl3)
        go_upto_region 22 with (go_at_call 56; refine HA.out.mono ?_; intro e Y4 hret; obtain ⟨v3, rfl, hk', hg'⟩ := HK3.out.add3 hgb hbw hret; have HK4 := Lib.hid hk'; have HU4 := Lib.hid (HU3.out.grown hg' (by intro e; injection e; omega)); have HX4 := Lib.hid (HX3.out.grown hg' (by intro e; injection e; omega)); clear hret hk' hg')
        clear x0 x1 x2 eu HA HK3 HU3 HX3
        have x0 := HX4.out.at_ (i := 0) rfl
        have x1 := HX4.out.at_ (i := 1) rfl
        have x2 := HX4.out.at_ (i := 2) rfl
        have eu := HU4.out.at_ (i := 4) rfl
        have HA : Hid (Calls Tryd.prog 56 #[.pointer (some ⟨b, 4, none⟩), .agg #[.int .i64 cc, .int .i64 cc, .int .i64 0], .int .i64 u4] Y4 (RetAdd Y4 b 4 26 (Tv.cells { { { { t with c0 := v0 } with c1 := v1 } with c2 := v2 } with c3 := v3 }) t.c4 T.script cc cc u4)) :=
          Lib.hid (add_any Y4 b 4 26 (Tv.cells { { { { t with c0 := v0 } with c1 := v1 } with c2 := v2 } with c3 := v3 }) t.c4 T.script cc cc 0 u4 HK4.out.blk rfl HK4.out.tr.r4.unveil hl4)
        go_upto_region 23 with (go_at_call 56; refine HA.out.mono ?_; intro e Y5 hret; obtain ⟨v4, rfl, hk', hg'⟩ := HK4.out.add4 hgb hbw hret; have HK5 := Lib.hid hk'; have HU5 := Lib.hid (HU4.out.grown hg' (by intro e; injection e; omega)); have HX5 := Lib.hid (HX4.out.grown hg' (by intro e; injection e; omega)); clear hret hk' hg')
        clear x0 x1 x2 eu HA HK4 HU4 HX4
        go_cut [101] from 92 to 101 (fun s wx => ∃ e : Bool, s = .bool e ∧ Hid (KSt Wb g b xs.length (.slice A xs.length c) { { { { { t with c0 := v0 } with c1 := v1 } with c2 := v2 } with c3 := v3 } with c4 := v4 } { { { { { T with category := more T.category cc u0 } with cls := more T.cls cc u1 } with joining := more T.joining cc u2 } with bidi := more T.bidi cc u3 } with script := more T.script cc u4 } u6 st wx) ∧ Hid (Blk wx ub 60 #[.int .i64 u0, .int .i64 u1, .int .i64 u2, .int .i64 u3, .int .i64 u4, .int .i64 u5]) ∧ Hid (Blk wx xb 64 #[.int .i64 cc, .int .i64 cc, .int .i64 0]))
        case first =>
          have hN := HNW.out Y5 12 HK5.out.oi HK5.out.src (by decide) (by decide)
          by_cases h173 : cc = 173
          · have n1 : (cc == 173) = true := by simpa using h173
            clear h173
            go_wp2
            go_meet
            case rel => exact ⟨true, rfl, HK5, HU5, HX5⟩
          · have n1 : (cc == 173) = false := by simpa using h173
            clear h173
            cases wild
            · go_wp2
              go_meet
              case rel => exact ⟨false, rfl, HK5, HU5, HX5⟩
            · go_wp2_with (go_at_call 52; refine hN.mono ?_; rintro e Y6 ⟨q6, rfl, q60, q61, hs6, hg6⟩)
              go_meet
              case rel => exact ⟨_, rfl, Lib.hid (HK5.out.only hgb hbw (onlyIn.of_grown hg6 (by simp)) hs6), Lib.hid (HU5.out.grown hg6 (by intro e; injection e; omega)), Lib.hid (HX5.out.grown hg6 (by intro e; injection e; omega))⟩
        case rest =>
          obtain ⟨ig, rfl, HK6, HU6, HX6⟩ := hcut
          clear HK5 HU5 HX5
          go_upto_if 101 with fail
          go_cut [] from 101 to 104 (fun wx => ∃ v6 y, y ≤ 1 ∧ Hid (KSt Wb g b xs.length (.slice A xs.length c) { { { { { { t with c0 := v0 } with c1 := v1 } with c2 := v2 } with c3 := v3 } with c4 := v4 } with c6 := v6 } { { { { { { T with category := more T.category cc u0 } with cls := more T.cls cc u1 } with joining := more T.joining cc u2 } with bidi := more T.bidi cc u3 } with script := more T.script cc u4 } with ignorable := more T.ignorable cc y } u6 st wx) ∧ Hid (Blk wx ub 60 #[.int .i64 u0, .int .i64 u1, .int .i64 u2, .int .i64 u3, .int .i64 u4, .int .i64 u5]))
          case first =>
            cases ig
            · go_wp2
              go_meet
              case rel =>
                refine ⟨t.c6, 0, by omega, Lib.hid ?_, HU6⟩
                have h : more T.ignorable cc 0 = T.ignorable := by simp [more]
                rw [h]
                exact HK6.out
            · have x0 := HX6.out.at_ (i := 0) rfl
              have x1 := HX6.out.at_ (i := 1) rfl
              have x2 := HX6.out.at_ (i := 2) rfl
              have HA : Hid (Calls Tryd.prog 56 #[.pointer (some ⟨b, 6, none⟩), .agg #[.int .i64 cc, .int .i64 cc, .int .i64 0], .int .i64 1] wc (RetAdd wc b 6 26 (Tv.cells { { { { { t with c0 := v0 } with c1 := v1 } with c2 := v2 } with c3 := v3 } with c4 := v4 }) t.c6 T.ignorable cc cc 1)) :=
                Lib.hid (add_any wc b 6 26 (Tv.cells { { { { { t with c0 := v0 } with c1 := v1 } with c2 := v2 } with c3 := v3 } with c4 := v4 }) t.c6 T.ignorable cc cc 0 1 HK6.out.blk rfl HK6.out.tr.r6.unveil hl6)
              go_wp2_with (go_at_call 56; refine HA.out.mono ?_; intro e Y7 hret; obtain ⟨v6, rfl, hk', hg'⟩ := HK6.out.add6 hgb hbw hret; have HK7 := Lib.hid hk'; have HU7 := Lib.hid (HU6.out.grown hg' (by intro e; injection e; omega)); clear hret hk' hg')
              go_meet
              case rel => exact ⟨v6, 1, by omega, HK7, HU7⟩
          case rest =>
            obtain ⟨v6, y6, hy6, HK7, HU7⟩ := hcut
            clear HK6 HU6 HX6
            have eu := HU7.out.at_ (i := 5) rfl
            obtain ⟨i0, hi, hz0, hz1, hz2⟩ := info_parts Tryd.infoInt'
            have hst : st.length ≤ 28 := by have := HC.out.len; omega
            go_wp2_with (at_builtin; refine wpList_append_lies _ (by rfl) (.tmp 105) (.tmp 108) 24 (by rfl) Wb.heap.size 3 i0 (.int .i64 0) 1 8 Tryd.underlying24 hi hz0 hz1 hz2 rfl (by decide) u6 st.length (st.map (Value.int .i64)) (by rfl) (HK7.out.st.alloc _) ⟨wc.heap.size, 0, none⟩ 1 1 [.int .i64 u5] (by rfl) rfl (World.news_of_block (cs := #[.int .i64 u5]) (heap_alloc_new wc _)) (by simp [Value.oneCell']) (by decide) (by unfold maxLen; omega) (by omega) (by have := HK7.out.oi.2.2.2.1; simp; omega) (wc.heap.size + 1) (by simp) ?_; intro sg scap Y8 hown8 hg8 hl8 _; have HOW8 := Lib.hid hown8; have HG8 := Lib.hid hg8; have HL8 := Lib.hid hl8; clear hown8 hg8 hl8)
            go_roundg (27 - k)
            case measure => omega
            case rel =>
              refine ⟨k + 1, { { { { { { t with c0 := v0 } with c1 := v1 } with c2 := v2 } with c3 := v3 } with c4 := v4 } with c6 := v6 }, { { { { { { T with category := more T.category cc u0 } with cls := more T.cls cc u1 } with joining := more T.joining cc u2 } with bidi := more T.bidi cc u3 } with script := more T.script cc u4 } with ignorable := more T.ignorable cc y6 }, st ++ [u5], by go_num, by omega, Lib.hid (HK7.out.status (Y := wc.alloc (.cells #[.int .i64 u5] 3)) hgb hbw (onlyIn.of_below ((Below.refl _ _).alloc (Nat.le_refl _) _)) HG8.out ?_ (by simpa using HOW8.out)), Lib.hid ?_⟩
              · intro q hq
                simp only [Value.ownBlock, Option.some.injEq] at hq
                subst hq
                rcases HL8.out with e | e
                · exact .inl e
                · exact .inr (by simpa using e)
              · obtain ⟨h0, h1, h2, h3, h4, h6, hln, hss, hre, hem⟩ := HC.out
                refine ⟨colN_more h0 HCC.out (by omega), colN_more h1 HCC.out (by omega), colN_more h2 HCC.out (by omega), colN_more h3 HCC.out (by omega), colN_more h4 HCC.out (by omega), colN_more h6 HCC.out (by omega), by simp [hln], ?_, hre, hem⟩
                intro y hy
                rcases List.mem_append.1 hy with hy | hy
                · exact hss y hy
                · rw [List.mem_singleton] at hy; subst hy; omega
    · have hk28 : k = 28 := by omega
      subst hk28
      obtain ⟨t0, t1, t2, t3, t4, t5, t6, t7, t8, t9, t10, t11⟩ := t
      obtain ⟨T0, T1, T2, T3, T4, T5, T6, T7, T8, T9, T10, T11⟩ := T
      obtain ⟨h0, h1, h2, h3, h4, h6, hln, hss, hre, hem⟩ := HC.out
      simp only at h0 h1 h2 h3 h4 h6 hre hem
      obtain ⟨rfl, rfl, rfl, rfl, rfl, rfl⟩ := hre
      obtain ⟨rfl, rfl, rfl, rfl, rfl, rfl⟩ := hem
      obtain ⟨sb, cap, hu6, hsb, hrow⟩ : ∃ sb cap, u6 = .slice (some ⟨sb, 0, none⟩) 28 cap ∧ Wb.heap.size ≤ sb ∧ StRow wr sb 0 st := by
        have hst := HM.out.st
        rcases hst.2 with ⟨_, hn⟩ | ⟨q, cap, cur, rfl, hq, hgq, hnc, _, hcs, htk⟩
        · omega
        · refine ⟨q, cap, by rw [hln], hq, cur, hgq, fun j y _ hy => ?_⟩
          have h1 : (cur.toList.take (st.length * 1))[j]? = some (.int .i64 y) := by rw [htk, List.getElem?_map, hy]; rfl
          have hjl := (List.getElem?_eq_some_iff.1 hy).1
          rw [List.getElem?_take, if_pos (by omega)] at h1
          simpa using h1
      subst hu6
      have HROW := Lib.hid hrow
      have HSS := Lib.hid hss
      have HLN := Lib.hid hln
      have H0 := Lib.hid h0; have H1 := Lib.hid h1; have H2 := Lib.hid h2; have H3 := Lib.hid h3; have H4 := Lib.hid h4; have H6 := Lib.hid h6
      have HDC := Lib.hid (decomps_any wr g b (.slice A xs.length c) xs t0 t1 t2 t3 t4 (.slice none 0 0) t6 (.slice none 0 0) (.slice none 0 0) (.slice none 0 0) (HVW.out wr HM.out.oi) HM.out.src HM.out.blk hgb)
      clear hrow hss hln h0 h1 h2 h3 h4 h6 HC
      go_upto_region 28 with (go_at_call 57; refine HDC.out.mono ?_; rintro e wd ⟨v9, v10, D, X, rfl, hbd, hm9, hx10, hdn, hsd, hod⟩; have HBD := Lib.hid hbd; have HM9 := Lib.hid hm9; have HX10 := Lib.hid hx10; have HDN := Lib.hid hdn; have HSD := Lib.hid hsd; have HOD := Lib.hid hod; clear hbd hm9 hx10 hdn hsd hod)
      have hwr : Wb.heap.size ≤ wr.heap.size := HM.out.oi.2.2.2.1
      have hsbr : sb < wr.heap.size := (HM.out.st.lt sb rfl).2
      have hrd : StRow wd sb 0 st := by
        obtain ⟨cs, q1, q2⟩ := HROW.out
        exact ⟨cs, HOD.out.blk q1 (by simp; omega), q2⟩
      have hTD := (HM.out.tr.reveil (onlyIn_reveil HOD.out fun x hx => List.mem_append_left _ hx)).more HOD.out.2.2.2.1
      have HTD := Lib.hid hTD
      have HMP := Lib.hid (keepMaps_any wd g b sb (.slice A xs.length c) xs t0 t1 t2 t3 t4 t6 (.slice none 0 0) v9 v10 (.slice none 0 0) st cap (HVW.out wd (HM.out.oi.trans HOD.out)) HSD.out HBD.out hgb (by omega) hrd HSS.out HLN.out)
      clear hrd hTD HDC
      go_upto_region 29 with (go_at_call 58; refine HMP.out.mono ?_; rintro e wm ⟨v5, v8, Sx, M, rfl, hbm, hs5, hm8, hmn, hsm, hom⟩; have HBM := Lib.hid hbm; have HS5 := Lib.hid hs5; have HM8 := Lib.hid hm8; have HMN := Lib.hid hmn; have HSM := Lib.hid hsm; have HOM := Lib.hid hom; clear hbm hs5 hm8 hmn hsm hom)
      have hod3 : onlyIn [g, b, sb] wr wd := HOD.out.more (by intro x hx; simp at hx ⊢; omega)
      have hTP : TabR (veil [g, b] wm) wm.heap.size ⟨t0, t1, t2, t3, t4, v5, t6, .slice none 0 0, v8, v9, v10, .slice none 0 0⟩ ⟨T0, T1, T2, T3, T4, Sx, T6, [], M, D, X, []⟩ := by
        have k1 : ∀ (p : Addr) (x : Value), p.block < wd.heap.size → p.block ∉ [g, b] ++ (Value.slice (some ⟨sb, 0, none⟩) 28 cap).ownBlock.toList → wd.cell? p = some x → p.block ∉ [g, b] ∧ wm.cell? p = some x := fun p x hp hn hx => by
          have hn3 : p.block ∉ [g, b, sb] := by simp [Value.ownBlock] at hn ⊢; exact hn
          exact ⟨fun h => hn (List.mem_append_left _ h), (onlyIn_reveil (S1 := [g, b, sb]) HOM.out (fun _ h => h) p x hp hn3 hx).2⟩
        have k2 : ∀ (p : Addr) (x : Value), p.block < wd.heap.size → p.block ∉ List.range wr.heap.size → wd.cell? p = some x → p.block ∉ [g, b] ∧ wm.cell? p = some x := fun p x hp hn hx => by
          have hbl : wr.heap.size ≤ p.block := by simpa using hn
          have hn3 : p.block ∉ [g, b, sb] := by simp; omega
          exact ⟨by simp; omega, (onlyIn_reveil (S1 := [g, b, sb]) HOM.out (fun _ h => h) p x hp hn3 hx).2⟩
        have ht := (HTD.out.reveil k1).more HOM.out.2.2.2.1
        exact ⟨ht.r0, ht.r1, ht.r2, ht.r3, ht.r4, HS5.out, ht.r6, Mapps.none_, HM8.out, (HM9.out.reveil k2).more HOM.out.2.2.2.1, (HX10.out.reveil k2).more HOM.out.2.2.2.1, Mapps.none_⟩
      have hwd := HOD.out.2.2.2.1
      have hom2 : onlyIn [g, b] Wb wm := by
        have h1 : onlyIn [g, b, sb] Wb wm := ((HM.out.oi.trans HOD.out).more (by intro x hx; simp at hx ⊢; omega)).trans HOM.out
        exact ⟨h1.1, h1.2.1, h1.2.2.1, h1.2.2.2.1, fun q hq hl => h1.2.2.2.2 q (by simp at hq ⊢; omega) hl⟩
      have HOm2 := Lib.hid hom2
      have HPR := Lib.hid (prototypes_any wm g b (.slice A xs.length c) xs ⟨t0, t1, t2, t3, t4, v5, t6, .slice none 0 0, v8, v9, v10, .slice none 0 0⟩ ⟨T0, T1, T2, T3, T4, Sx, T6, [], M, D, X, []⟩ (HVW.out wm hom2) HSM.out HBM.out hgb hTP)
      clear hom2 hTP hod3 HMP HTD HS5 HM8 HM9 HX10 HROW HSS HLN HM HBD HSD HOD HBM HSM HOM
      go_upto_region 30 with (go_at_call 59; refine HPR.out.mono ?_; rintro e wp ⟨v11, P, rfl, hbp, htp, hpl, hig, hsp, hop⟩; have HBP := Lib.hid hbp; have HTP := Lib.hid htp; have HPL := Lib.hid hpl; have HIG := Lib.hid hig; have HSP := Lib.hid hsp; have HOP := Lib.hid (HOm2.out.trans hop); clear hbp htp hpl hig hsp hop)
      have hN := HNW.out wp 2 HOP.out HSP.out (by decide) (by decide)
      go_upto_if 120 with (go_at_call 52; refine hN.mono ?_; rintro e wn ⟨qn, rfl, qn0, qn1, hsn, hgn⟩; have HBN := Lib.hid (HBP.out.grown hgn (by intro e; injection e; omega)); have HON := Lib.hid (HOP.out.trans (onlyIn.of_grown hgn (by simp))); have HTN := Lib.hid ((HTP.out.reveil (onlyIn_reveil (onlyIn.of_grown hgn (by simp : g ∈ [g, b])) fun x hx => hx)).more hgn.size); clear hsn hgn)
      go_cut [] from 120 to 124 (fun wx => ∃ v7 E, Hid (E = [] ∨ E = [(12539, [7, 8])]) ∧ Hid (Blk wx b 26 #[t0, t1, t2, t3, t4, v5, t6, v7, v8, v9, v10, v11]) ∧ Hid (TabR (veil [g, b] wx) wx.heap.size ⟨t0, t1, t2, t3, t4, v5, t6, v7, v8, v9, v10, v11⟩ ⟨T0, T1, T2, T3, T4, Sx, T6, E, M, D, X, P⟩) ∧ Hid (onlyIn [g, b] Wb wx))
      case first =>
        by_cases hq : qn = 0
        · have n1 : (qn == 0) = true := by simpa using hq
          clear hq
          have hbn := (HBN.out.alloc (.cells #[.int .i64 7, .int .i64 8] 3)).alloc (.cells #[.int .i64 12539, .slice (some ⟨wn.heap.size, 0, none⟩) 2 2] 54)
          have e7 := hbn.at_ (i := 7) rfl
          have f7 := hbn.free 7
          have HBN2 := Lib.hid hbn
          clear hbn
          go_wp2
          go_meet
          case rel =>
            have hbl : Below wn.heap.size wn ((wn.alloc (.cells #[.int .i64 7, .int .i64 8] 3)).alloc (.cells #[.int .i64 12539, .slice (some ⟨wn.heap.size, 0, none⟩) 2 2] 54)) := ((Below.refl _ _).alloc (Nat.le_refl _) _).alloc (by simp) _
            have hset := grown_setCell (grown_refl ((wn.alloc (.cells #[.int .i64 7, .int .i64 8] 3)).alloc (.cells #[.int .i64 12539, .slice (some ⟨wn.heap.size, 0, none⟩) 2 2] 54)) (some b)) 7 (.slice (some ⟨wn.heap.size + 1, 0, none⟩) 1 1)
            have hbn0 : b < wn.heap.size := HBN.out.lt
            have ho : onlyIn [g, b] wn (((wn.alloc (.cells #[.int .i64 7, .int .i64 8] 3)).alloc (.cells #[.int .i64 12539, .slice (some ⟨wn.heap.size, 0, none⟩) 2 2] 54)).setCell ⟨b, 7, none⟩ (.slice (some ⟨wn.heap.size + 1, 0, none⟩) 1 1)) := (onlyIn.of_below hbl).trans (onlyIn.of_grown hset (by simp))
            have ht := (HTN.out.reveil (onlyIn_reveil ho fun x hx => hx)).more ho.2.2.2.1
            have hk5 : Blk (((wn.alloc (.cells #[.int .i64 7, .int .i64 8] 3)).alloc (.cells #[.int .i64 12539, .slice (some ⟨wn.heap.size, 0, none⟩) 2 2] 54)).setCell ⟨b, 7, none⟩ (.slice (some ⟨wn.heap.size + 1, 0, none⟩) 1 1)) wn.heap.size 3 (([7, 8] : List Int).map (Value.int .i64)).toArray := Blk.far ((Blk.new wn 3 #[.int .i64 7, .int .i64 8]).alloc (.cells #[.int .i64 12539, .slice (some ⟨wn.heap.size, 0, none⟩) 2 2] 54)) (by simp; omega) _
            have hk6 : Blk (((wn.alloc (.cells #[.int .i64 7, .int .i64 8] 3)).alloc (.cells #[.int .i64 12539, .slice (some ⟨wn.heap.size, 0, none⟩) 2 2] 54)).setCell ⟨b, 7, none⟩ (.slice (some ⟨wn.heap.size + 1, 0, none⟩) 1 1)) (wn.heap.size + 1) 54 (mpCells [((12539 : Int), .slice (some ⟨wn.heap.size, 0, none⟩) 2 2)]).toArray := Blk.far (by have h := Blk.new (wn.alloc (.cells #[.int .i64 7, .int .i64 8] 3)) 54 #[.int .i64 12539, .slice (some ⟨wn.heap.size, 0, none⟩) 2 2]; simpa [mpCells] using h) (by simp; omega) _
            have h7 : Mapps (veil [g, b] (((wn.alloc (.cells #[.int .i64 7, .int .i64 8] 3)).alloc (.cells #[.int .i64 12539, .slice (some ⟨wn.heap.size, 0, none⟩) 2 2] 54)).setCell ⟨b, 7, none⟩ (.slice (some ⟨wn.heap.size + 1, 0, none⟩) 1 1))) (((wn.alloc (.cells #[.int .i64 7, .int .i64 8] 3)).alloc (.cells #[.int .i64 12539, .slice (some ⟨wn.heap.size, 0, none⟩) 2 2] 54)).setCell ⟨b, 7, none⟩ (.slice (some ⟨wn.heap.size + 1, 0, none⟩) 1 1)).heap.size (.slice (some ⟨wn.heap.size + 1, 0, none⟩) 1 1) [(12539, [7, 8])] :=
              Mapps.of_blk (D := [(12539, [7, 8])]) hk6 (by simp; omega) (by simp) rfl fun i p d hp hd => by
                match i, hp, hd with
                | 0, hp, hd => cases hp; cases hd; exact Ints.of_blk hk5 (by simp; omega) (by simp)
                | _ + 1, hp, hd => simp at hp
            refine ⟨_, [(12539, [7, 8])], Lib.hid (.inr rfl), Lib.hid (by simpa using HBN2.out.put 7 (.slice (some ⟨wn.heap.size + 1, 0, none⟩) 1 1)), Lib.hid ?_, Lib.hid (HON.out.trans ho)⟩
            exact ⟨ht.r0, ht.r1, ht.r2, ht.r3, ht.r4, ht.r5, ht.r6, h7, ht.r8, ht.r9, ht.r10, ht.r11⟩
        · have n1 : (qn == 0) = false := by simpa using hq
          clear hq
          go_wp2
          go_meet
          case rel => exact ⟨_, [], Lib.hid (.inl rfl), HBN, HTN, HON⟩
      case rest =>
        obtain ⟨v7, E, HE, HBX, HTX, HOX⟩ := hcut
        obtain ⟨A0, k0, (rfl : t0 = _), _⟩ := HTX.out.r0
        obtain ⟨A1, k1, (rfl : t1 = _), _⟩ := HTX.out.r1
        obtain ⟨A2, k2, (rfl : t2 = _), _⟩ := HTX.out.r2
        obtain ⟨A3, k3, (rfl : t3 = _), _⟩ := HTX.out.r3
        obtain ⟨A4, k4, (rfl : t4 = _), _⟩ := HTX.out.r4
        obtain ⟨A5, k5, (rfl : v5 = _), _⟩ := HTX.out.r5
        obtain ⟨A6, k6, (rfl : t6 = _), _⟩ := HTX.out.r6
        obtain ⟨A7, k7, (rfl : v7 = _), _⟩ := HTX.out.r7
        obtain ⟨A8, k8, (rfl : v8 = _), _⟩ := HTX.out.r8
        obtain ⟨A9, k9, (rfl : v9 = _), _⟩ := HTX.out.r9
        obtain ⟨A10, k10, (rfl : v10 = _), _⟩ := HTX.out.r10
        obtain ⟨A11, k11, (rfl : v11 = _), _⟩ := HTX.out.r11
        have hrx : Blk wc w0.heap.size 26 #[.slice none 0 0, .slice none 0 0, .slice none 0 0, .slice none 0 0, .slice none 0 0, .slice none 0 0, .slice none 0 0, .slice none 0 0, .slice none 0 0, .slice none 0 0, .slice none 0 0, .slice none 0 0] := HOX.out.blk HRb.out (by simp; omega)
        obtain ⟨x0, x1, x2, x3, x4, x5, x6, x7, x8, x9, x10, x11⟩ := HBX.out.tab
        obtain ⟨y0, y1, y2, y3, y4, y5, y6, y7, y8, y9, y10, y11⟩ := hrx.tab
        have HRX := Lib.hid hrx
        have fr := hrx.free
        clear hrx
        go_wp2
        have hg : wc.grownBy ((((((((((((wc.setCell ⟨w0.heap.size, 0, none⟩ (.slice A0 T0.length k0)).setCell ⟨w0.heap.size, 1, none⟩ (.slice A1 T1.length k1)).setCell ⟨w0.heap.size, 2, none⟩ (.slice A2 T2.length k2)).setCell ⟨w0.heap.size, 3, none⟩ (.slice A3 T3.length k3)).setCell ⟨w0.heap.size, 4, none⟩ (.slice A4 T4.length k4)).setCell ⟨w0.heap.size, 5, none⟩ (.slice A5 Sx.length k5)).setCell ⟨w0.heap.size, 6, none⟩ (.slice A6 T6.length k6)).setCell ⟨w0.heap.size, 7, none⟩ (.slice A7 E.length k7)).setCell ⟨w0.heap.size, 8, none⟩ (.slice A8 M.length k8)).setCell ⟨w0.heap.size, 9, none⟩ (.slice A9 D.length k9)).setCell ⟨w0.heap.size, 10, none⟩ (.slice A10 X.length k10)).setCell ⟨w0.heap.size, 11, none⟩ (.slice A11 P.length k11)) (some w0.heap.size) := (grown_setCell (grown_setCell (grown_setCell (grown_setCell (grown_setCell (grown_setCell (grown_setCell (grown_setCell (grown_setCell (grown_setCell (grown_setCell (grown_setCell (grown_refl wc (some w0.heap.size)) 0 (.slice A0 T0.length k0)) 1 (.slice A1 T1.length k1)) 2 (.slice A2 T2.length k2)) 3 (.slice A3 T3.length k3)) 4 (.slice A4 T4.length k4)) 5 (.slice A5 Sx.length k5)) 6 (.slice A6 T6.length k6)) 7 (.slice A7 E.length k7)) 8 (.slice A8 M.length k8)) 9 (.slice A9 D.length k9)) 10 (.slice A10 X.length k10)) 11 (.slice A11 P.length k11))
        have hbf : Blk ((((((((((((wc.setCell ⟨w0.heap.size, 0, none⟩ (.slice A0 T0.length k0)).setCell ⟨w0.heap.size, 1, none⟩ (.slice A1 T1.length k1)).setCell ⟨w0.heap.size, 2, none⟩ (.slice A2 T2.length k2)).setCell ⟨w0.heap.size, 3, none⟩ (.slice A3 T3.length k3)).setCell ⟨w0.heap.size, 4, none⟩ (.slice A4 T4.length k4)).setCell ⟨w0.heap.size, 5, none⟩ (.slice A5 Sx.length k5)).setCell ⟨w0.heap.size, 6, none⟩ (.slice A6 T6.length k6)).setCell ⟨w0.heap.size, 7, none⟩ (.slice A7 E.length k7)).setCell ⟨w0.heap.size, 8, none⟩ (.slice A8 M.length k8)).setCell ⟨w0.heap.size, 9, none⟩ (.slice A9 D.length k9)).setCell ⟨w0.heap.size, 10, none⟩ (.slice A10 X.length k10)).setCell ⟨w0.heap.size, 11, none⟩ (.slice A11 P.length k11)) w0.heap.size 26 #[.slice A0 T0.length k0, .slice A1 T1.length k1, .slice A2 T2.length k2, .slice A3 T3.length k3, .slice A4 T4.length k4, .slice A5 Sx.length k5, .slice A6 T6.length k6, .slice A7 E.length k7, .slice A8 M.length k8, .slice A9 D.length k9, .slice A10 X.length k10, .slice A11 P.length k11] := by have h := ((((((((((((HRX.out.put 0 (.slice A0 T0.length k0)).put 1 (.slice A1 T1.length k1)).put 2 (.slice A2 T2.length k2)).put 3 (.slice A3 T3.length k3)).put 4 (.slice A4 T4.length k4)).put 5 (.slice A5 Sx.length k5)).put 6 (.slice A6 T6.length k6)).put 7 (.slice A7 E.length k7)).put 8 (.slice A8 M.length k8)).put 9 (.slice A9 D.length k9)).put 10 (.slice A10 X.length k10)).put 11 (.slice A11 P.length k11)); simpa using h
        have hwc := HOX.out.2.2.2.1
        have hbelc := HBB.out wc HOX.out
        have hbelF : Below w0.heap.size w0 ((((((((((((wc.setCell ⟨w0.heap.size, 0, none⟩ (.slice A0 T0.length k0)).setCell ⟨w0.heap.size, 1, none⟩ (.slice A1 T1.length k1)).setCell ⟨w0.heap.size, 2, none⟩ (.slice A2 T2.length k2)).setCell ⟨w0.heap.size, 3, none⟩ (.slice A3 T3.length k3)).setCell ⟨w0.heap.size, 4, none⟩ (.slice A4 T4.length k4)).setCell ⟨w0.heap.size, 5, none⟩ (.slice A5 Sx.length k5)).setCell ⟨w0.heap.size, 6, none⟩ (.slice A6 T6.length k6)).setCell ⟨w0.heap.size, 7, none⟩ (.slice A7 E.length k7)).setCell ⟨w0.heap.size, 8, none⟩ (.slice A8 M.length k8)).setCell ⟨w0.heap.size, 9, none⟩ (.slice A9 D.length k9)).setCell ⟨w0.heap.size, 10, none⟩ (.slice A10 X.length k10)).setCell ⟨w0.heap.size, 11, none⟩ (.slice A11 P.length k11)) := hbelc.grown hg (by omega) (fun q hq => by injection hq; omega)
        have htc := HTX.out.apart (no_int HRX.out (by simp))
        have htF : TabR ((((((((((((wc.setCell ⟨w0.heap.size, 0, none⟩ (.slice A0 T0.length k0)).setCell ⟨w0.heap.size, 1, none⟩ (.slice A1 T1.length k1)).setCell ⟨w0.heap.size, 2, none⟩ (.slice A2 T2.length k2)).setCell ⟨w0.heap.size, 3, none⟩ (.slice A3 T3.length k3)).setCell ⟨w0.heap.size, 4, none⟩ (.slice A4 T4.length k4)).setCell ⟨w0.heap.size, 5, none⟩ (.slice A5 Sx.length k5)).setCell ⟨w0.heap.size, 6, none⟩ (.slice A6 T6.length k6)).setCell ⟨w0.heap.size, 7, none⟩ (.slice A7 E.length k7)).setCell ⟨w0.heap.size, 8, none⟩ (.slice A8 M.length k8)).setCell ⟨w0.heap.size, 9, none⟩ (.slice A9 D.length k9)).setCell ⟨w0.heap.size, 10, none⟩ (.slice A10 X.length k10)).setCell ⟨w0.heap.size, 11, none⟩ (.slice A11 P.length k11)) ((((((((((((wc.setCell ⟨w0.heap.size, 0, none⟩ (.slice A0 T0.length k0)).setCell ⟨w0.heap.size, 1, none⟩ (.slice A1 T1.length k1)).setCell ⟨w0.heap.size, 2, none⟩ (.slice A2 T2.length k2)).setCell ⟨w0.heap.size, 3, none⟩ (.slice A3 T3.length k3)).setCell ⟨w0.heap.size, 4, none⟩ (.slice A4 T4.length k4)).setCell ⟨w0.heap.size, 5, none⟩ (.slice A5 Sx.length k5)).setCell ⟨w0.heap.size, 6, none⟩ (.slice A6 T6.length k6)).setCell ⟨w0.heap.size, 7, none⟩ (.slice A7 E.length k7)).setCell ⟨w0.heap.size, 8, none⟩ (.slice A8 M.length k8)).setCell ⟨w0.heap.size, 9, none⟩ (.slice A9 D.length k9)).setCell ⟨w0.heap.size, 10, none⟩ (.slice A10 X.length k10)).setCell ⟨w0.heap.size, 11, none⟩ (.slice A11 P.length k11)).heap.size ⟨.slice A0 T0.length k0, .slice A1 T1.length k1, .slice A2 T2.length k2, .slice A3 T3.length k3, .slice A4 T4.length k4, .slice A5 Sx.length k5, .slice A6 T6.length k6, .slice A7 E.length k7, .slice A8 M.length k8, .slice A9 D.length k9, .slice A10 X.length k10, .slice A11 P.length k11⟩ ⟨T0, T1, T2, T3, T4, Sx, T6, E, M, D, X, P⟩ := by
          refine TabR.unveil (S := []) ((htc.reveil fun p x hp hn hx => ⟨by simp, ?_⟩).more hg.size)
          have e := hg.block p.block hp (fun e => hn (by injection e with e; rw [e]; exact List.mem_cons_self))
          unfold World.cell? at hx ⊢
          rw [e]; exact hx
        have HBF := Lib.hid hbelF
        have HTF := Lib.hid htF
        obtain ⟨z0, z1, z2, z3, z4, z5, z6, z7, z8, z9, z10, z11⟩ := hbf.tab
        clear hg hbf hbelF htF htc hbelc x0 x1 x2 x3 x4 x5 x6 x7 x8 x9 x10 x11 y0 y1 y2 y3 y4 y5 y6 y7 y8 y9 y10 y11 fr
        generalize ((((((((((((wc.setCell ⟨w0.heap.size, 0, none⟩ (.slice A0 T0.length k0)).setCell ⟨w0.heap.size, 1, none⟩ (.slice A1 T1.length k1)).setCell ⟨w0.heap.size, 2, none⟩ (.slice A2 T2.length k2)).setCell ⟨w0.heap.size, 3, none⟩ (.slice A3 T3.length k3)).setCell ⟨w0.heap.size, 4, none⟩ (.slice A4 T4.length k4)).setCell ⟨w0.heap.size, 5, none⟩ (.slice A5 Sx.length k5)).setCell ⟨w0.heap.size, 6, none⟩ (.slice A6 T6.length k6)).setCell ⟨w0.heap.size, 7, none⟩ (.slice A7 E.length k7)).setCell ⟨w0.heap.size, 8, none⟩ (.slice A8 M.length k8)).setCell ⟨w0.heap.size, 9, none⟩ (.slice A9 D.length k9)).setCell ⟨w0.heap.size, 10, none⟩ (.slice A10 X.length k10)).setCell ⟨w0.heap.size, 11, none⟩ (.slice A11 P.length k11)) = WF at *
        have hmade : Made ⟨T0, T1, T2, T3, T4, Sx, T6, E, M, D, X, P⟩ := ⟨H0.out, H1.out, H2.out, H3.out, H4.out, H6.out, HDN.out, HMN.out, HE.out, HPL.out, HIG.out⟩
        exact bodyPost_ret (v := Tv.val ⟨.slice A0 T0.length k0, .slice A1 T1.length k1, .slice A2 T2.length k2, .slice A3 T3.length k3, .slice A4 T4.length k4, .slice A5 Sx.length k5, .slice A6 T6.length k6, .slice A7 E.length k7, .slice A8 M.length k8, .slice A9 D.length k9, .slice A10 X.length k10, .slice A11 P.length k11⟩) (by simp [results, Tryd.results13, go_sem, z0, z1, z2, z3, z4, z5, z6, z7, z8, z9, z10, z11]) rfl ⟨⟨.slice A0 T0.length k0, .slice A1 T1.length k1, .slice A2 T2.length k2, .slice A3 T3.length k3, .slice A4 T4.length k4, .slice A5 Sx.length k5, .slice A6 T6.length k6, .slice A7 E.length k7, .slice A8 M.length k8, .slice A9 D.length k9, .slice A10 X.length k10, .slice A11 P.length k11⟩, ⟨T0, T1, T2, T3, T4, Sx, T6, E, M, D, X, P⟩, rfl, HTF.out, hmade, HBF.out⟩
end Go.Proofs.YtkdhldhbjomiaaaDoor
/-
  The walk through keep.Points.
-/
namespace Go.Proofs.YtkdhldhbjomiaaaDoor
open Go.RowKit ND

theorem all_snoc {f : Int → Bool} {acc : List Int} {y : Int} (h : ∀ x ∈ acc, f x = true) (h0 : f y = true) : ∀ x ∈ acc ++ [y], f x = true := by
  intro x hx
  rcases List.mem_append.1 hx with h2 | h2
  · exact h x h2
  · rw [List.mem_singleton] at h2; subst h2; exact h0

/-- At most ten scalar values come back. -/
def RetPoints (w : World) (e : Ending) (w' : World) : Prop :=
  ∃ v ys, e = .returned v ∧ Ints w' w'.heap.size .i64 v ys ∧ ys.length ≤ 10 ∧ (∀ c ∈ ys, scalarB c = true) ∧ Below w.heap.size w w'

/-- At most ten scalar values come back, in a row of the call's own. -/
def RetPointsO (w : World) (e : Ending) (w' : World) : Prop :=
  ∃ (v : Value) (ys : List Int), e = .returned v ∧ w'.ownsRow (w.heap.size + 1) 3 1 v ys.length (ys.map (Value.int .i64)) ∧ ys.length ≤ 10 ∧ (∀ c ∈ ys, scalarB c = true) ∧ Below w.heap.size w w' ∧ w.heap.size + 1 ≤ w'.heap.size

set_option maxRecDepth 100000 in
set_option maxHeartbeats 1000000 in
theorem pointsO_any (w : World) (v : Value) (xs : List Int) (hv : Ints w w.heap.size .i64 v xs) : Calls Tryd.prog 15 #[v] w (RetPointsO w) := by
  obtain ⟨i0, hi, hz0, hz1, hz2⟩ := info_parts Tryd.infoInt'
  obtain ⟨A, c, rfl⟩ : ∃ A c, v = .slice A xs.length c := by obtain ⟨A, c, h, _⟩ := hv; exact ⟨A, c, h⟩
  go_enter Tryd.func15, Tryd.ntmps15
  go_wp2_with fail
  refine (from_any A xs.length c w).mono ?_
  rintro e w1 ⟨rfl, rfl⟩
  have hs1 : Src (w.alloc (.cells #[.slice A xs.length c, .int .i64 0] 107)) w.heap.size (.slice A xs.length c) xs.length := ⟨0, Nat.zero_le _, Blk.new w _ _⟩
  have hbel1 : Below w.heap.size w (w.alloc (.cells #[.slice A xs.length c, .int .i64 0] 107)) := (Below.refl _ _).alloc (Nat.le_refl _) _
  have hsz1 : w.heap.size + 1 ≤ (w.alloc (.cells #[.slice A xs.length c, .int .i64 0] 107)).heap.size := by simp
  generalize w.alloc (.cells #[.slice A xs.length c, .int .i64 0] 107) = w1 at *
  have hv1 := hv.below hbel1
  go_wp2_with fail
  refine (next_src w1 w.heap.size _ xs 11 hv1 hs1 (by decide) (by decide)).mono ?_
  rintro e w2 ⟨r, rfl, hr0, hr1, hs2, hg2⟩
  have hbel2 := below_of_grown hbel1 hg2 (Nat.le_refl _) (by omega)
  have hsz2 := Nat.le_trans hsz1 hg2.size
  obtain ⟨m0, rfl⟩ := Int.eq_ofNat_of_zero_le hr0
  have hm0 : m0 ≤ 10 := by omega
  have HS2 := Lib.hid hs2
  have HV := Lib.hid hv
  clear hs2 hs1 hbel1 hsz1 hv1 hg2 hr0 hr1 hv
  go_wp2_with fail
  go_loopw [4, 5] (fun l n wr => ∃ (m : Nat) (acc : List Int), n = .int .i64 m ∧ acc.length + m ≤ 10 ∧ wr.ownsRow (w.heap.size + 1) 3 1 l acc.length (acc.map (Value.int .i64)) ∧ Hid (∀ x ∈ acc, scalarB x = true) ∧ Hid (Src wr w.heap.size (.slice A xs.length c) xs.length) ∧ Below w.heap.size w wr ∧ w.heap.size + 1 ≤ wr.heap.size) (fun _ n _ => (intOf n).toNat)
  case atStart => exact ⟨m0, [], rfl, by simpa using hm0, World.ownsRow_nil _ _ _ _, Lib.hid (by simp), HS2, hbel2, hsz2⟩
  case round =>
    obtain ⟨m, acc, rfl, hm, hown, HF, HS, hbel, hsz⟩ := hrel
    by_cases hlt : 0 < m
    · have hv' := HV.out.below hbel
      go_wp2_with fail
      refine (point_src wr w.heap.size _ xs hv' HS.out).mono ?_
      rintro e w3 ⟨x, rfl, hx, hs3, hg3⟩
      have hbel3 := below_of_grown hbel hg3 (Nat.le_refl _) (by omega)
      have hsz3 := Nat.le_trans hsz hg3.size
      have hown3 := own_grown hown hg3 (by omega)
      have HF' := Lib.hid (all_snoc HF.out hx)
      clear hv' hown hbel hsz hg3 HS HF hx
      have HS3 := Lib.hid hs3; clear hs3
      go_wp2_with (at_builtin; refine wpList_append_own _ rfl _ _ 24 rfl (w.heap.size + 1) 3 i0 (.int .i64 0) 1 8 Tryd.underlying24 hi hz0 hz1 hz2 rfl (by decide) _ _ _ rfl (hown3.alloc _) ⟨w3.heap.size, 0, none⟩ 1 1 [.int .i64 x] rfl rfl (cell_one_new _ _ _) ?c1 ?c2 ?c3 ?c4 ?_)
      case c1 => intro u hu; simp at hu; subst hu; rfl
      case c2 => unfold maxLen; omega
      case c3 => omega
      case c4 => simp; omega
      intro v' w4 hown4 hgrow _
      have hbel4 : Below w.heap.size w w4 := (hbel3.alloc hbel3.size _).grown hgrow (by have := hbel3.size; simp; omega) (fun k hk => by have := (hown3.lt k hk).1; omega)
      have hsz4 : w.heap.size + 1 ≤ w4.heap.size := by have := hgrow.size; simp at this; omega
      have HS4 := Lib.hid ((HS3.out.alloc _).grown hgrow (fun hk => by have := (hown3.lt _ hk.symm).1; omega))
      clear hgrow hown3 hbel3 hsz3 HS3
      go_wp2_with fail
      go_roundw
      case rel => exact ⟨m - 1, acc ++ [x], by go_num, by simp; omega, by simpa using hown4, HF', HS4, hbel4, hsz4⟩
      case measure => simp [intOf]; omega
    · go_wp2_with fail
      go_ret
      exact ⟨_, acc, rfl, hown, by omega, HF.out, hbel, hsz⟩

theorem points_any (w : World) (v : Value) (xs : List Int) (hv : Ints w w.heap.size .i64 v xs) : Calls Tryd.prog 15 #[v] w (RetPoints w) :=
  (pointsO_any w v xs hv).mono fun _ _ ⟨v, ys, h1, h2, h3, h4, h5, _⟩ => ⟨v, ys, h1, Ints.of_own h2, h3, h4, h5⟩
end Go.Proofs.YtkdhldhbjomiaaaDoor
/-
  The reference's find hands back a value that is known ahead of the call.
-/
namespace Go.Proofs.YtkdhldhbjomiaaaDoor
open Go.RowKit ND

/-- What the reference's find hands back in whatever later world. -/
def RefFindsIn (w : World) (v : Value) (c : Int) (u : Value) : Prop := ∀ W, Below w.heap.size w W → Calls Tryd.prog 47 #[v, .int .i64 c] W fun e W' => e = .returned u ∧ Below W.heap.size W W'

set_option maxRecDepth 100000 in
set_option maxHeartbeats 1000000 in
theorem refFind_v (v : Value) (xs : List Mp) (c : Int) (w : World) (hv : Mapps w w.heap.size v xs) (hs : sortM xs) :
    ∃ u, Ints w w.heap.size .i64 u (findL xs c) ∧ (findL xs c = [] → ∃ A k, u = .slice A 0 k) ∧ RefFindsIn w v c u := by
  obtain ⟨A, cap, rfl, hc1, hc2, _, hcell⟩ := hv
  have hlm : xs.length ≤ 9223372036854775807 := by unfold maxLen at hc2; omega
  clear hc1 hc2
  by_cases hk : ∃ (k0 : Nat) (a : Mp), xs[k0]? = some a ∧ a.1 = c
  · obtain ⟨k0, ⟨f, ys⟩, hx0, hfc⟩ := hk
    simp only at hfc
    subst hfc
    obtain ⟨ad, sv, rfl, ha, d0, d1, hsv⟩ := hcell k0 _ hx0
    simp only at d0 d1 hsv
    have hlow0 : ∀ i a, i < k0 → xs[i]? = some a → a.1 < f := fun i a hi hxi => hs i k0 a (f, ys) hi hxi hx0
    have hfind : findL xs f = ys := findL_at hlow0 hx0 rfl
    rw [hfind]
    obtain ⟨A', c', rfl, _⟩ := id hsv
    refine ⟨_, hsv, fun e => ⟨A', c', by rw [e]; rfl⟩, fun W hW => ?_⟩
    have hk0 : k0 < xs.length := (List.getElem?_eq_some_iff.1 hx0).1
    have HC := Lib.hid hcell
    have HLO := Lib.hid hlow0
    have HD := Lib.hid (And.intro d0 d1)
    clear hcell hsv d0 d1 hfind hx0 hlow0 hs
    go_enter Tryd.func47, Tryd.ntmps47
    go_wp2_with fail
    go_loopw [9] (fun i wr => ∃ (j : Nat), j ≤ k0 ∧ i = .int .i64 j ∧ Below W.heap.size W wr) (fun i _ => k0 + 1 - (intOf i).toNat)
    case atStart => exact ⟨0, by omega, rfl, Below.refl _ _⟩
    case round =>
      obtain ⟨j, hj, rfl, hbel⟩ := hrel
      have hbw : Below w.heap.size w wr := below_next hW hbel
      by_cases hjl : j < k0
      · obtain ⟨⟨g, tg⟩, hxj, _⟩ := get_el (xs := xs) (k := j) (by omega)
        obtain ⟨aj, sv, hA, haj, d0, d1, hto⟩ := HC.out j _ hxj
        cases hA
        simp only at d0 d1 hto
        obtain ⟨Aj, cj, rfl, _⟩ := hto
        obtain ⟨e0, e1⟩ := map_cells hbw ha d0 d1
        have hne := HLO.out j _ hjl hxj
        simp only at hne
        have p1 : (g == f) = false := by rw [beq_eq_false_iff_ne]; omega
        clear d0 d1 hxj hne haj
        have r0 : (0 : Int) ≤ (j : Int) := by omega
        have r1 : (j : Int) < (xs.length : Int) := by omega
        go_wp2_with fail
        go_roundw
        case rel => exact ⟨j + 1, by omega, by go_num, hbel.alloc hbel.size _⟩
        case measure => simp [intOf]; omega
      · obtain rfl : j = k0 := by omega
        obtain ⟨e0, e1⟩ := map_cells hbw ha HD.out.1 HD.out.2
        have r0 : (0 : Int) ≤ (j : Int) := by omega
        have r1 : (j : Int) < (xs.length : Int) := by omega
        go_wp2_with fail
        go_ret
        exact ⟨rfl, hbel.alloc hbel.size _⟩
  · have hno : ∀ (i : Nat) (a : Mp), xs[i]? = some a → a.1 ≠ c := fun i a hi e => hk ⟨i, a, hi, e⟩
    have hfind : findL xs c = [] := findL_no hno
    rw [hfind]
    refine ⟨.slice none 0 0, Ints.none_, fun _ => ⟨_, _, rfl⟩, fun W hW => ?_⟩
    have HC := Lib.hid hcell
    have HNO := Lib.hid hno
    clear hcell hno hfind hk hs
    go_enter Tryd.func47, Tryd.ntmps47
    go_wp2_with fail
    go_loopw [9] (fun i wr => ∃ (j : Nat), j ≤ xs.length ∧ i = .int .i64 j ∧ Below W.heap.size W wr) (fun i _ => xs.length - (intOf i).toNat)
    case atStart => exact ⟨0, by omega, rfl, Below.refl _ _⟩
    case round =>
      obtain ⟨j, hj, rfl, hbel⟩ := hrel
      have hbw : Below w.heap.size w wr := below_next hW hbel
      by_cases hjl : j < xs.length
      · obtain ⟨⟨g, tg⟩, hxj, _⟩ := get_el hjl
        obtain ⟨aj, sv, rfl, haj, d0, d1, hto⟩ := HC.out j _ hxj
        simp only at d0 d1 hto
        obtain ⟨Aj, cj, rfl, _⟩ := hto
        obtain ⟨e0, e1⟩ := map_cells hbw haj d0 d1
        have hne := HNO.out j _ hxj
        simp only at hne
        have p1 : (g == c) = false := by rw [beq_eq_false_iff_ne]; exact hne
        clear d0 d1 hxj hne haj
        have r0 : (0 : Int) ≤ (j : Int) := by omega
        have r1 : (j : Int) < (xs.length : Int) := by omega
        go_wp2_with fail
        go_roundw
        case rel => exact ⟨j + 1, by omega, by go_num, hbel.alloc hbel.size _⟩
        case measure => simp [intOf]; omega
      · go_wp2_with fail
        go_ret
        exact ⟨rfl, hbel⟩
end Go.Proofs.YtkdhldhbjomiaaaDoor
