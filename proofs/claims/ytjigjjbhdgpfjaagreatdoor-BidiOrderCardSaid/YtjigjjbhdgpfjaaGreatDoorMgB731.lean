/-
  Merged texts: lemmas and walks that the last text of this claim leans on.
-/
import Derived.Test.YtjigjjbhdgpfjaaGreatDoorMgB722
import Derived.Test.YtjigjjbhdgpfjaaGreatDoorMgB730
import Derived.Test.YtjigjjbhdgpfjaaGreatDoorMgB719
import Derived.Test.YtjigjjbhdgpfjaaGreatDoorMgB713
import Derived.Test.YtjigjjbhdgpfjaaGreatDoorMgB78
import Derived.Test.YtjigjjbhdgpfjaaGreatDoorMgB75
/-
  The walk through the reference's acceptable.
-/
namespace Go.Proofs.YtjigjjbhdgpfjaaGreatDoor
open Go.RowKit ND

set_option maxRecDepth 100000 in
set_option maxHeartbeats 1000000 in
theorem refAcc_any (t : Tv) (T : Tab) (v : Value) (xs : List Int) (w : World) (ht : TabR w w.heap.size t T) (hv : Ints w w.heap.size .i64 v xs) :
    Calls Tryz.prog 36 #[t.val, v] w fun e w' => e = .returned (.int .i64 (accE T xs)) ∧ Below w.heap.size w w' := by
  obtain ⟨A, c, rfl, _⟩ := id hv
  have HB0 : Hid (Below w.heap.size w (w.alloc (.cells t.cells 26))) := Lib.hid ((Below.refl _ _).alloc (Nat.le_refl _) _)
  have HT := Lib.hid (check_ref t T _ (ht.later HB0.out))
  have HTB : Hid (Tbl (w.alloc (.cells t.cells 26)) w.heap.size t T) := Lib.hid ⟨Blk.new _ _ _, ht.later HB0.out⟩
  have HV := Lib.hid (hv.later HB0.out)
  clear hv ht
  obtain ⟨R, hR⟩ : ∃ R, R = accE T xs := ⟨_, rfl⟩
  rw [← hR]
  have HR := Lib.hid hR
  clear hR
  go_enter Tryz.func36, Tryz.ntmps36
  go_upto_region 1 with fail
  generalize w.alloc (.cells t.cells 26) = w1 at *
  obtain ⟨x0, x1, x2, x3, x4, x5, x6, x7, x8, x9, x10, x11⟩ := HTB.out.1.tab
  by_cases h1 : T.check = 0
  · have hc1 : (T.check != 0) = false := by rw [h1]; rfl
    by_cases h2 : xs.length ≤ 4096
    · have h4 : ¬ (4096 : Int) < (xs.length : Int) := by omega
      have H1 := Lib.hid h1
      clear h1
      go_wp2_with (go_at_call 51; refine HT.out.mono ?_; rintro e w2 ⟨rfl, b2⟩)
      have HV2 := Lib.hid (HV.out.later b2)
      have HB2 := Lib.hid (below_next HB0.out b2)
      clear x0 x1 x2 x3 x4 x5 x6 x7 x8 x9 x10 x11 HT HTB HV HB0 b2
      go_loopw [15] (fun i wr => ∃ k : Nat, k ≤ xs.length ∧ i = .int .i64 k ∧ Hid ((xs.take k).all scalarB = true) ∧ Hid (Below w2.heap.size w2 wr)) (fun i _ => xs.length - (intOf i).toNat)
      case atStart => exact ⟨0, by omega, rfl, Lib.hid (by simp), Lib.hid (Below.refl _ _)⟩
      case round =>
        obtain ⟨k, hk, rfl, HS, HBr⟩ := hrel
        by_cases hlt : k < xs.length
        · obtain ⟨x, hxk, _⟩ := get_of hlt
          obtain ⟨_, _, hve, _, _, _, hcell⟩ := HV2.out
          cases hve
          obtain ⟨ad, rfl, ha, hce⟩ := hcell k x hxk
          have e1 := (HBr.out.cell (p := ad.add k) (by rw [block_of_add]; exact ha)).trans hce
          have HX := Lib.hid hxk
          have k0 : (0 : Int) ≤ (k : Int) := by omega
          have k1 : (k : Int) < (xs.length : Int) := by omega
          have hb := Lib.hid (fun w => refScalar_any x w)
          clear hce hxk ha hcell
          cases hs : scalarB x
          · have HE := Lib.hid (accE_bad H1.out h2 (all_bad HX.out hs))
            rw [hs] at hb
            clear hs
            go_wp2_with (go_at_call 50; refine (hb.out _).mono ?_; rintro e w4 ⟨rfl, rfl⟩)
            go_ret
            rw [HR.out, HE.out]
            exact ⟨rfl, below_next HB2.out HBr.out⟩
          · have HE := Lib.hid (all_step HS.out HX.out hs)
            rw [hs] at hb
            clear hs
            go_wp2_with (go_at_call 50; refine (hb.out _).mono ?_; rintro e w4 ⟨rfl, rfl⟩)
            go_roundw
            case rel => exact ⟨k + 1, by omega, by go_num, HE, HBr⟩
            case measure => simp [intOf]; omega
        · have HE := Lib.hid (accE_ok H1.out h2 (by have := HS.out; rwa [List.take_of_length_le (by omega)] at this))
          go_wp2_with fail
          go_ret
          rw [HR.out, HE.out]
          exact ⟨rfl, below_next HB2.out HBr.out⟩
    · have HE := Lib.hid (accE_full (l := xs) h1 (by omega))
      have h4 : (4096 : Int) < (xs.length : Int) := by omega
      clear h1 h2
      go_wp2_with (go_at_call 51; refine HT.out.mono ?_; rintro e w2 ⟨rfl, b2⟩)
      go_ret
      rw [HR.out, HE.out]
      exact ⟨rfl, below_next HB0.out b2⟩
  · have HE := Lib.hid (accE_check (l := xs) h1)
    have hc1 : (T.check != 0) = true := by simpa using h1
    clear h1
    go_wp2_with (go_at_call 51; refine HT.out.mono ?_; rintro e w2 ⟨rfl, b2⟩)
    go_ret
    rw [HR.out, HE.out]
    exact ⟨rfl, below_next HB0.out b2⟩
end Go.Proofs.YtjigjjbhdgpfjaaGreatDoor
/-
  The walk through the reference's ordered.
-/
namespace Go.Proofs.YtjigjjbhdgpfjaaGreatDoor
open Go.RowKit ND

set_option maxRecDepth 100000 in
set_option maxHeartbeats 4000000 in
theorem ordered_any (t : Tv) (T : Tab) (v : Value) (xs : List Int) (w : World) (ht : TabR w w.heap.size t T) (hck : T.check = 0) (hlen : xs.length ≤ 4096) (hv : Ints w w.heap.size .i64 v xs) :
    Calls Tryz.prog 37 #[t.val, v] w (RetRow w (can T.classOf xs)) := by
  obtain ⟨A, c, rfl, _⟩ := id hv
  have HF := Lib.hid (fun x => cls_range hck x)
  obtain ⟨f, hf⟩ : ∃ f, T.classOf = f := ⟨_, rfl⟩
  have HC : Hid (∀ (b : Nat) (W : World) (x : Int), Tbl W b t T → Calls Tryz.prog 63 #[.agg #[t.c0, t.c1, t.c2, t.c3, t.c4, t.c5, t.c6, t.c7, t.c8, t.c9, t.c10, t.c11], .int .i64 x] W fun e W' => e = .returned (.int .i64 (f x)) ∧ Below W.heap.size W W') := Lib.hid fun b W x h => by
    have h2 := refClass_any t T x W h.2
    rw [hf] at h2; exact h2
  rw [hf] at HF ⊢
  have HB0 : Hid (Below w.heap.size w (w.alloc (.cells t.cells 26))) := Lib.hid ((Below.refl _ _).alloc (Nat.le_refl _) _)
  have HT : Hid (Tbl (w.alloc (.cells t.cells 26)) w.heap.size t T) := Lib.hid ⟨Blk.new _ _ _, ht.later HB0.out⟩
  have HV := Lib.hid (hv.later HB0.out)
  clear hv ht hck hf
  go_enter Tryz.func37, Tryz.ntmps37
  go_upto_region 1 with fail
  generalize w.alloc (.cells t.cells 26) = w1 at *
  obtain ⟨tb, htb⟩ : ∃ tb, w.heap.size = tb := ⟨_, rfl⟩
  rw [htb] at HT
  simp only [htb]
  obtain ⟨i0, hi, hz0, hz1, hz2⟩ := info_parts Tryz.infoInt'
  go_upto_region 2 with (at_builtin; refine wpList_append_ints (by rfl) (.const (.slice none 0 0)) (.tmp 10) rfl Tryz.underlying22 hi hz0 hz1 hz2 w1.heap.size w1.heap.size (.slice none 0 0) [] (.slice A xs.length c) xs rfl (World.ownsRow_nil _ _ _ _) rfl HV.out (by simp; omega) (Nat.le_refl _) ?_; intro v5 w2 ho hg _; simp only [List.nil_append] at ho; obtain ⟨A5, c5, rfl, _⟩ := id (Ints.of_own ho); have HO := Lib.hid ho; have HB2 := Lib.hid ((Below.refl _ _).grown hg (Nat.le_refl _) (fun k hk => by cases hk)); clear ho hg)
  go_wp2_with fail
  go_loopg [6] (leftO f xs + 1) (fun gk s6 wr => ∃ (o : List Int) (b : Bool), s6 = .bool b ∧ Hid (o.length = xs.length ∧ can f o = can f xs ∧ (b = false → SortN f xs.length o) ∧ (b = true → leftO f o < gk)) ∧ Hid (wr.ownsRow w1.heap.size 3 1 (.slice A5 xs.length c5) xs.length (o.map (Value.int .i64))) ∧ Hid (Below w1.heap.size w1 wr))
  case atStart => exact ⟨xs, true, rfl, Lib.hid ⟨rfl, rfl, (fun h => by cases h), fun _ => by omega⟩, HO, HB2⟩
  case round =>
    obtain ⟨o, b, rfl, HS, HOr, HBr⟩ := hrel
    cases b
    · have HD := Lib.hid (sorted_done HS.out.1 HS.out.2.1 (Nat.le_refl _) (HS.out.2.2.1 rfl))
      go_wp2_with fail
      go_ret
      refine ⟨_, rfl, ?_, HB0.out.trans (HBr.out.mono HB0.out.size)⟩
      rw [can_length, ← HD.out]
      exact row_le HOr.out HB0.out.size
    · have HG := Lib.hid (HS.out.2.2.2 rfl)
      have HI := Lib.hid (Bub.start (f := f) HS.out.1 HS.out.2.1)
      clear HS
      go_wp2_with fail
      go_loopw [7, 6] (fun s7 s6 wr => ∃ (p : Nat) (o' : List Int) (more : Bool), s7 = .int .i64 ((p + 1 : Nat) : Int) ∧ s6 = .bool more ∧ Hid (Bub f xs o o' (p + 1) more) ∧ Hid (wr.ownsRow w1.heap.size 3 1 (.slice A5 xs.length c5) xs.length (o'.map (Value.int .i64))) ∧ Hid (Below w1.heap.size w1 wr) ∧ p ≤ xs.length) (fun i _ _ => xs.length + 1 - (intOf i).toNat)
      case atStart => exact ⟨0, o, false, rfl, rfl, HI, HOr, HBr, by omega⟩
      case round =>
        clear HI HOr HBr
        obtain ⟨p, o', more, rfl, rfl, HI, HO6, HB6, hpl⟩ := hrel
        by_cases hlt : p + 1 < xs.length
        · have hol := HI.out.len
          obtain ⟨x, hx⟩ : ∃ x, o'[p]? = some x := ⟨_, List.getElem?_eq_getElem (by omega)⟩
          obtain ⟨y, hy⟩ : ∃ y, o'[p + 1]? = some y := ⟨_, List.getElem?_eq_getElem (by omega)⟩
          obtain ⟨gb, cap, e, hgb, _⟩ := HO6.out.form (by omega)
          cases e
          have hcp := (HO6.out.cellAt p (by omega)).trans (by rw [List.getElem?_map, hx]; rfl : (o'.map (Value.int .i64))[p]? = some (.int .i64 x))
          have hcq := (HO6.out.cellAt (p + 1) (by omega)).trans (by rw [List.getElem?_map, hy]; rfl : (o'.map (Value.int .i64))[p + 1]? = some (.int .i64 y))
          have ep := cell_regrown hcp
          have eq := cell_regrown hcq
          have HX := Lib.hid hx
          have HY := Lib.hid hy
          have HTr := Lib.hid (HT.out.later HB6.out)
          have HCx : Hid (∀ V, Below wr.heap.size wr V → Calls Tryz.prog 63 #[.agg #[t.c0, t.c1, t.c2, t.c3, t.c4, t.c5, t.c6, t.c7, t.c8, t.c9, t.c10, t.c11], .int .i64 x] V fun e V' => e = .returned (.int .i64 (f x)) ∧ Below V.heap.size V V') := Lib.hid fun V hV => HC.out tb V x (HTr.out.later hV)
          have HCy : Hid (∀ V, Below wr.heap.size wr V → Calls Tryz.prog 63 #[.agg #[t.c0, t.c1, t.c2, t.c3, t.c4, t.c5, t.c6, t.c7, t.c8, t.c9, t.c10, t.c11], .int .i64 y] V fun e V' => e = .returned (.int .i64 (f y)) ∧ Below V.heap.size V V') := Lib.hid fun V hV => HC.out tb V y (HTr.out.later hV)
          have w0 : IntKind.i64.wrap (((p + 1 : Nat) : Int) - 1) = (p : Int) := by rw [IntWalk.i64_in _ (by omega)]; omega
          have w2 : ((p + 1 : Nat) : Int) - 1 = (p : Int) := by omega
          have k2 : (0 : Int) ≤ ((p + 1 : Nat) : Int) := by omega
          have k3 : (0 : Int) ≤ (p : Int) := by omega
          have k4 : (p : Int) < (xs.length : Int) := by omega
          have k5 : ((p + 1 : Nat) : Int) < (xs.length : Int) := by omega
          clear hx hy hcp hcq hol
          go_upto_region 8 with fail
          obtain ⟨x0, x1, x2, x3, x4, x5, x6, x7, x8, x9, x10, x11⟩ := HTr.out.1.tabG
          refine wp_region_quiet_below (by kernel_rfl) (by kernel_rfl) ?_
          repeat (go_big_quiet_step (first | (go_at_call 63; with_reducible exact quiet_t HCx.out) | (go_at_call 63; with_reducible exact quiet_t HCy.out)))
          refine wpQuiet_nil ?_
          rintro _ ⟨⟨dq, osq⟩, rfl⟩
          have b7 := below_regrown wr dq osq
          clear x0 x1 x2 x3 x4 x5 x6 x7 x8 x9 x10 x11 ep eq HCx HCy HTr
          have HO7 := Lib.hid (own_later HO6.out b7)
          have HB7 := Lib.hid (below_then HB6.out (Nat.le_refl _) b7)
          generalize Go.Sort.grow (redrawn wr dq) osq = w7 at *
          clear HO6 HB6 b7
          by_cases h8 : 0 < f y
          · by_cases h9 : f y < f x
            · have g8 : decide (0 < f y) = true := decide_eq_true h8
              have g9 : decide (f y < f x) = true := decide_eq_true h9
              have HN := Lib.hid (HI.out.swap HF.out HX.out HY.out h8 h9)
              have hcp := (HO7.out.cellAt p (by omega)).trans (by rw [List.getElem?_map, HX.out]; rfl : (o'.map (Value.int .i64))[p]? = some (.int .i64 x))
              have hcq := (HO7.out.cellAt (p + 1) (by omega)).trans (by rw [List.getElem?_map, HY.out]; rfl : (o'.map (Value.int .i64))[p + 1]? = some (.int .i64 y))
              have fp := HO7.out.frozenAt p
              have fq := HO7.out.frozenAt (p + 1)
              go_wp2_with fail
              go_region
              clear hcp hcq fp fq
              have HO8 : Hid (((w7.setCell ⟨gb, p, none⟩ (.int .i64 y)).setCell ⟨gb, p + 1, none⟩ (.int .i64 x)).drew.ownsRow w1.heap.size 3 1 (.slice (some ⟨gb, 0, none⟩) xs.length c5) xs.length ((swapL o' p x y).map (Value.int .i64))) := by
                have h := ((HO7.out.stored p (.int .i64 y)).1.stored (p + 1) (.int .i64 x)).1
                rw [← List.map_set, ← List.map_set, List.set_comm _ _ (by omega : p ≠ p + 1)] at h
                exact Lib.hid h.drew
              have HB8 : Hid (Below w1.heap.size w1 ((w7.setCell ⟨gb, p, none⟩ (.int .i64 y)).setCell ⟨gb, p + 1, none⟩ (.int .i64 x)).drew) := Lib.hid (((HB7.out.setCell (p := ⟨gb, p, none⟩) hgb _).setCell (p := ⟨gb, p + 1, none⟩) hgb _).drew)
              generalize ((w7.setCell ⟨gb, p, none⟩ (.int .i64 y)).setCell ⟨gb, p + 1, none⟩ (.int .i64 x)).drew = w8 at *
              go_wp2_with fail
              go_roundw
              case rel => exact ⟨p + 1, swapL o' p x y, true, by go_num, rfl, HN, HO8, HB8, by omega⟩
              case measure => simp [intOf]; omega
            · have g8 : decide (0 < f y) = true := decide_eq_true h8
              have g9 : decide (f y < f x) = false := decide_eq_false h9
              have HN := Lib.hid (HI.out.next HX.out HY.out (fun e => h9 e.2))
              go_wp2_with fail
              go_roundw
              case rel => exact ⟨p + 1, o', more, by go_num, rfl, HN, HO7, HB7, by omega⟩
              case measure => simp [intOf]; omega
          · have g8 : decide (0 < f y) = false := decide_eq_false h8
            have HN := Lib.hid (HI.out.next HX.out HY.out (fun e => h8 e.1))
            go_wp2_with fail
            go_roundw
            case rel => exact ⟨p + 1, o', more, by go_num, rfl, HN, HO7, HB7, by omega⟩
            case measure => simp [intOf]; omega
        · have k5 : ¬ ((p + 1 : Nat) : Int) < (xs.length : Int) := by omega
          have HE : Hid (o'.length = xs.length ∧ can f o' = can f xs ∧ (more = false → SortN f xs.length o') ∧ (more = true → leftO f o' < leftO f o)) := Lib.hid ⟨HI.out.len, HI.out.can, fun h => (fun i x y h1 => (HI.out.no h).2 i x y (by omega)), HI.out.yes⟩
          go_wp2_with fail
          go_roundg (leftO f o)
          case measure => exact HG.out
          case rel => exact ⟨o', more, rfl, HE, HO6, HB6⟩
end Go.Proofs.YtjigjjbhdgpfjaaGreatDoor
/-
  The walk through the reference's Same.
-/
namespace Go.Proofs.YtjigjjbhdgpfjaaGreatDoor
open Go.RowKit ND

set_option maxRecDepth 100000 in
set_option maxHeartbeats 1000000 in
theorem refSame_any (v u : Value) (xs ys : List Int) (w : World) (hv : Ints w w.heap.size .i64 v xs) (hu : Ints w w.heap.size .i64 u ys) :
    Calls Tryz.prog 92 #[v, u] w fun e w' => e = .returned (.bool (decide (xs = ys))) ∧ Below w.heap.size w w' := by
  obtain ⟨A, c, rfl, hc1, hc2, _, hcell⟩ := hv
  obtain ⟨A', c', rfl, hc1', hc2', _, hcell'⟩ := hu
  have HC := Lib.hid hcell; clear hcell
  have HC' := Lib.hid hcell'; clear hcell'
  have hl : xs.length ≤ 9223372036854775807 := by unfold maxLen at hc2; omega
  clear hc2 hc2' hc1 hc1'
  by_cases hlen : xs.length = ys.length
  · have hb : ((xs.length : Int) != (ys.length : Int)) = false := by rw [hlen]; simp
    have hl1 : xs.length ≤ ys.length := by omega
    have hl2 : ys.length ≤ xs.length := by omega
    clear hlen
    obtain ⟨R, hR⟩ : ∃ R, R = decide (xs = ys) := ⟨_, rfl⟩
    rw [← hR]
    have HR := Lib.hid hR; clear hR
    go_enter Tryz.func92, Tryz.ntmps92
    go_wp2_with fail
    go_loopw [13] (fun i wr => ∃ k : Nat, k ≤ xs.length ∧ i = .int .i64 k ∧ Hid (xs.take k = ys.take k) ∧ Below w.heap.size w wr) (fun i _ => xs.length - (intOf i).toNat)
    case atStart => exact ⟨0, by omega, rfl, Lib.hid (by simp), Below.refl _ _⟩
    case round =>
      obtain ⟨k, hk, rfl, HS, hbel⟩ := hrel
      by_cases hlt : k < xs.length
      · obtain ⟨x, hxk, _⟩ := get_of hlt
        obtain ⟨y, hyk, _⟩ := get_of (show k < ys.length by omega)
        obtain ⟨ad, rfl, ha, hce⟩ := HC.out k x hxk
        obtain ⟨ad', rfl, ha', hce'⟩ := HC'.out k y hyk
        have e1 := (hbel.cell (p := ad.add k) (by rw [block_of_add]; exact ha)).trans hce
        have e2 := (hbel.cell (p := ad'.add k) (by rw [block_of_add]; exact ha')).trans hce'
        have HX := Lib.hid hxk
        have HY := Lib.hid hyk
        clear hce hce' hxk hyk ha ha'
        have k0 : (0 : Int) ≤ (k : Int) := by omega
        have k1 : (k : Int) < (xs.length : Int) := by omega
        have k2 : (k : Int) < (ys.length : Int) := by omega
        by_cases hxy : x = y
        · have hb2 : (x != y) = false := by rw [hxy]; simp
          have HT := Lib.hid (same_step HS.out HX.out (by rw [hxy]; exact HY.out))
          clear hxy
          go_wp2_with fail
          go_quiet (fail)
          go_wp2_with fail
          go_roundw
          case rel => exact ⟨k + 1, by omega, by go_num, HT, below_drewN hbel nq⟩
          case measure => simp [intOf]; omega
        · have hb2 : (x != y) = true := by rw [bne_iff_ne]; exact hxy
          have HN : Hid (R = false) := by
            refine Lib.hid ?_
            rw [HR.out, decide_eq_false_iff_not]
            rintro rfl
            have := HX.out.symm.trans HY.out
            simp at this
            exact hxy this
          clear hxy
          go_wp2_with fail
          go_quiet (fail)
          go_wp2_with fail
          go_ret
          rw [HN.out]
          exact ⟨rfl, below_drewN hbel nq⟩
      · have HN : Hid (R = true) := by
          refine Lib.hid ?_
          rw [HR.out, decide_eq_true_iff]
          have h := HS.out
          rw [List.take_of_length_le (by omega), List.take_of_length_le (by omega)] at h
          exact h
        go_wp2_with fail
        go_ret
        rw [HN.out]
        exact ⟨rfl, hbel⟩
  · have hb : ((xs.length : Int) != (ys.length : Int)) = true := by rw [bne_iff_ne]; omega
    have hn : decide (xs = ys) = false := by
      rw [decide_eq_false_iff_not]; rintro rfl; exact hlen rfl
    rw [hn]
    clear hn hlen
    go_enter Tryz.func92, Tryz.ntmps92
    go_wp2_with fail
    go_ret
    exact ⟨rfl, Below.refl _ _⟩
end Go.Proofs.YtjigjjbhdgpfjaaGreatDoor
/-
  The walk through the reference's Acceptable.
-/
namespace Go.Proofs.YtjigjjbhdgpfjaaGreatDoor
open Go.RowKit ND

set_option maxRecDepth 100000 in
set_option maxHeartbeats 1000000 in
theorem refAccept_any (t : Tv) (T : Tab) (v : Value) (xs : List Int) (w : World) (ht : TabR w w.heap.size t T) (hv : Ints w w.heap.size .i64 v xs) :
    Calls Tryz.prog 43 #[t.val, v] w fun e w' => e = .returned (.int .i64 (accE T xs)) ∧ Below w.heap.size w w' := by
  obtain ⟨A, c, rfl, _⟩ := id hv
  have HB0 : Hid (Below w.heap.size w (w.alloc (.cells t.cells 26))) := Lib.hid ((Below.refl _ _).alloc (Nat.le_refl _) _)
  have HT : Hid (Tbl (w.alloc (.cells t.cells 26)) w.heap.size t T) := Lib.hid ⟨Blk.new _ _ _, ht.later HB0.out⟩
  have HV := Lib.hid (hv.later HB0.out)
  clear ht hv
  have HO := Lib.hid (refAcc_any t T _ xs _ HT.out.2 HV.out)
  go_enter Tryz.func43, Tryz.ntmps43
  go_upto_region 1 with fail
  generalize w.alloc (.cells t.cells 26) = w1 at *
  obtain ⟨x0, x1, x2, x3, x4, x5, x6, x7, x8, x9, x10, x11⟩ := HT.out.1.tab
  go_wp2_with (go_at_call 36; refine HO.out.mono ?_; rintro e w2 ⟨rfl, b2⟩)
  go_ret
  exact ⟨rfl, below_next HB0.out b2⟩
end Go.Proofs.YtjigjjbhdgpfjaaGreatDoor
/-
  What the walks through the reference's properties share.
-/
namespace Go.Proofs.YtjigjjbhdgpfjaaGreatDoor
open Go.RowKit ND

/-- A code point of ASCII, a syllable or a jamo. -/
def ownR (c : Int) : Prop := 0 ≤ c ∧ c ≤ 127 ∨ 44032 ≤ c ∧ c ≤ 55203 ∨ 4352 ≤ c ∧ c ≤ 4370 ∨ 4449 ≤ c ∧ c ≤ 4469 ∨ 4520 ≤ c ∧ c ≤ 4546
theorem propL_res {l : List Sp} {own c : Int} (hg : GoodS l) (h : ownR c) : propL l own c = own := by
  rw [propL_ref hg.1 hg.2.2, if_pos]
  unfold ownR at h
  rw [resB_iff]
  refine ⟨by omega, ?_⟩
  cases hs : surB c
  · rfl
  · rw [surB_iff] at hs; omega
theorem propL_free {l : List Sp} {own c : Int} (hg : GoodS l) (h : ¬ownR c) : propL l own c = valueL l c := by
  rw [propL_ref hg.1 hg.2.2, if_neg]
  unfold ownR at h
  rintro ⟨h1, h2⟩
  rw [resB_iff] at h1
  have : ¬(55296 ≤ c ∧ c ≤ 57343) := fun e => by rw [(surB_iff c).2 e] at h2; cases h2
  omega
theorem syl_no {c : Int} (h : ¬(44032 ≤ c ∧ c ≤ 55203)) : sylB c = false := by
  cases hs : sylB c
  · rfl
  · rw [sylB_iff] at hs; exact absurd hs h
theorem jamo_no {c : Int} (h : ¬(4352 ≤ c ∧ c ≤ 4370 ∨ 4449 ≤ c ∧ c ≤ 4469 ∨ 4520 ≤ c ∧ c ≤ 4546)) : jamoB c = false := by
  cases hs : jamoB c
  · rfl
  · rw [jamoB_iff] at hs; exact absurd hs h
end Go.Proofs.YtjigjjbhdgpfjaaGreatDoor
