/-
  Merged texts: lemmas and walks that the last text of this claim leans on.
-/
import Derived.Test.YtecpbicfiaifdaaGreatDoorMgB725
import Derived.Test.YtecpbicfiaifdaaGreatDoorMgB727
import Derived.Test.YtecpbicfiaifdaaGreatDoorMgB79
import Derived.Test.YtecpbicfiaifdaaGreatDoorMgB78
import Derived.Test.YtecpbicfiaifdaaGreatDoorMgB719
import Derived.Test.YtecpbicfiaifdaaGreatDoorMgB722
import Derived.Test.YtecpbicfiaifdaaGreatDoorMgB713
import Derived.Test.YtecpbicfiaifdaaGreatDoorMgB724
import Derived.Test.YtecpbicfiaifdaaGreatDoorMgB721
import Derived.Test.YtecpbicfiaifdaaGreatDoorMgB75
/-
  The walks through the reference's expand and One.
-/
namespace Go.Proofs.YtecpbicfiaifdaaGreatDoor
open Go.RowKit ND


set_option maxRecDepth 100000 in
set_option maxHeartbeats 1000000 in
theorem refExpand_any (t : Tv) (T : Tab) (hD : DecOk T) (c : Int) (w : World) (ht : TabR w w.heap.size t T) :
    Calls Tryz.prog 49 #[t.val, .int .i64 c] w (RetInts w (expandL T c)) := by
  have HB0 : Hid (Below w.heap.size w (w.alloc (.cells t.cells 26))) := Lib.hid ((Below.refl _ _).alloc (Nat.le_refl _) _)
  have HT : Hid (Tbl (w.alloc (.cells t.cells 26)) w.heap.size t T) := Lib.hid ⟨Blk.new _ _ _, ht.later HB0.out⟩
  clear ht
  have HH := Lib.hid (fun W => refHdec_any c W)
  have HF := Lib.hid (fun W (h : Below (w.alloc (.cells t.cells 26)).heap.size (w.alloc (.cells t.cells 26)) W) => full_any t T c W (HT.out.later h).2 hD.ne)
  rw [hD.full c] at HF
  cases hs : sylB c
  · rw [expandL_not hs]
    rw [hangD_none hs] at HH
    clear hs hD
    generalize expF T.decomps T.decomps.length c = el at *
    go_enter Tryz.func49, Tryz.ntmps49
    go_upto_region 1 with fail
    generalize w.alloc (.cells t.cells 26) = w1 at *
    obtain ⟨x0, x1, x2, x3, x4, x5, x6, x7, x8, x9, x10, x11⟩ := HT.out.1.tab
    go_upto_region 4 with (go_at_call 71; refine (HH.out _).mono ?_; rintro e w2 ⟨u, rfl, hu, hun, b2⟩; obtain rfl := hun rfl; clear hu hun)
    clear x0 x1 x2 x3 x4 x5 x6 x7 x8 x9 x10 x11
    obtain ⟨x0, x1, x2, x3, x4, x5, x6, x7, x8, x9, x10, x11⟩ := (HT.out.later b2).1.tab
    go_wp2_with (go_at_call 72; refine (HF.out _ b2).mono ?_; rintro e w3 ⟨u3, rfl, ho3, b3⟩)
    go_ret
    exact ⟨u3, rfl, ho3, below_next (below_next HB0.out b2) b3⟩
  · have hne := length_pos_ne (hangD_ne hs)
    have h3 := hangD_len c
    rw [expandL_syl hs]
    clear hs hD
    generalize hangD c = hd at *
    have hp : (0 : Int) < (hd.length : Int) := by omega
    go_enter Tryz.func49, Tryz.ntmps49
    go_upto_region 1 with fail
    generalize w.alloc (.cells t.cells 26) = w1 at *
    obtain ⟨x0, x1, x2, x3, x4, x5, x6, x7, x8, x9, x10, x11⟩ := HT.out.1.tab
    go_wp2_with (go_at_call 71; refine (HH.out _).mono ?_; rintro e w2 ⟨u, rfl, hu, hun, b2⟩; obtain ⟨A2, c2, rfl, _⟩ := id hu; have HU := Lib.hid hu; clear hu hun)
    go_ret
    exact ⟨_, rfl, HU.out, below_next HB0.out b2⟩
end Go.Proofs.YtecpbicfiaifdaaGreatDoor
/-
  The walk through the reference's acceptable.
-/
namespace Go.Proofs.YtecpbicfiaifdaaGreatDoor
open Go.RowKit ND

set_option maxRecDepth 100000 in
set_option maxHeartbeats 1000000 in
theorem refAcc_any (t : Tv) (T : Tab) (v : Value) (xs : List Int) (w : World) (ht : TabR w w.heap.size t T) (hv : Ints w w.heap.size .i64 v xs) :
    Calls Tryz.prog 48 #[t.val, v] w fun e w' => e = .returned (.int .i64 (accE T xs)) ∧ Below w.heap.size w w' := by
  obtain ⟨A, c, rfl, _⟩ := id hv
  have HB0 : Hid (Below w.heap.size w (w.alloc (.cells t.cells 26))) := Lib.hid ((Below.refl _ _).alloc (Nat.le_refl _) _)
  have HT := Lib.hid (check_ref t T _ (ht.later HB0.out))
  have HTB : Hid (Tbl (w.alloc (.cells t.cells 26)) w.heap.size t T) := Lib.hid ⟨Blk.new _ _ _, ht.later HB0.out⟩
  have HV := Lib.hid (hv.later HB0.out)
  clear hv ht
  obtain ⟨R, hR⟩ : ∃ R, R = accE T xs := ⟨_, rfl⟩
  rw [← hR]
  have HR := Lib.hid hR
  clear hR
  go_enter Tryz.func48, Tryz.ntmps48
  go_upto_region 1 with fail
  generalize w.alloc (.cells t.cells 26) = w1 at *
  obtain ⟨x0, x1, x2, x3, x4, x5, x6, x7, x8, x9, x10, x11⟩ := HTB.out.1.tab
  by_cases h1 : T.check = 0
  · have hc1 : (T.check != 0) = false := by rw [h1]; rfl
    by_cases h2 : xs.length ≤ 4096
    · have h4 : ¬ (4096 : Int) < (xs.length : Int) := by omega
      have H1 := Lib.hid h1
      clear h1
      go_wp2_with (go_at_call 69; refine HT.out.mono ?_; rintro e w2 ⟨rfl, b2⟩)
      have HV2 := Lib.hid (HV.out.later b2)
      have HB2 := Lib.hid (below_next HB0.out b2)
      clear x0 x1 x2 x3 x4 x5 x6 x7 x8 x9 x10 x11 HT HTB HV HB0 b2
      go_loopw [15] (fun i wr => ∃ k : Nat, k ≤ xs.length ∧ i = .int .i64 k ∧ Hid ((xs.take k).all scalarB = true) ∧ Hid (Below w2.heap.size w2 wr)) (fun i _ => xs.length - (intOf i).toNat)
      case atStart => exact ⟨0, by omega, rfl, Lib.hid (by simp), Lib.hid (Below.refl _ _)⟩
      case round =>
        obtain ⟨k, hk, rfl, HS, HBr⟩ := hrel
        by_cases hlt : k < xs.length
        · obtain ⟨x, hxk, _⟩ := get_of hlt
          obtain ⟨_, _, hve, _, _, _, hcell⟩ := HV2.out
          cases hve
          obtain ⟨ad, rfl, ha, hce⟩ := hcell k x hxk
          have e1 := (HBr.out.cell (p := ad.add k) (by rw [block_of_add]; exact ha)).trans hce
          have HX := Lib.hid hxk
          have k0 : (0 : Int) ≤ (k : Int) := by omega
          have k1 : (k : Int) < (xs.length : Int) := by omega
          have hb := Lib.hid (fun w => refScalar_any x w)
          clear hce hxk ha hcell
          cases hs : scalarB x
          · have HE := Lib.hid (accE_bad H1.out h2 (all_bad HX.out hs))
            rw [hs] at hb
            clear hs
            go_wp2_with (go_at_call 70; refine (hb.out _).mono ?_; rintro e w4 ⟨rfl, rfl⟩)
            go_ret
            rw [HR.out, HE.out]
            exact ⟨rfl, below_next HB2.out HBr.out⟩
          · have HE := Lib.hid (all_step HS.out HX.out hs)
            rw [hs] at hb
            clear hs
            go_wp2_with (go_at_call 70; refine (hb.out _).mono ?_; rintro e w4 ⟨rfl, rfl⟩)
            go_roundw
            case rel => exact ⟨k + 1, by omega, by go_num, HE, HBr⟩
            case measure => simp [intOf]; omega
        · have HE := Lib.hid (accE_ok H1.out h2 (by have := HS.out; rwa [List.take_of_length_le (by omega)] at this))
          go_wp2_with fail
          go_ret
          rw [HR.out, HE.out]
          exact ⟨rfl, below_next HB2.out HBr.out⟩
    · have HE := Lib.hid (accE_full (l := xs) h1 (by omega))
      have h4 : (4096 : Int) < (xs.length : Int) := by omega
      clear h1 h2
      go_wp2_with (go_at_call 69; refine HT.out.mono ?_; rintro e w2 ⟨rfl, b2⟩)
      go_ret
      rw [HR.out, HE.out]
      exact ⟨rfl, below_next HB0.out b2⟩
  · have HE := Lib.hid (accE_check (l := xs) h1)
    have hc1 : (T.check != 0) = true := by simpa using h1
    clear h1
    go_wp2_with (go_at_call 69; refine HT.out.mono ?_; rintro e w2 ⟨rfl, b2⟩)
    go_ret
    rw [HR.out, HE.out]
    exact ⟨rfl, below_next HB0.out b2⟩
end Go.Proofs.YtecpbicfiaifdaaGreatDoor
/-
  The walk through the reference's ordered.
-/
namespace Go.Proofs.YtecpbicfiaifdaaGreatDoor
open Go.RowKit ND

set_option maxRecDepth 100000 in
set_option maxHeartbeats 4000000 in
theorem ordered_any (t : Tv) (T : Tab) (v : Value) (xs : List Int) (w : World) (ht : TabR w w.heap.size t T) (hck : T.check = 0) (hlen : xs.length ≤ 4096) (hv : Ints w w.heap.size .i64 v xs) :
    Calls Tryz.prog 50 #[t.val, v] w (RetRow w (can T.classOf xs)) := by
  obtain ⟨A, c, rfl, _⟩ := id hv
  have HF := Lib.hid (fun x => cls_range hck x)
  obtain ⟨f, hf⟩ : ∃ f, T.classOf = f := ⟨_, rfl⟩
  have HC : Hid (∀ (b : Nat) (W : World) (x : Int), Tbl W b t T → Calls Tryz.prog 23 #[.agg #[t.c0, t.c1, t.c2, t.c3, t.c4, t.c5, t.c6, t.c7, t.c8, t.c9, t.c10, t.c11], .int .i64 x] W fun e W' => e = .returned (.int .i64 (f x)) ∧ Below W.heap.size W W') := Lib.hid fun b W x h => by
    have h2 := refClass_any t T x W h.2
    rw [hf] at h2; exact h2
  rw [hf] at HF ⊢
  have HB0 : Hid (Below w.heap.size w (w.alloc (.cells t.cells 26))) := Lib.hid ((Below.refl _ _).alloc (Nat.le_refl _) _)
  have HT : Hid (Tbl (w.alloc (.cells t.cells 26)) w.heap.size t T) := Lib.hid ⟨Blk.new _ _ _, ht.later HB0.out⟩
  have HV := Lib.hid (hv.later HB0.out)
  clear hv ht hck hf
  go_enter Tryz.func50, Tryz.ntmps50
  go_upto_region 1 with fail
  generalize w.alloc (.cells t.cells 26) = w1 at *
  obtain ⟨tb, htb⟩ : ∃ tb, w.heap.size = tb := ⟨_, rfl⟩
  rw [htb] at HT
  simp only [htb]
  obtain ⟨i0, hi, hz0, hz1, hz2⟩ := info_parts Tryz.infoInt'
  go_upto_region 2 with (at_builtin; refine wpList_append_ints (by rfl) (.const (.slice none 0 0)) (.tmp 10) rfl Tryz.underlying22 hi hz0 hz1 hz2 w1.heap.size w1.heap.size (.slice none 0 0) [] (.slice A xs.length c) xs rfl (World.ownsRow_nil _ _ _ _) rfl HV.out (by simp; omega) (Nat.le_refl _) ?_; intro v5 w2 ho hg _; simp only [List.nil_append] at ho; obtain ⟨A5, c5, rfl, _⟩ := id (Ints.of_own ho); have HO := Lib.hid ho; have HB2 := Lib.hid ((Below.refl _ _).grown hg (Nat.le_refl _) (fun k hk => by cases hk)); clear ho hg)
  go_wp2_with fail
  go_loopg [6] (leftO f xs + 1) (fun gk s6 wr => ∃ (o : List Int) (b : Bool), s6 = .bool b ∧ Hid (o.length = xs.length ∧ can f o = can f xs ∧ (b = false → SortN f xs.length o) ∧ (b = true → leftO f o < gk)) ∧ Hid (wr.ownsRow w1.heap.size 3 1 (.slice A5 xs.length c5) xs.length (o.map (Value.int .i64))) ∧ Hid (Below w1.heap.size w1 wr))
  case atStart => exact ⟨xs, true, rfl, Lib.hid ⟨rfl, rfl, (fun h => by cases h), fun _ => by omega⟩, HO, HB2⟩
  case round =>
    obtain ⟨o, b, rfl, HS, HOr, HBr⟩ := hrel
    cases b
    · have HD := Lib.hid (sorted_done HS.out.1 HS.out.2.1 (Nat.le_refl _) (HS.out.2.2.1 rfl))
      go_wp2_with fail
      go_ret
      refine ⟨_, rfl, ?_, HB0.out.trans (HBr.out.mono HB0.out.size)⟩
      rw [can_length, ← HD.out]
      exact row_le HOr.out HB0.out.size
    · have HG := Lib.hid (HS.out.2.2.2 rfl)
      have HI := Lib.hid (Bub.start (f := f) HS.out.1 HS.out.2.1)
      clear HS
      go_wp2_with fail
      go_loopw [7, 6] (fun s7 s6 wr => ∃ (p : Nat) (o' : List Int) (more : Bool), s7 = .int .i64 ((p + 1 : Nat) : Int) ∧ s6 = .bool more ∧ Hid (Bub f xs o o' (p + 1) more) ∧ Hid (wr.ownsRow w1.heap.size 3 1 (.slice A5 xs.length c5) xs.length (o'.map (Value.int .i64))) ∧ Hid (Below w1.heap.size w1 wr) ∧ p ≤ xs.length) (fun i _ _ => xs.length + 1 - (intOf i).toNat)
      case atStart => exact ⟨0, o, false, rfl, rfl, HI, HOr, HBr, by omega⟩
      case round =>
        clear HI HOr HBr
        obtain ⟨p, o', more, rfl, rfl, HI, HO6, HB6, hpl⟩ := hrel
        by_cases hlt : p + 1 < xs.length
        · have hol := HI.out.len
          obtain ⟨x, hx⟩ : ∃ x, o'[p]? = some x := ⟨_, List.getElem?_eq_getElem (by omega)⟩
          obtain ⟨y, hy⟩ : ∃ y, o'[p + 1]? = some y := ⟨_, List.getElem?_eq_getElem (by omega)⟩
          obtain ⟨gb, cap, e, hgb, _⟩ := HO6.out.form (by omega)
          cases e
          have hcp := (HO6.out.cellAt p (by omega)).trans (by rw [List.getElem?_map, hx]; rfl : (o'.map (Value.int .i64))[p]? = some (.int .i64 x))
          have hcq := (HO6.out.cellAt (p + 1) (by omega)).trans (by rw [List.getElem?_map, hy]; rfl : (o'.map (Value.int .i64))[p + 1]? = some (.int .i64 y))
          have ep := cell_regrown hcp
          have eq := cell_regrown hcq
          have HX := Lib.hid hx
          have HY := Lib.hid hy
          have HTr := Lib.hid (HT.out.later HB6.out)
          have HCx : Hid (∀ V, Below wr.heap.size wr V → Calls Tryz.prog 23 #[.agg #[t.c0, t.c1, t.c2, t.c3, t.c4, t.c5, t.c6, t.c7, t.c8, t.c9, t.c10, t.c11], .int .i64 x] V fun e V' => e = .returned (.int .i64 (f x)) ∧ Below V.heap.size V V') := Lib.hid fun V hV => HC.out tb V x (HTr.out.later hV)
          have HCy : Hid (∀ V, Below wr.heap.size wr V → Calls Tryz.prog 23 #[.agg #[t.c0, t.c1, t.c2, t.c3, t.c4, t.c5, t.c6, t.c7, t.c8, t.c9, t.c10, t.c11], .int .i64 y] V fun e V' => e = .returned (.int .i64 (f y)) ∧ Below V.heap.size V V') := Lib.hid fun V hV => HC.out tb V y (HTr.out.later hV)
          have w0 : IntKind.i64.wrap (((p + 1 : Nat) : Int) - 1) = (p : Int) := by rw [IntWalk.i64_in _ (by omega)]; omega
          have w2 : ((p + 1 : Nat) : Int) - 1 = (p : Int) := by omega
          have k2 : (0 : Int) ≤ ((p + 1 : Nat) : Int) := by omega
          have k3 : (0 : Int) ≤ (p : Int) := by omega
          have k4 : (p : Int) < (xs.length : Int) := by omega
          have k5 : ((p + 1 : Nat) : Int) < (xs.length : Int) := by omega
          clear hx hy hcp hcq hol
          go_upto_region 8 with fail
          obtain ⟨x0, x1, x2, x3, x4, x5, x6, x7, x8, x9, x10, x11⟩ := HTr.out.1.tabG
          refine wp_region_quiet_below (by kernel_rfl) (by kernel_rfl) ?_
          repeat (go_big_quiet_step (first | (go_at_call 23; with_reducible exact quiet_t HCx.out) | (go_at_call 23; with_reducible exact quiet_t HCy.out)))
          refine wpQuiet_nil ?_
          rintro _ ⟨⟨dq, osq⟩, rfl⟩
          have b7 := below_regrown wr dq osq
          clear x0 x1 x2 x3 x4 x5 x6 x7 x8 x9 x10 x11 ep eq HCx HCy HTr
          have HO7 := Lib.hid (own_later HO6.out b7)
          have HB7 := Lib.hid (below_then HB6.out (Nat.le_refl _) b7)
          generalize Go.Sort.grow (redrawn wr dq) osq = w7 at *
          clear HO6 HB6 b7
          by_cases h8 : 0 < f y
          · by_cases h9 : f y < f x
            · have g8 : decide (0 < f y) = true := decide_eq_true h8
              have g9 : decide (f y < f x) = true := decide_eq_true h9
              have HN := Lib.hid (HI.out.swap HF.out HX.out HY.out h8 h9)
              have hcp := (HO7.out.cellAt p (by omega)).trans (by rw [List.getElem?_map, HX.out]; rfl : (o'.map (Value.int .i64))[p]? = some (.int .i64 x))
              have hcq := (HO7.out.cellAt (p + 1) (by omega)).trans (by rw [List.getElem?_map, HY.out]; rfl : (o'.map (Value.int .i64))[p + 1]? = some (.int .i64 y))
              have fp := HO7.out.frozenAt p
              have fq := HO7.out.frozenAt (p + 1)
              go_wp2_with fail
              go_region
              clear hcp hcq fp fq
              have HO8 : Hid (((w7.setCell ⟨gb, p, none⟩ (.int .i64 y)).setCell ⟨gb, p + 1, none⟩ (.int .i64 x)).drew.ownsRow w1.heap.size 3 1 (.slice (some ⟨gb, 0, none⟩) xs.length c5) xs.length ((swapL o' p x y).map (Value.int .i64))) := by
                have h := ((HO7.out.stored p (.int .i64 y)).1.stored (p + 1) (.int .i64 x)).1
                rw [← List.map_set, ← List.map_set, List.set_comm _ _ (by omega : p ≠ p + 1)] at h
                exact Lib.hid h.drew
              have HB8 : Hid (Below w1.heap.size w1 ((w7.setCell ⟨gb, p, none⟩ (.int .i64 y)).setCell ⟨gb, p + 1, none⟩ (.int .i64 x)).drew) := Lib.hid (((HB7.out.setCell (p := ⟨gb, p, none⟩) hgb _).setCell (p := ⟨gb, p + 1, none⟩) hgb _).drew)
              generalize ((w7.setCell ⟨gb, p, none⟩ (.int .i64 y)).setCell ⟨gb, p + 1, none⟩ (.int .i64 x)).drew = w8 at *
              go_wp2_with fail
              go_roundw
              case rel => exact ⟨p + 1, swapL o' p x y, true, by go_num, rfl, HN, HO8, HB8, by omega⟩
              case measure => simp [intOf]; omega
            · have g8 : decide (0 < f y) = true := decide_eq_true h8
              have g9 : decide (f y < f x) = false := decide_eq_false h9
              have HN := Lib.hid (HI.out.next HX.out HY.out (fun e => h9 e.2))
              go_wp2_with fail
              go_roundw
              case rel => exact ⟨p + 1, o', more, by go_num, rfl, HN, HO7, HB7, by omega⟩
              case measure => simp [intOf]; omega
          · have g8 : decide (0 < f y) = false := decide_eq_false h8
            have HN := Lib.hid (HI.out.next HX.out HY.out (fun e => h8 e.1))
            go_wp2_with fail
            go_roundw
            case rel => exact ⟨p + 1, o', more, by go_num, rfl, HN, HO7, HB7, by omega⟩
            case measure => simp [intOf]; omega
        · have k5 : ¬ ((p + 1 : Nat) : Int) < (xs.length : Int) := by omega
          have HE : Hid (o'.length = xs.length ∧ can f o' = can f xs ∧ (more = false → SortN f xs.length o') ∧ (more = true → leftO f o' < leftO f o)) := Lib.hid ⟨HI.out.len, HI.out.can, fun h => (fun i x y h1 => (HI.out.no h).2 i x y (by omega)), HI.out.yes⟩
          go_wp2_with fail
          go_roundg (leftO f o)
          case measure => exact HG.out
          case rel => exact ⟨o', more, rfl, HE, HO6, HB6⟩
end Go.Proofs.YtecpbicfiaifdaaGreatDoor
/-
  The walk through the reference's NFD.
-/
namespace Go.Proofs.YtecpbicfiaifdaaGreatDoor
open Go.RowKit ND

set_option maxRecDepth 100000 in
set_option maxHeartbeats 2000000 in
theorem refNfd_any (t : Tv) (T : Tab) (v : Value) (xs : List Int) (w : World) (ht : TabR w w.heap.size t T) (hv : Ints w w.heap.size .i64 v xs) :
    Calls Tryz.prog 14 #[t.val, v] w (RetTwo w (nfdR T (accE T xs) xs).1 (nfdR T (accE T xs) xs).2) := by
  obtain ⟨A, c, rfl, _⟩ := id hv
  have HB0 : Hid (Below w.heap.size w (w.alloc (.cells t.cells 26))) := Lib.hid ((Below.refl _ _).alloc (Nat.le_refl _) _)
  have HT : Hid (Tbl (w.alloc (.cells t.cells 26)) w.heap.size t T) := Lib.hid ⟨Blk.new _ _ _, ht.later HB0.out⟩
  have HV := Lib.hid (hv.later HB0.out)
  clear ht hv
  have HO := Lib.hid (refAcc_any t T _ xs _ HT.out.2 HV.out)
  by_cases h0 : accE T xs = 0
  · obtain ⟨hck, hlen, _⟩ := accE_zero h0
    have hD := decOk_of hck
    have HX : Hid (∀ (b : Nat) (W : World) (x : Int), Tbl W b t T → Calls Tryz.prog 49 #[.agg #[t.c0, t.c1, t.c2, t.c3, t.c4, t.c5, t.c6, t.c7, t.c8, t.c9, t.c10, t.c11], .int .i64 x] W (RetInts W (expandL T x))) := Lib.hid fun b W x h => refExpand_any t T hD x W h.2
    have HXL := Lib.hid (fun x => (expandL_len hD x).2)
    have HFL := Lib.hid (fun l => (flatD_len hD l).2)
    have HOD := Lib.hid (fun W u (h : TabR W W.heap.size t T) hl hi => ordered_any t T u (flatD T xs) W h hck hl hi)
    have HND : Hid (can T.classOf (flatD T xs) = nfdL T xs) := Lib.hid rfl
    have HEF : Hid (4096 < (flatD T xs).length → nfdR T (accE T xs) xs = ([], 7)) := Lib.hid (by rw [h0]; exact fun h => nfdR_full h)
    have HEO : Hid ((flatD T xs).length ≤ 4096 → nfdR T (accE T xs) xs = (nfdL T xs, 0)) := Lib.hid (by rw [h0]; exact fun h => nfdR_ok h)
    rw [h0] at HO
    generalize nfdR T (accE T xs) xs = R at *
    clear h0 hck hD
    go_enter Tryz.func14, Tryz.ntmps14
    go_upto_region 1 with fail
    generalize w.alloc (.cells t.cells 26) = w1 at *
    obtain ⟨x0, x1, x2, x3, x4, x5, x6, x7, x8, x9, x10, x11⟩ := HT.out.1.tab
    go_upto_region 2 with (go_at_call 48; refine HO.out.mono ?_; rintro e w2 ⟨rfl, b2⟩)
    clear x0 x1 x2 x3 x4 x5 x6 x7 x8 x9 x10 x11
    obtain ⟨tb, htb⟩ : ∃ tb, w.heap.size = tb := ⟨_, rfl⟩
    have HT2 : Hid (Tbl w2 tb t T) := Lib.hid (htb ▸ HT.out.later b2)
    have HV2 := Lib.hid (HV.out.later b2)
    have HB2 := Lib.hid (below_next HB0.out b2)
    simp only [htb]
    clear HT HV HB0 HO b2
    obtain ⟨i0, hi, hz0, hz1, hz2⟩ := info_parts Tryz.infoInt'
    go_wp2_with fail
    go_loopw [18, 7] (fun s23 s9 wr => ∃ (k : Nat) (A9 : Option Addr) (c9 : Nat), k ≤ xs.length ∧ s23 = .int .i64 k ∧ s9 = .slice A9 (flatD T (xs.take k)).length c9 ∧ Hid (wr.ownsRow w2.heap.size 3 1 (.slice A9 (flatD T (xs.take k)).length c9) (flatD T (xs.take k)).length ((flatD T (xs.take k)).map (Value.int .i64))) ∧ Hid (Below w2.heap.size w2 wr)) (fun i _ _ => xs.length - (intOf i).toNat)
    case atStart => exact ⟨0, none, 0, by omega, rfl, rfl, Lib.hid (World.ownsRow_nil _ _ _ _), Lib.hid (Below.refl _ _)⟩
    case round =>
      obtain ⟨k, A9, c9, hk, rfl, rfl, HOr, HBr⟩ := hrel
      have hal := HFL.out (xs.take k)
      rw [List.length_take_of_le hk] at hal
      by_cases hlt : k < xs.length
      · obtain ⟨x, hxk, _⟩ := get_of hlt
        obtain ⟨_, _, hve, _, _, _, hcell⟩ := HV2.out
        cases hve
        obtain ⟨ad, rfl, ha, hce⟩ := hcell k x hxk
        have e1 := (HBr.out.cell (p := ad.add k) (by rw [block_of_add]; exact ha)).trans hce
        have HX2 := Lib.hid hxk
        have k0 : (0 : Int) ≤ (k : Int) := by omega
        have k1 : (k : Int) < (xs.length : Int) := by omega
        have HTr := Lib.hid (HT2.out.later HBr.out)
        have hml := HXL.out x
        have HMx := Lib.hid (HX.out tb wr x HTr.out)
        have HN := Lib.hid (flatD_step (T := T) HX2.out)
        clear hcell hxk ha hce
        generalize flatD T (xs.take k) = acc at *
        generalize expandL T x = ml at *
        obtain ⟨x0, x1, x2, x3, x4, x5, x6, x7, x8, x9, x10, x11⟩ := HTr.out.1.tab
        go_wp2_with (first
          | (go_at_call 49; refine HMx.out.mono ?_; rintro e w7 ⟨u7, rfl, hi7, b7⟩; obtain ⟨A7, c7, rfl, _⟩ := id hi7; have HI7 := Lib.hid hi7; have HO7 := Lib.hid (own_later HOr.out b7); have HB7 := Lib.hid (below_then HBr.out (Nat.le_refl _) b7); clear hi7 b7)
          | (at_builtin; refine wpList_append_ints (by rfl) (.tmp 22) (.tmp 25) rfl Tryz.underlying22 hi hz0 hz1 hz2 w7.heap.size w2.heap.size (.slice A9 acc.length c9) acc (.slice A7 ml.length c7) ml rfl HO7.out rfl HI7.out (by omega) HB7.out.size ?_; intro v6 w6 ho6 hg6 _; obtain ⟨A6, c6, rfl, _⟩ := id (Ints.of_own ho6); have HO6 := Lib.hid ho6; have HB6 := Lib.hid (HB7.out.grown hg6 HB7.out.size (fun q hq => (HO7.out.lt q hq).1)); clear ho6 hg6))
        go_roundw
        case rel => exact ⟨k + 1, A6, c6, by omega, by go_num, by rw [HN.out, List.length_append], Lib.hid (by rw [HN.out]; exact HO6.out), HB6⟩
        case measure => simp [intOf]; omega
      · have ht : xs.take k = xs := List.take_of_length_le (by omega)
        rw [ht] at HOr hal ⊢
        clear ht
        by_cases hfl : 4096 < (flatD T xs).length
        · have HR := Lib.hid (HEF.out hfl)
          have g : (4096 : Int) < ((flatD T xs).length : Int) := by omega
          clear hfl
          generalize flatD T xs = acc at *
          go_wp2_with fail
          go_ret2
          rw [HR.out]
          exact ⟨_, rfl, World.ownsRow_nil _ _ _ _, below_next HB2.out HBr.out⟩
        · have HR := Lib.hid (HEO.out (by omega))
          have g : ¬ (4096 : Int) < ((flatD T xs).length : Int) := by omega
          have HTr := Lib.hid (HT2.out.later HBr.out)
          have HDx := Lib.hid (HOD.out wr _ HTr.out.2 (by omega) (Ints.of_own HOr.out))
          rw [HND.out] at HDx
          clear hfl
          generalize flatD T xs = acc at *
          generalize nfdL T xs = nl at *
          obtain ⟨x0, x1, x2, x3, x4, x5, x6, x7, x8, x9, x10, x11⟩ := HTr.out.1.tab
          go_wp2_with (go_at_call 50; refine HDx.out.mono ?_; rintro e w8 ⟨u8, rfl, ho8, b8⟩)
          go_ret2
          rw [HR.out]
          exact ⟨_, rfl, row_le ho8 (by have := HB2.out.size; have := HBr.out.size; omega), below_next HB2.out (below_then HBr.out (Nat.le_refl _) b8)⟩
  · have HE : Hid (nfdR T (accE T xs) xs = ([], accE T xs)) := Lib.hid (nfdR_err h0)
    have hb : (accE T xs != 0) = true := by simpa using h0
    clear h0
    go_enter Tryz.func14, Tryz.ntmps14
    go_upto_region 1 with fail
    generalize w.alloc (.cells t.cells 26) = w1 at *
    obtain ⟨x0, x1, x2, x3, x4, x5, x6, x7, x8, x9, x10, x11⟩ := HT.out.1.tab
    go_wp2_with (go_at_call 48; refine HO.out.mono ?_; rintro e w2 ⟨rfl, b2⟩)
    go_ret2
    rw [HE.out]
    exact ⟨_, rfl, World.ownsRow_nil _ _ _ _, below_next HB0.out b2⟩

end Go.Proofs.YtecpbicfiaifdaaGreatDoor
/-
  The walk through the reference's Same.
-/
namespace Go.Proofs.YtecpbicfiaifdaaGreatDoor
open Go.RowKit ND

set_option maxRecDepth 100000 in
set_option maxHeartbeats 1000000 in
theorem refSame_any (v u : Value) (xs ys : List Int) (w : World) (hv : Ints w w.heap.size .i64 v xs) (hu : Ints w w.heap.size .i64 u ys) :
    Calls Tryz.prog 54 #[v, u] w fun e w' => e = .returned (.bool (decide (xs = ys))) ∧ Below w.heap.size w w' := by
  obtain ⟨A, c, rfl, hc1, hc2, _, hcell⟩ := hv
  obtain ⟨A', c', rfl, hc1', hc2', _, hcell'⟩ := hu
  have HC := Lib.hid hcell; clear hcell
  have HC' := Lib.hid hcell'; clear hcell'
  have hl : xs.length ≤ 9223372036854775807 := by unfold maxLen at hc2; omega
  clear hc2 hc2' hc1 hc1'
  by_cases hlen : xs.length = ys.length
  · have hb : ((xs.length : Int) != (ys.length : Int)) = false := by rw [hlen]; simp
    have hl1 : xs.length ≤ ys.length := by omega
    have hl2 : ys.length ≤ xs.length := by omega
    clear hlen
    obtain ⟨R, hR⟩ : ∃ R, R = decide (xs = ys) := ⟨_, rfl⟩
    rw [← hR]
    have HR := Lib.hid hR; clear hR
    go_enter Tryz.func54, Tryz.ntmps54
    go_wp2_with fail
    go_loopw [13] (fun i wr => ∃ k : Nat, k ≤ xs.length ∧ i = .int .i64 k ∧ Hid (xs.take k = ys.take k) ∧ Below w.heap.size w wr) (fun i _ => xs.length - (intOf i).toNat)
    case atStart => exact ⟨0, by omega, rfl, Lib.hid (by simp), Below.refl _ _⟩
    case round =>
      obtain ⟨k, hk, rfl, HS, hbel⟩ := hrel
      by_cases hlt : k < xs.length
      · obtain ⟨x, hxk, _⟩ := get_of hlt
        obtain ⟨y, hyk, _⟩ := get_of (show k < ys.length by omega)
        obtain ⟨ad, rfl, ha, hce⟩ := HC.out k x hxk
        obtain ⟨ad', rfl, ha', hce'⟩ := HC'.out k y hyk
        have e1 := (hbel.cell (p := ad.add k) (by rw [block_of_add]; exact ha)).trans hce
        have e2 := (hbel.cell (p := ad'.add k) (by rw [block_of_add]; exact ha')).trans hce'
        have HX := Lib.hid hxk
        have HY := Lib.hid hyk
        clear hce hce' hxk hyk ha ha'
        have k0 : (0 : Int) ≤ (k : Int) := by omega
        have k1 : (k : Int) < (xs.length : Int) := by omega
        have k2 : (k : Int) < (ys.length : Int) := by omega
        by_cases hxy : x = y
        · have hb2 : (x != y) = false := by rw [hxy]; simp
          have HT := Lib.hid (same_step HS.out HX.out (by rw [hxy]; exact HY.out))
          clear hxy
          go_wp2_with fail
          go_quiet (fail)
          go_wp2_with fail
          go_roundw
          case rel => exact ⟨k + 1, by omega, by go_num, HT, below_drewN hbel nq⟩
          case measure => simp [intOf]; omega
        · have hb2 : (x != y) = true := by rw [bne_iff_ne]; exact hxy
          have HN : Hid (R = false) := by
            refine Lib.hid ?_
            rw [HR.out, decide_eq_false_iff_not]
            rintro rfl
            have := HX.out.symm.trans HY.out
            simp at this
            exact hxy this
          clear hxy
          go_wp2_with fail
          go_quiet (fail)
          go_wp2_with fail
          go_ret
          rw [HN.out]
          exact ⟨rfl, below_drewN hbel nq⟩
      · have HN : Hid (R = true) := by
          refine Lib.hid ?_
          rw [HR.out, decide_eq_true_iff]
          have h := HS.out
          rw [List.take_of_length_le (by omega), List.take_of_length_le (by omega)] at h
          exact h
        go_wp2_with fail
        go_ret
        rw [HN.out]
        exact ⟨rfl, hbel⟩
  · have hb : ((xs.length : Int) != (ys.length : Int)) = true := by rw [bne_iff_ne]; omega
    have hn : decide (xs = ys) = false := by
      rw [decide_eq_false_iff_not]; rintro rfl; exact hlen rfl
    rw [hn]
    clear hn hlen
    go_enter Tryz.func54, Tryz.ntmps54
    go_wp2_with fail
    go_ret
    exact ⟨rfl, Below.refl _ _⟩
end Go.Proofs.YtecpbicfiaifdaaGreatDoor
/-
  Whether a sequence is in normalization form D.
-/
namespace Go.Proofs.YtecpbicfiaifdaaGreatDoor
open Go.RowKit ND

/-- Whether a sequence is in normalization form D. -/
def isNfdB (T : Tab) (xs : List Int) : Bool := (nfdR T (accE T xs) xs).2 == 0 && decide ((nfdR T (accE T xs) xs).1 = xs)
end Go.Proofs.YtecpbicfiaifdaaGreatDoor
/-
  The walk through the reference's IsNFD.
-/
namespace Go.Proofs.YtecpbicfiaifdaaGreatDoor
open Go.RowKit ND

set_option maxRecDepth 100000 in
set_option maxHeartbeats 1000000 in
theorem refIsNfd_any (t : Tv) (T : Tab) (v : Value) (xs : List Int) (w : World) (ht : TabR w w.heap.size t T) (hv : Ints w w.heap.size .i64 v xs) :
    Calls Tryz.prog 18 #[t.val, v] w fun e w' => e = .returned (.bool (isNfdB T xs)) ∧ Below w.heap.size w w' := by
  obtain ⟨A, c, rfl, _⟩ := id hv
  have HB0 : Hid (Below w.heap.size w (w.alloc (.cells t.cells 26))) := Lib.hid ((Below.refl _ _).alloc (Nat.le_refl _) _)
  have HT : Hid (Tbl (w.alloc (.cells t.cells 26)) w.heap.size t T) := Lib.hid ⟨Blk.new _ _ _, ht.later HB0.out⟩
  have HV := Lib.hid (hv.later HB0.out)
  have HO := Lib.hid (refNfd_any t T _ xs _ HT.out.2 HV.out)
  clear hv ht
  unfold isNfdB
  obtain ⟨ys, er, hr⟩ : ∃ ys er, nfdR T (accE T xs) xs = (ys, er) := ⟨_, _, rfl⟩
  rw [hr] at HO ⊢
  clear hr
  show Calls _ _ _ _ fun e w' => e = .returned (.bool (er == 0 && decide (ys = xs))) ∧ _
  obtain ⟨R, hR⟩ : ∃ R, R = decide (ys = xs) := ⟨_, rfl⟩
  have HR := Lib.hid hR
  rw [← hR]
  clear hR
  go_enter Tryz.func18, Tryz.ntmps18
  go_upto_region 1 with fail
  generalize w.alloc (.cells t.cells 26) = w1 at *
  obtain ⟨x0, x1, x2, x3, x4, x5, x6, x7, x8, x9, x10, x11⟩ := HT.out.1.tab
  go_upto_region 2 with (go_at_call 14; refine HO.out.mono ?_; rintro e w2 ⟨u, rfl, ho2, b2⟩; obtain ⟨A2, c2, rfl, _⟩ := id (Ints.of_own ho2); have HU := Lib.hid (Ints.of_own ho2); clear ho2)
  have HEQ : Hid (∀ V, Below w2.heap.size w2 V → Calls Tryz.prog 54 #[.slice A2 ys.length c2, .slice A xs.length c] V fun e V' => e = .returned (.bool R) ∧ Below V.heap.size V V') := Lib.hid fun V hV => by
    have h := refSame_any _ _ ys xs V (HU.out.later hV) ((HV.out.later b2).later hV)
    rw [← HR.out] at h; exact h
  clear x0 x1 x2 x3 x4 x5 x6 x7 x8 x9 x10 x11
  by_cases h0 : er = 0
  · have hb : (er == 0) = true := by rw [h0]; rfl
    clear h0
    go_wp2_with (go_at_call 54; refine (HEQ.out _ (Below.refl _ _)).mono ?_; rintro e w3 ⟨rfl, b3⟩)
    go_ret
    exact ⟨by rw [hb]; rfl, below_next (below_next HB0.out b2) b3⟩
  · have hb : (er == 0) = false := by simpa using h0
    clear h0
    go_wp2_with fail
    go_ret
    exact ⟨by rw [hb]; rfl, below_next HB0.out b2⟩
end Go.Proofs.YtecpbicfiaifdaaGreatDoor
/-
  Short sequences have a normalization form D.
-/
namespace Go.Proofs.YtecpbicfiaifdaaGreatDoor
open Go.RowKit ND

theorem nfd7_eq (t : Tv) (T : Tab) (v : Value) (xs : List Int) (w : World) (r : List Int × Int) (ht : TabR w w.heap.size t T) (hg : Glob w) (hv : Ints w w.heap.size .i64 v xs) (hr : nfdR T (accE T xs) xs = r) :
    Calls Tryz.prog 52 #[t.val, v] w (RetTwo w r.1 r.2) := by subst hr; exact nfd7_any t T v xs w ht hg hv
/-- A short sequence of scalar values has a normalization form D. -/
theorem nfd_short {T : Tab} (hck : T.check = 0) {l : List Int} (hs : l.all scalarB = true) (hl : l.length ≤ 200) : nfdR T (accE T l) l = (nfdL T l, 0) := by
  have h1 := (flatD_len (decOk_of hck) l).2
  rw [accE_ok hck (by omega) hs]; exact nfdR_ok (by omega)
theorem nfd_len {T : Tab} (hck : T.check = 0) (l : List Int) : (nfdL T l).length ≤ 18 * l.length := by
  rw [nfdL_length]; exact (flatD_len (decOk_of hck) l).2
end Go.Proofs.YtecpbicfiaifdaaGreatDoor
/-
  The walk through one sequence of table.
-/
namespace Go.Proofs.YtecpbicfiaifdaaGreatDoor
open Go.RowKit ND

set_option maxRecDepth 100000 in
set_option maxHeartbeats 400000 in
theorem prototype_any (t : Tv) (T : Tab) (c : Int) (w : World) (ht : TabR w w.heap.size t T) (hs : sortM T.prototypes) (hne : ∀ m ∈ T.prototypes, m.2 ≠ [] ∧ m.2.length ≤ 1000) (hlen : T.prototypes.length ≤ 256) :
    Calls Tryz.prog 78 #[t.val, .int .i64 c] w (RetSeq w (findL T.prototypes c)) := by
  have HP := Lib.hid (fun W (h : Mapps W W.heap.size t.c11 T.prototypes) => find_any t.c11 T.prototypes c W h hs (fun m hm => (hne m hm).1) hlen)
  have HS := Lib.hid (find_len (c := c) (fun m hm => (hne m hm).2))
  have hr := ht.r11
  have HR := Lib.hid (fun o : Obj => hr.later ((Below.refl _ _).alloc (Nat.le_refl _) o))
  clear hr ht hs hlen hne
  go_enter Tryz.func78, Tryz.ntmps78
  go_wp2_with fail
  refine (HP.out _ (HR.out _)).mono ?_
  rintro e w1 ⟨v, rfl, hv, hn, b1⟩
  go_wp2_with fail
  refine (copied_any v _ w1 hv HS.out).mono ?_
  rintro e w2 ⟨v', rfl, hv', hn', b2⟩
  go_wp2_with fail
  go_ret
  exact ⟨_, rfl, hv', hn', below_next ((Below.refl _ _).alloc (Nat.le_refl _) _) (below_next b1 b2)⟩
end Go.Proofs.YtecpbicfiaifdaaGreatDoor
/-
  The walk through the reference's Prototype.
-/
namespace Go.Proofs.YtecpbicfiaifdaaGreatDoor
open Go.RowKit ND

set_option maxRecDepth 100000 in
set_option maxHeartbeats 400000 in
theorem refPrototype_any (t : Tv) (T : Tab) (c : Int) (w : World) (ht : TabR w w.heap.size t T) :
    Calls Tryz.prog 20 #[t.val, .int .i64 c] w (RetInts w (findL T.prototypes c)) := by
  have HR := Lib.hid (fun o : Obj => ht.r11.later ((Below.refl _ _).alloc (Nat.le_refl _) o))
  clear ht
  go_enter Tryz.func20, Tryz.ntmps20
  go_wp2_with fail
  refine (refFind_any t.c11 T.prototypes c _ (HR.out _)).mono ?_
  rintro e w1 ⟨v, rfl, hv, b1⟩
  go_wp2_with fail
  go_ret
  exact ⟨v, rfl, hv, below_next ((Below.refl _ _).alloc (Nat.le_refl _) _) b1⟩
end Go.Proofs.YtecpbicfiaifdaaGreatDoor
/-
  The walk through the reference's Acceptable.
-/
namespace Go.Proofs.YtecpbicfiaifdaaGreatDoor
open Go.RowKit ND

set_option maxRecDepth 100000 in
set_option maxHeartbeats 1000000 in
theorem refAccept_any (t : Tv) (T : Tab) (v : Value) (xs : List Int) (w : World) (ht : TabR w w.heap.size t T) (hv : Ints w w.heap.size .i64 v xs) :
    Calls Tryz.prog 81 #[t.val, v] w fun e w' => e = .returned (.int .i64 (accE T xs)) ∧ Below w.heap.size w w' := by
  obtain ⟨A, c, rfl, _⟩ := id hv
  have HB0 : Hid (Below w.heap.size w (w.alloc (.cells t.cells 26))) := Lib.hid ((Below.refl _ _).alloc (Nat.le_refl _) _)
  have HT : Hid (Tbl (w.alloc (.cells t.cells 26)) w.heap.size t T) := Lib.hid ⟨Blk.new _ _ _, ht.later HB0.out⟩
  have HV := Lib.hid (hv.later HB0.out)
  clear ht hv
  have HO := Lib.hid (refAcc_any t T _ xs _ HT.out.2 HV.out)
  go_enter Tryz.func81, Tryz.ntmps81
  go_upto_region 1 with fail
  generalize w.alloc (.cells t.cells 26) = w1 at *
  obtain ⟨x0, x1, x2, x3, x4, x5, x6, x7, x8, x9, x10, x11⟩ := HT.out.1.tab
  go_wp2_with (go_at_call 48; refine HO.out.mono ?_; rintro e w2 ⟨rfl, b2⟩)
  go_ret
  exact ⟨rfl, below_next HB0.out b2⟩
end Go.Proofs.YtecpbicfiaifdaaGreatDoor
/-
  The walk through the reference's Length.
-/
namespace Go.Proofs.YtecpbicfiaifdaaGreatDoor
open Go.RowKit ND

set_option maxHeartbeats 400000 in
theorem refLength_any (c : Int) (w : World) : Calls Tryz.prog 103 #[.int .i64 c] w fun e w' => e = .returned (.int .i64 (lenC c : Int)) ∧ w = w' := by
  cases h : scalarB c
  · have hc := Lib.hid (fun w => refScalar_any c w)
    rw [h] at hc
    rw [lenC_no h]
    clear h
    go_enter Tryz.func103, Tryz.ntmps103
    go_wp2_with (go_at_call 70; refine (hc.out _).mono ?_; rintro e w' ⟨rfl, rfl⟩)
    go_ret
    exact ⟨rfl, rfl⟩
  · have hc := Lib.hid (fun w => refScalar_any c w)
    rw [h] at hc
    rw [lenC_yes h]
    clear h
    go_enter Tryz.func103, Tryz.ntmps103
    go_wp2_with (go_at_call 70; refine (hc.out _).mono ?_; rintro e w' ⟨rfl, rfl⟩)
    all_goals go_ret
    all_goals refine ⟨ret_int ?_, rfl⟩
    all_goals (repeat (first | rfl | rw [if_pos (by omega)] | rw [if_neg (by omega)]))
end Go.Proofs.YtecpbicfiaifdaaGreatDoor
