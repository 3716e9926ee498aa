/-
  Merged texts: lemmas and walks that the last text of this claim leans on.
-/
import Derived.Test.YtecpbicfiaifdaaDoorMgB724
import Derived.Test.YtecpbicfiaifdaaDoorMgB715
import Derived.Test.YtecpbicfiaifdaaDoorMgB75
import Derived.Test.YtecpbicfiaifdaaDoorMgB719
import Derived.Test.YtecpbicfiaifdaaDoorMgB723
import Derived.Test.YtecpbicfiaifdaaDoorMgB721
/-
  The walk through the words of the laws of layer 21.
-/
namespace Go.Proofs.YtecpbicfiaifdaaDoor
open Go.RowKit ND

def lit21 : List Int := [97, 109, 114, 110, 1072, 945, 111, 48, 769, 7680, 173]
theorem lit21_scal : ∀ c ∈ lit21, scalarB c = true := by decide
theorem LRowA.nil2 {w : World} {base g : Nat} (hg : g < w.heap.size) : LRowA w base (.slice none 0 0) [] (some g) := ⟨[], rfl, World.ownsRow_nil _ _ _ _, fun i u ys h => by simp at h, (fun g h => by cases h), fun g' h => by cases h; exact hg⟩
/-- Nothing but the block g and new ones has turned. -/
theorem LRowA.only {w w' : World} {base g : Nat} {v : Value} {yss : List (List Int)} (h : LRowA w base v yss (some g)) (ho : onlyIn [g] w w') : LRowA w' base v yss (some g) := by
  have hlt := h.lt.2 g rfl
  have hs := ho.2.2.2.1
  exact LRowA.other (vo := .slice (some ⟨g, 0, none⟩) 0 1) (vo' := .slice (some ⟨g, 0, none⟩) 0 1) h ⟨ho, .inl rfl⟩ (fun q hq => by cases hq; exact Nat.lt_of_lt_of_le hlt hs)
/-- A few short sequences come back, in a row of the call's own. -/
def RetWrd (w : World) (e : Ending) (w' : World) : Prop :=
  ∃ (v : Value) (yss : List (List Int)), e = .returned v ∧ Lists w' w'.heap.size v yss ∧ yss.length ≤ 6 ∧ (∀ ys ∈ yss, ys.length ≤ 3 ∧ ys.all scalarB = true) ∧ Below w.heap.size w w'
set_option maxRecDepth 100000 in
set_option maxHeartbeats 8000000 in
theorem words21_any (w : World) (v : Value) (xs : List Int) (hv : Ints w w.heap.size .i64 v xs) (infoRow : (Tryd.prog.info? 24).map (fun i => (i.zero, i.size, i.bytes)) = some (some (.slice none 0 0), 1, 24)) : Calls Tryd.prog 17 #[v] w (RetWrd w) := by
  obtain ⟨i0, hi, hz0, hz1, hz2⟩ := info_parts Tryd.infoInt'
  obtain ⟨j0, hj, hy0, hy1, hy2⟩ := info_parts infoRow
  clear infoRow
  obtain ⟨A, c, rfl⟩ : ∃ A c, v = .slice A xs.length c := by obtain ⟨A, c, h, _⟩ := hv; exact ⟨A, c, h⟩
  go_enter Tryd.func17, Tryd.ntmps17
  go_wp2_with fail
  refine (from_any A xs.length c w).mono ?_
  rintro e w1 ⟨rfl, rfl⟩
  have hs1 : Src (w.alloc (.cells #[.slice A xs.length c, .int .i64 0] 72)) w.heap.size (.slice A xs.length c) xs.length := ⟨0, Nat.zero_le _, Blk.new w _ _⟩
  have hbel1 : Below w.heap.size w (w.alloc (.cells #[.slice A xs.length c, .int .i64 0] 72)) := (Below.refl _ _).alloc (Nat.le_refl _) _
  have hsz1 : w.heap.size + 1 ≤ (w.alloc (.cells #[.slice A xs.length c, .int .i64 0] 72)).heap.size := by simp
  generalize w.alloc (.cells #[.slice A xs.length c, .int .i64 0] 72) = w1 at *
  obtain ⟨g, hg⟩ : ∃ g, w.heap.size = g := ⟨_, rfl⟩
  rw [hg] at hv hs1 hbel1 hsz1
  simp only [hg]
  have hv1 := hv.below hbel1
  go_wp2_with fail
  refine (next_src w1 g _ xs 7 hv1 hs1 (by decide) (by decide)).mono ?_
  rintro e w2 ⟨r, rfl, hr0, hr1, hs2, hg2⟩
  have hbel2 := below_of_grown hbel1 hg2 (Nat.le_refl _) (by omega)
  have hsz2 := Nat.le_trans hsz1 hg2.size
  obtain ⟨m0, rfl⟩ := Int.eq_ofNat_of_zero_le hr0
  have hm0 : m0 ≤ 6 := by omega
  have HS2 := Lib.hid hs2
  have HB2 := Lib.hid hbel2
  have HV := Lib.hid hv
  have HG := Lib.hid hg
  clear hs2 hs1 hbel1 hsz1 hv1 hg2 hr0 hr1 hv hbel2 hg
  go_wp2_with fail
  go_loopw [4, 5] (fun t4 n wr => ∃ (m : Nat) (v4 : Value) (yss : List (List Int)), v4 = t4 ∧ n = .int .i64 m ∧ yss.length + m ≤ 6 ∧ Hid (LRowA wr (g + 1) v4 yss (some g)) ∧ Hid (∀ ys ∈ yss, ys.length ≤ 3 ∧ ys.all scalarB = true) ∧ Hid (Src wr g (.slice A xs.length c) xs.length) ∧ Hid (Below g w wr) ∧ g + 1 ≤ wr.heap.size) (fun _ n _ => (intOf n).toNat)
  case atStart => exact ⟨m0, _, [], rfl, rfl, by simpa using hm0, Lib.hid (LRowA.nil2 (by omega)), Lib.hid (by simp), HS2, HB2, hsz2⟩
  case round =>
    clear HS2 HB2 hsz2 hm0
    obtain ⟨m, v4, yss, rfl, rfl, hm, HL, HP, HS, HB, hsz⟩ := hrel
    by_cases hlt : 0 < m
    · have hv' := HV.out.below HB.out
      go_wp2_with fail
      refine (next_src wr g _ xs 4 hv' HS.out (by decide) (by decide)).mono ?_
      rintro e w3 ⟨r, rfl, hr0, hr1, hs3, hg3⟩
      obtain ⟨q0, rfl⟩ := Int.eq_ofNat_of_zero_le hr0
      have hq0 : q0 ≤ 3 := by omega
      have HS3 := Lib.hid hs3
      have HL3 := Lib.hid (HL.out.only (onlyIn.of_grown hg3 (by simp)))
      have HB3 := Lib.hid (below_of_grown HB.out hg3 (Nat.le_refl _) (by omega))
      have hsz3 := Nat.le_trans hsz hg3.size
      clear hv' hs3 hg3 hr0 hr1 HS HL HB hsz
      go_wp2_with fail
      go_loopw [6, 7] (fun t6 n wx => ∃ (q : Nat) (acc : List Int) (A6 : Option Addr) (c6 : Nat), t6 = .slice A6 acc.length c6 ∧ n = .int .i64 q ∧ acc.length + q ≤ 3 ∧ Hid (wx.ownsRow w3.heap.size 3 1 (.slice A6 acc.length c6) acc.length (acc.map (Value.int .i64))) ∧ Hid (acc.all scalarB = true) ∧ Hid (Src wx g (.slice A xs.length c) xs.length) ∧ Hid (onlyIn [g] w3 wx)) (fun _ n _ => (intOf n).toNat)
      case atStart => exact ⟨q0, [], none, 0, rfl, rfl, by simpa using hq0, Lib.hid (World.ownsRow_nil _ _ _ _), Lib.hid rfl, HS3, Lib.hid (onlyIn.refl _ _)⟩
      case round =>
        clear HS3 hq0
        obtain ⟨q, acc, A6, c6, rfl, rfl, hq, HO, HA, HS, HN⟩ := hrel
        have hszx : w3.heap.size ≤ wr.heap.size := HN.out.2.2.2.1
        have HBx := Lib.hid (HB3.out.trans (HN.out.below (B := g) (by simp) (by omega)))
        by_cases hlq : 0 < q
        · have hgl := grown_alloc wr (.cells #[.int .i64 97, .int .i64 109, .int .i64 114, .int .i64 110, .int .i64 1072, .int .i64 945, .int .i64 111, .int .i64 48, .int .i64 769, .int .i64 7680, .int .i64 173] 3) (some g)
          have hvx := HV.out.below (HBx.out.alloc (by omega) (.cells #[.int .i64 97, .int .i64 109, .int .i64 114, .int .i64 110, .int .i64 1072, .int .i64 945, .int .i64 111, .int .i64 48, .int .i64 769, .int .i64 7680, .int .i64 173] 3))
          go_wp2_with fail
          refine (next_src _ g _ xs 11 hvx (HS.out.alloc _) (by decide) (by decide)).mono ?_
          rintro e w5 ⟨s, rfl, hs0, hs1', hs5, hg5⟩
          have hk := cell_kept wr.heap.size (cells_new wr [.int .i64 97, .int .i64 109, .int .i64 114, .int .i64 110, .int .i64 1072, .int .i64 945, .int .i64 111, .int .i64 48, .int .i64 769, .int .i64 7680, .int .i64 173] 3) hg5 (by simp) (by have := HS.out.lt; omega)
          obtain ⟨j, rfl⟩ := Int.eq_ofNat_of_zero_le hs0
          have hjl : j < lit21.length := by show j < 11; omega
          obtain ⟨x, hx, hxm⟩ := get_of hjl
          have k0 := hk j (.int .i64 x) (by
            have h : (lit21.map (Value.int .i64))[j]? = some (.int .i64 x) := by rw [List.getElem?_map, hx]; rfl
            exact h)
          have hxs := lit21_scal x hxm
          have HA5 := Lib.hid (show (acc ++ [x]).all scalarB = true by rw [List.all_append, HA.out]; simp [hxs])
          have HO5 := Lib.hid (own_grown (HO.out.alloc (.cells #[.int .i64 97, .int .i64 109, .int .i64 114, .int .i64 110, .int .i64 1072, .int .i64 945, .int .i64 111, .int .i64 48, .int .i64 769, .int .i64 7680, .int .i64 173] 3)) hg5 (by omega))
          have HN5 := Lib.hid ((HN.out.trans (onlyIn.of_below ((Below.refl wr.heap.size wr).alloc (Nat.le_refl _) (.cells #[.int .i64 97, .int .i64 109, .int .i64 114, .int .i64 110, .int .i64 1072, .int .i64 945, .int .i64 111, .int .i64 48, .int .i64 769, .int .i64 7680, .int .i64 173] 3)))).trans (onlyIn.of_grown hg5 (by simp)))
          have HS5 := Lib.hid hs5
          have hsz5 : w3.heap.size ≤ w5.heap.size := HN5.out.2.2.2.1
          clear hk hx hxm hg5 hgl hs5 hvx HO HN HS HA hszx hxs
          go_wp2_with (at_builtin; refine wpList_append_ints (by rfl) (.tmp 22) (.tmp 28) rfl Tryd.underlying24 hi hz0 hz1 hz2 (w5.heap.size + 1) w3.heap.size (.slice A6 acc.length c6) acc (.slice (some ⟨w5.heap.size, 0, none⟩) 1 1) [x] rfl (HO5.out.alloc _) rfl (by have h := Ints.of_own (own_new w5 3 [x] (by simp)); simpa using h) (by simp; omega) (by simp; omega) ?_; intro v6 w6 ho6 hg6 _; obtain ⟨A7, c7, rfl, _⟩ := id (Ints.of_own ho6); have HO6 := Lib.hid ho6; have HS6 := Lib.hid ((HS5.out.alloc _).grown hg6 (fun hk => by have := (HO5.out.lt _ hk.symm).1; omega)); have HN6 := Lib.hid ((HN5.out.trans (onlyIn.of_below ((Below.refl w5.heap.size w5).alloc (Nat.le_refl _) (.cells #[.int .i64 x] 3)))).far hg6 (fun y hy => (HO5.out.lt y hy).1)); clear ho6 hg6)
          go_roundw
          case rel => exact ⟨q - 1, acc ++ [x], A7, c7, by simp, by go_num, by simp; omega, HO6, HA5, HS6, HN6⟩
          case measure => simp [intOf]; omega
        · have bl := (Below.refl wr.heap.size wr).alloc (Nat.le_refl _) (.cells #[.slice A6 acc.length c6] 24)
          have HLx := Lib.hid ((HL3.out.only HN.out).later bl)
          have HUx := Lib.hid ((Ints.of_own HO.out).later bl)
          have HD : Hid (∀ ad, A6 = some ad → ad.block < (wr.alloc (.cells #[.slice A6 acc.length c6] 24)).heap.size ∧ v4.ownBlock ≠ some ad.block ∧ some g ≠ some ad.block) := Lib.hid (fun ad ha => by
            have h1 := own_addr HO.out ad ha
            refine ⟨by simp; omega, fun h => ?_, fun h => ?_⟩
            · have := HL3.out.lt.1 _ h; omega
            · cases h; omega)
          have HP8 : Hid (∀ ys ∈ yss ++ [acc], ys.length ≤ 3 ∧ ys.all scalarB = true) := Lib.hid (fun ys hy => by
            rcases List.mem_append.1 hy with h | h
            · exact HP.out ys h
            · rw [List.mem_singleton] at h; subst h; exact ⟨by omega, HA.out⟩)
          have HBa := Lib.hid (HBx.out.alloc (by omega) (.cells #[.slice A6 acc.length c6] 24))
          have HSa := Lib.hid (HS.out.alloc (.cells #[.slice A6 acc.length c6] 24))
          clear bl HO HN HS HP HA
          go_wp2_with (at_builtin; refine wpList_append_sliceA (by rfl) (.tmp 30) (.tmp 32) rfl Tryd.underlying23 hj hy0 hy1 hy2 (g + 1) v4 yss ⟨wr.heap.size, 0, none⟩ A6 c6 acc rfl (some g) HLx.out rfl ((Blk.new wr 24 #[.slice A6 acc.length c6]).cell 0) HUx.out HD.out (by omega) (by simp; omega) ?_; intro v8 w8 hr8 hg8; have HL8 := Lib.hid hr8; have HS8 := Lib.hid (HSa.out.grown (grown_of_gr hg8) (fun e => HLx.out.apart g e.symm rfl)); have HB8 := Lib.hid (HBa.out.trans (hg8.below (fun y hy => by have := HLx.out.above y hy; omega) (by simp; omega))); have hsz8 : g + 1 ≤ w8.heap.size := (by have := hg8.1.2.2.2.1; simp at this; omega); clear hr8 hg8)
          go_roundw
          case rel => exact ⟨m - 1, _, yss ++ [acc], rfl, by go_num, by simp; omega, HL8, HP8, HS8, HB8, hsz8⟩
          case measure => simp [intOf]; omega
    · go_wp2_with fail
      go_ret
      exact ⟨_, yss, rfl, HL.out.toL.lists, by omega, HP.out, by rw [HG.out]; exact HB.out⟩
end Go.Proofs.YtecpbicfiaifdaaDoor
/-
  The walks through slices.IndexFunc, over whatever closure, and through the closure of Classes.
-/
namespace Go.Proofs.YtecpbicfiaifdaaDoor
open Go.RowKit ND

set_option maxRecDepth 100000 in
set_option maxHeartbeats 1000000 in
theorem indexFunc_any (g : Nat) (cb : Array Value) (v : Value) (yss : List (List Int)) (p : List Int → Bool) (w : World) (eg : ∀ args w, (callFunc g args).run Tryd.prog w = .ok (.enter g args) w) (hv : Lists w w.heap.size v yss) (hl : yss.length ≤ 1000000)
    (hf : ∀ W u ys, Below w.heap.size w W → Ints W W.heap.size .i64 u ys → Calls Tryd.prog g (#[u] ++ cb) W fun e W' => e = .returned (.bool (p ys)) ∧ Below W.heap.size W W') :
    Calls Tryd.prog 21 #[v, .func (.func g) #[] cb] w fun e w' => e = .returned (.int .i64 (idxGo p 0 yss)) ∧ Below w.heap.size w w' := by
  obtain ⟨A, c, rfl, hc1, hc2, _, hcell⟩ := hv
  have HC := Lib.hid hcell
  have HF := Lib.hid hf
  clear hcell hf hc1 hc2
  obtain ⟨R, hR⟩ : ∃ R, idxGo p 0 yss = R := ⟨_, rfl⟩
  have HR : Hid (idxGo p 0 (yss.drop 0) = R) := Lib.hid hR
  rw [hR]
  clear hR
  go_enter Tryd.func21, Tryd.ntmps21
  go_wp2_with fail
  go_loopw [8] (fun si wr => ∃ (j : Nat), j ≤ yss.length ∧ si = .int .i64 j ∧ Hid (idxGo p j (yss.drop j) = R) ∧ Hid (Below w.heap.size w wr)) (fun si _ => yss.length - (intOf si).toNat)
  case atStart => exact ⟨0, by omega, rfl, HR, Lib.hid (Below.refl _ _)⟩
  case round =>
    clear HR
    obtain ⟨j, hj, rfl, HS, HBr⟩ := hrel
    by_cases hlt : j < yss.length
    · obtain ⟨ys, hys⟩ : ∃ ys, yss[j]? = some ys := ⟨_, List.getElem?_eq_getElem hlt⟩
      obtain ⟨ad, u, rfl, ha, hce, hi⟩ := HC.out j ys hys
      have e1 := (HBr.out.cell (p := ad.add j) (by rw [block_of_add]; exact ha)).trans hce
      have HI := Lib.hid ((hi.below HBr.out).more HBr.out.size)
      have HCx := Lib.hid (HF.out wr u ys HBr.out HI.out)
      have HY := Lib.hid hys
      have j0 : (0 : Int) ≤ (j : Int) := by omega
      have j1 : (j : Int) < (yss.length : Int) := by omega
      clear hce hys hi ha
      obtain ⟨q, hq⟩ : ∃ q, p ys = q := ⟨_, rfl⟩
      rw [hq] at HCx
      cases q with
      | true =>
        have HN := Lib.hid (idx_hit HY.out HS.out hq)
        clear hq
        go_wp2_with fail
        refine HCx.out.mono ?_
        rintro e w5 ⟨rfl, b5⟩
        go_wp2_with fail
        go_ret
        rw [HN.out]
        exact ⟨rfl, below_then HBr.out (Nat.le_refl _) b5⟩
      | false =>
        have HN := Lib.hid (idx_go HY.out HS.out hq)
        clear hq
        go_wp2_with fail
        refine HCx.out.mono ?_
        rintro e w5 ⟨rfl, b5⟩
        go_wp2_with fail
        go_roundw
        case rel => exact ⟨j + 1, by omega, by go_num, HN, Lib.hid (below_then HBr.out (Nat.le_refl _) b5)⟩
        case measure => simp [intOf]; omega
    · have HN := Lib.hid (idx_end (by omega) HS.out)
      go_wp2_with fail
      go_ret
      rw [HN.out]
      exact ⟨rfl, HBr.out⟩
set_option maxRecDepth 100000 in
set_option maxHeartbeats 400000 in
theorem clos21_any (b : Nat) (As : Option Addr) (cs : Nat) (s : List Int) (u : Value) (ys : List Int) (W : World) (hb : Blk W b 24 #[.slice As s.length cs]) (hs : Ints W W.heap.size .i64 (.slice As s.length cs) s) (hu : Ints W W.heap.size .i64 u ys) :
    Calls Tryd.prog 22 #[u, .pointer (some ⟨b, 0, none⟩)] W fun e W' => e = .returned (.bool (decide (ys = s))) ∧ Below W.heap.size W W' := by
  have x0 := hb.cell 0
  have HE := Lib.hid (equal_any u _ ys s W hu hs)
  clear hb hs hu
  go_enter Tryd.func22, Tryd.ntmps22
  go_wp2_with (go_at_call 23; refine HE.out.mono ?_; rintro e w1 ⟨rfl, b1⟩)
  go_ret
  exact ⟨rfl, b1⟩
end Go.Proofs.YtecpbicfiaifdaaDoor
/-
  The walk through confuse.Classes.
-/
namespace Go.Proofs.YtecpbicfiaifdaaDoor
open Go.RowKit ND

theorem Tryd.infoRow : (Tryd.prog.info? 24).map (fun i => (i.zero, i.size, i.bytes)) = some (some (.slice none 0 0), 1, 24) := by kernel_rfl
set_option maxRecDepth 100000 in
set_option maxHeartbeats 8000000 in
theorem classes_any (t : Tv) (T : Tab) (v : Value) (yss : List (List Int)) (w : World) (ht : TabR w w.heap.size t T) (hg : Glob w) (hv : Lists w w.heap.size v yss) :
    Calls Tryd.prog 8 #[t.val, v] w (RetTwo w (classesR T yss).1 (classesR T yss).2) := by
  obtain ⟨A, c, rfl, _⟩ := id hv
  have HB0 : Hid (Below w.heap.size w (w.alloc (.cells t.cells 31))) := Lib.hid ((Below.refl _ _).alloc (Nat.le_refl _) _)
  have HT : Hid (Tbl (w.alloc (.cells t.cells 31)) w.heap.size t T) := Lib.hid ⟨Blk.new _ _ _, ht.later HB0.out⟩
  have HV := Lib.hid (hv.later HB0.out)
  have HG := Lib.hid (hg.later HB0.out)
  clear ht hv hg
  by_cases hbig : 256 < yss.length
  · have HR := Lib.hid (classesR_full (T := T) hbig)
    have g1 : (256 : Int) < (yss.length : Int) := by omega
    clear hbig
    generalize classesR T yss = R at *
    go_enter Tryd.func8, Tryd.ntmps8
    go_wp2_with fail
    go_ret2
    rw [HR.out]
    exact ⟨_, rfl, World.ownsRow_nil _ _ _ _, HB0.out⟩
  · have g1 : ¬ (256 : Int) < (yss.length : Int) := by omega
    have HRE := Lib.hid (fun e (h : firstE T yss = e) h2 => classesR_err (by omega) h h2)
    have HRO := Lib.hid (fun (h : firstE T yss = 0) => classesR_ok (T := T) (by omega) h)
    have hl6 : yss.length ≤ 256 := by omega
    clear hbig
    generalize classesR T yss = R at *
    go_enter Tryd.func8, Tryd.ntmps8
    go_upto_region 1 with fail
    generalize w.alloc (.cells t.cells 31) = w1 at *
    obtain ⟨tb, htb⟩ : ∃ tb, w.heap.size = tb := ⟨_, rfl⟩
    rw [htb] at HT
    simp only [htb]
    obtain ⟨i0, hi, hz0, hz1, hz2⟩ := info_parts Tryd.infoInt'
    obtain ⟨j0, hj, hy0, hy1, hy2⟩ := info_parts Tryd.infoRow
    have eg : ∀ args w, (callFunc 22 args).run Tryd.prog w = .ok (.enter 22 args) w := fun args w => by kernel_rfl
    have HEG := Lib.hid eg
    clear eg
    go_wp2_with fail
    go_loopw [18, 6, 7] (fun si t6 t7 wr => ∃ (k : Nat) (s6 s7 : Value), k ≤ yss.length ∧ si = .int .i64 k ∧ s6 = t6 ∧ s7 = t7 ∧ Hid (firstE T (yss.drop k) = firstE T yss) ∧ Hid (LRowA wr w1.heap.size s6 ((skels T yss).take k) s7.ownBlock) ∧ Hid (wr.ownsRow w1.heap.size 3 1 s7 ((classesL T yss).take k).length (((classesL T yss).take k).map (Value.int .i64))) ∧ Hid (Below w1.heap.size w1 wr)) (fun si _ _ _ => yss.length - (intOf si).toNat)
    case atStart => exact ⟨0, _, _, by omega, rfl, rfl, rfl, Lib.hid rfl, Lib.hid (LRowA.nil _ _), Lib.hid (World.ownsRow_nil _ _ _ _), Lib.hid (Below.refl _ _)⟩
    case round =>
      obtain ⟨k, s6, s7, hk, rfl, rfl, rfl, HE, HLr, HOr, HBr⟩ := hrel
      have HTr := Lib.hid (HT.out.later HBr.out)
      by_cases hlt : k < yss.length
      · obtain ⟨l, hl⟩ : ∃ l, yss[k]? = some l := ⟨_, List.getElem?_eq_getElem hlt⟩
        obtain ⟨_, _, hve, _, _, _, hcell⟩ := HV.out
        cases hve
        obtain ⟨ad, u, rfl, ha, hce, hil⟩ := hcell k l hl
        have e1 := (HBr.out.cell (p := ad.add k) (by rw [block_of_add]; exact ha)).trans hce
        have HIL := Lib.hid ((hil.below HBr.out).more HBr.out.size)
        have H1 := Lib.hid (skOf_any t T u l wr HTr.out.2 (HG.out.later HBr.out) HIL.out)
        have HL := Lib.hid hl
        have k0 : (0 : Int) ≤ (k : Int) := by omega
        have k1 : (k : Int) < (yss.length : Int) := by omega
        clear hcell hce hl hil ha HIL
        obtain ⟨s, er, hs⟩ : ∃ s er, skelR T l = (s, er) := ⟨_, _, rfl⟩
        rw [hs] at H1
        by_cases h0 : er = 0
        · subst h0
          have HE2 := Lib.hid (firstE_go HL.out HE.out hs)
          have HSS := Lib.hid (skels_snoc HL.out hs)
          have HCS := Lib.hid (classes_snoc HL.out hs)
          clear hs
          obtain ⟨x0, x1, x2, x3, x4, x5, x6, x7, x8, x9, x10, x11⟩ := HTr.out.1.tab
          go_upto_region 9 with (go_at_call 12; refine H1.out.mono ?_; rintro e w5 ⟨u5, rfl, ho5, b5⟩; obtain ⟨As, cs, rfl, _⟩ := id (Ints.of_own ho5); have HU5 := Lib.hid (Ints.of_own ho5); have HAD := Lib.hid (own_addr ho5); clear ho5)
          clear x0 x1 x2 x3 x4 x5 x6 x7 x8 x9 x10 x11 H1 e1
          have bl := (Below.refl w5.heap.size w5).alloc (Nat.le_refl _) (.cells #[.slice As s.length cs] 24)
          have HBK := Lib.hid (Blk.new w5 24 #[.slice As s.length cs])
          have HLS := Lib.hid ((HLr.out.later b5).later bl)
          have HOS := Lib.hid (own_later (own_later HOr.out b5) bl)
          have HBS := Lib.hid (below_then (below_then HBr.out (Nat.le_refl _) b5) (by have := HBr.out.size; have := b5.size; omega) bl)
          have HUS := Lib.hid (HU5.out.later bl)
          have HSZ : Hid (wr.heap.size ≤ w5.heap.size) := Lib.hid b5.size
          have HSB : Hid (w5.heap.size ≤ (w5.alloc (.cells #[.slice As s.length cs] 24)).heap.size) := Lib.hid bl.size
          have HFR : Hid (∀ ad, As = some ad → wr.heap.size ≤ ad.block) := Lib.hid (fun ad ha => (HAD.out ad ha).1)
          clear b5 bl HU5
          generalize w5.alloc (.cells #[.slice As s.length cs] 24) = w6 at *
          obtain ⟨sb, hsb⟩ : ∃ sb, w5.heap.size = sb := ⟨_, rfl⟩
          rw [hsb] at HBK
          simp only [hsb]
          have n1 : ((skels T yss).take k).length = k := by rw [List.length_take, skels_length]; omega
          have n2 : ((classesL T yss).take k).length = k := by rw [List.length_take, classesL_length]; omega
          have HN1 := Lib.hid n1
          have HN2 := Lib.hid n2
          have HIX := Lib.hid (indexFunc_any 22 #[.pointer (some ⟨sb, 0, none⟩)] s6 ((skels T yss).take k) (fun y => decide (y = s)) w6 HEG.out (LRowA.toL HLS.out).lists (by omega) (fun W u ys hb hi => by simpa using clos21_any sb As cs s u ys W (HBK.out.later hb) (HUS.out.later hb) hi))
          have hci := class_idx HSS.out
          clear n1 n2
          obtain ⟨ix, hix⟩ : ∃ ix, idxGo (fun y => decide (y = s)) 0 ((skels T yss).take k) = ix := ⟨_, rfl⟩
          rw [hix] at HIX hci
          clear hix
          obtain ⟨f, hf⟩ : ∃ f, classOfI (skels T yss) s = f := ⟨_, rfl⟩
          rw [hf] at hci HCS
          clear hf
          go_upto_region 12 with (go_at_call 21; refine HIX.out.mono ?_; rintro e w7 ⟨rfl, b7⟩)
          have bl7 := (Below.refl w7.heap.size w7).alloc (Nat.le_refl _) (.cells #[.slice As s.length cs] 24)
          have x0 := (HBK.out.later b7).cell 0
          have HL7 := Lib.hid ((HLS.out.later b7).later bl7)
          have HO7 := Lib.hid (own_later (own_later HOS.out b7) bl7)
          have HB7 := Lib.hid (below_then (below_then HBS.out (Nat.le_refl _) b7) (Nat.le_refl _) bl7)
          have HU7 := Lib.hid ((HUS.out.later b7).later bl7)
          have HD7 : Hid (∀ ad, As = some ad → ad.block < (w7.alloc (.cells #[.slice As s.length cs] 24)).heap.size ∧ s6.ownBlock ≠ some ad.block ∧ s7.ownBlock ≠ some ad.block) := Lib.hid (fun ad ha => by
            obtain ⟨q1, q2⟩ := HLr.out.lt
            have q3 := HFR.out ad ha
            have q4 : ad.block < w7.heap.size := by
              have := (HAD.out ad ha).2
              have := HSB.out
              have := b7.size
              omega
            refine ⟨by simp; omega, fun h => ?_, fun h => ?_⟩
            · have := q1 _ h; omega
            · have := q2 _ h; omega)
          clear HIX HUS HLS HOS HBS HBK bl7 HLr HOr HBr b7 HEG HAD HSB HFR HSZ
          rcases hci with hi1 | ⟨hi1, hi2, hi3⟩
          · obtain ⟨rfl, rfl⟩ := hi1
            have HNX : Hid ((skels T yss).take (k + 1) = (skels T yss).take k ++ [s] ∧ (classesL T yss).take (k + 1) = (classesL T yss).take k ++ [(k : Int)]) := Lib.hid ⟨take_snoc21 HSS.out, take_snoc21 HCS.out⟩
            clear HSS HCS
            generalize (skels T yss).take k = sk at *
            generalize (classesL T yss).take k = ck at *
            go_wp2_with (first
              | (at_builtin; refine wpList_append_sliceA (by rfl) (.tmp 38) (.tmp 40) rfl Tryd.underlying23 hj hy0 hy1 hy2 w1.heap.size s6 sk ⟨w7.heap.size, 0, none⟩ As cs s rfl s7.ownBlock HL7.out rfl ((Blk.new w7 24 #[.slice As s.length cs]).cell 0) HU7.out HD7.out (by have := HN1.out; omega) HB7.out.size ?_; intro v8 w8 hr8 hg8; have HL8 := Lib.hid hr8; have HO8 := Lib.hid (own_other HO7.out hg8 HL7.out.apart); have HB8 := Lib.hid (HB7.out.trans (hg8.below HL7.out.above HB7.out.size)); clear hr8 hg8)
              | (at_builtin; refine wpList_append_gr (by rfl) (.tmp 42) (.tmp 44) rfl Tryd.underlying24 hi hz0 hz1 hz2 (w8.heap.size + 1) w1.heap.size s7 ck (.slice (some ⟨w8.heap.size, 0, none⟩) 1 1) [(k : Int)] rfl (HO8.out.alloc _) rfl (by have h := Ints.of_own (own_new w8 3 [(k : Int)] (by simp)); simpa using h) (by have := HN2.out; simp; omega) (by have := HB8.out.size; simp; omega) ?_; intro v9 w9 ho9 hg9; have HO9 := Lib.hid ho9; have HL9 := Lib.hid ((HL8.out.later ((Below.refl w8.heap.size w8).alloc (Nat.le_refl _) _)).other hg9 (fun g hg => (own_base ho9 g hg).2)); have HB9 := Lib.hid ((below_then HB8.out (Nat.le_refl _) ((Below.refl w8.heap.size w8).alloc (Nat.le_refl _) _)).trans (hg9.below (fun g hg => (own_base HO8.out g hg).1) (by have := HB8.out.size; simp; omega))); clear ho9 hg9))
            go_roundw
            case rel => exact ⟨k + 1, _, _, by omega, by go_num, rfl, rfl, HE2, Lib.hid (by rw [HNX.out.1]; exact HL9.out), Lib.hid (by rw [HNX.out.2]; exact HO9.out), HB9⟩
            case measure => simp [intOf]; omega
          · subst hi2
            have hneg : ¬ f < 0 := by omega
            clear hi1
            have HNX : Hid ((skels T yss).take (k + 1) = (skels T yss).take k ++ [s] ∧ (classesL T yss).take (k + 1) = (classesL T yss).take k ++ [f]) := Lib.hid ⟨take_snoc21 HSS.out, take_snoc21 HCS.out⟩
            clear HSS HCS
            generalize (skels T yss).take k = sk at *
            generalize (classesL T yss).take k = ck at *
            go_wp2_with (first
              | (at_builtin; refine wpList_append_sliceA (by rfl) (.tmp 38) (.tmp 40) rfl Tryd.underlying23 hj hy0 hy1 hy2 w1.heap.size s6 sk ⟨w7.heap.size, 0, none⟩ As cs s rfl s7.ownBlock HL7.out rfl ((Blk.new w7 24 #[.slice As s.length cs]).cell 0) HU7.out HD7.out (by have := HN1.out; omega) HB7.out.size ?_; intro v8 w8 hr8 hg8; have HL8 := Lib.hid hr8; have HO8 := Lib.hid (own_other HO7.out hg8 HL7.out.apart); have HB8 := Lib.hid (HB7.out.trans (hg8.below HL7.out.above HB7.out.size)); clear hr8 hg8)
              | (at_builtin; refine wpList_append_gr (by rfl) (.tmp 42) (.tmp 44) rfl Tryd.underlying24 hi hz0 hz1 hz2 (w8.heap.size + 1) w1.heap.size s7 ck (.slice (some ⟨w8.heap.size, 0, none⟩) 1 1) [f] rfl (HO8.out.alloc _) rfl (by have h := Ints.of_own (own_new w8 3 [f] (by simp)); simpa using h) (by have := HN2.out; simp; omega) (by have := HB8.out.size; simp; omega) ?_; intro v9 w9 ho9 hg9; have HO9 := Lib.hid ho9; have HL9 := Lib.hid ((HL8.out.later ((Below.refl w8.heap.size w8).alloc (Nat.le_refl _) _)).other hg9 (fun g hg => (own_base ho9 g hg).2)); have HB9 := Lib.hid ((below_then HB8.out (Nat.le_refl _) ((Below.refl w8.heap.size w8).alloc (Nat.le_refl _) _)).trans (hg9.below (fun g hg => (own_base HO8.out g hg).1) (by have := HB8.out.size; simp; omega))); clear ho9 hg9))
            go_roundw
            case rel => exact ⟨k + 1, _, _, by omega, by go_num, rfl, rfl, HE2, Lib.hid (by rw [HNX.out.1]; exact HL9.out), Lib.hid (by rw [HNX.out.2]; exact HO9.out), HB9⟩
            case measure => simp [intOf]; omega
        · have HR := Lib.hid (HRE.out er (firstE_hit HL.out HE.out hs h0) h0)
          have hb : (er != 0) = true := by simpa using h0
          clear hs h0
          obtain ⟨x0, x1, x2, x3, x4, x5, x6, x7, x8, x9, x10, x11⟩ := HTr.out.1.tab
          go_wp2_with (go_at_call 12; refine H1.out.mono ?_; rintro e w5 ⟨u5, rfl, ho5, b5⟩; obtain ⟨As, cs, rfl, _⟩ := id (Ints.of_own ho5); have HB5 := Lib.hid (below_then HBr.out (Nat.le_refl _) b5); clear ho5 b5)
          go_ret2
          rw [HR.out]
          exact ⟨_, rfl, World.ownsRow_nil _ _ _ _, below_next HB0.out (HB5.out.alloc HB5.out.size _)⟩
      · have HR := Lib.hid (HRO.out (firstE_end (by omega) HE.out))
        have HOX : Hid (wr.ownsRow w1.heap.size 3 1 s7 (classesL T yss).length ((classesL T yss).map (Value.int .i64))) := Lib.hid (by have h := HOr.out; rwa [List.take_of_length_le (by rw [classesL_length]; omega)] at h)
        go_wp2_with fail
        go_ret2
        rw [HR.out]
        exact ⟨_, rfl, row_le HOX.out HB0.out.size, below_next HB0.out HBr.out⟩
end Go.Proofs.YtecpbicfiaifdaaDoor
/-
  The walk through confuse.Twins.
-/
namespace Go.Proofs.YtecpbicfiaifdaaDoor
open Go.RowKit ND

set_option maxRecDepth 100000 in
set_option maxHeartbeats 2000000 in
theorem twins_any (t : Tv) (T : Tab) (v : Value) (yss : List (List Int)) (w : World) (ht : TabR w w.heap.size t T) (hg : Glob w) (hv : Lists w w.heap.size v yss) :
    Calls Tryd.prog 9 #[t.val, v] w fun e w' => e = .returned (.tuple #[.int .i64 (twinsR T yss).1, .int .i64 (twinsR T yss).2.1, .bool (twinsR T yss).2.2]) ∧ Below w.heap.size w w' := by
  obtain ⟨A, c, rfl, _⟩ := id hv
  have HB0 : Hid (Below w.heap.size w (w.alloc (.cells t.cells 31))) := Lib.hid ((Below.refl _ _).alloc (Nat.le_refl _) _)
  have HT : Hid (Tbl (w.alloc (.cells t.cells 31)) w.heap.size t T) := Lib.hid ⟨Blk.new _ _ _, ht.later HB0.out⟩
  have HC := Lib.hid (classes_any t T _ yss _ HT.out.2 (hg.later HB0.out) (hv.later HB0.out))
  clear ht hv hg
  unfold twinsR
  obtain ⟨cl, er, hcl⟩ : ∃ cl er, classesR T yss = (cl, er) := ⟨_, _, rfl⟩
  rw [hcl] at HC ⊢
  clear hcl
  show Calls _ _ _ _ fun e w' => e = .returned (.tuple #[.int .i64 (twinsGo 0 cl).1, .int .i64 (twinsGo 0 cl).2.1, .bool (twinsGo 0 cl).2.2]) ∧ _
  obtain ⟨R, hR⟩ : ∃ R, twinsGo 0 cl = R := ⟨_, rfl⟩
  have HR : Hid (twinsGo 0 (cl.drop 0) = R) := Lib.hid hR
  rw [hR]
  clear hR
  go_enter Tryd.func9, Tryd.ntmps9
  go_upto_region 1 with fail
  generalize w.alloc (.cells t.cells 31) = w1 at *
  obtain ⟨x0, x1, x2, x3, x4, x5, x6, x7, x8, x9, x10, x11⟩ := HT.out.1.tab
  go_upto_region 2 with (go_at_call 8; refine HC.out.mono ?_; rintro e w2 ⟨u2, rfl, ho2, b2⟩; obtain ⟨A2, c2, rfl, _⟩ := id (Ints.of_own ho2); have HU := Lib.hid (Ints.of_own ho2); have HB2 := Lib.hid (below_next HB0.out b2); clear ho2 b2)
  clear x0 x1 x2 x3 x4 x5 x6 x7 x8 x9 x10 x11 HC
  have l1 : cl.length ≤ 9223372036854775807 := by
    obtain ⟨_, _, e, h1, h2, _⟩ := HU.out
    unfold maxLen at h2; cases e; omega
  go_wp2_with fail
  go_loopw [19] (fun si wr => ∃ (j : Nat), j ≤ cl.length ∧ si = .int .i64 j ∧ Hid (twinsGo j (cl.drop j) = R) ∧ wr = w2) (fun si _ => cl.length - (intOf si).toNat)
  case atStart => exact ⟨0, by omega, rfl, HR, rfl⟩
  case round =>
    clear HR
    obtain ⟨j, hj, rfl, HS, rfl⟩ := hrel
    by_cases hlt : j < cl.length
    · obtain ⟨x, hxj, _⟩ := get_of hlt
      obtain ⟨_, _, hve, _, _, _, hcell⟩ := HU.out
      cases hve
      obtain ⟨ad, rfl, ha, e1⟩ := hcell j x hxj
      have j0 : (0 : Int) ≤ (j : Int) := by omega
      have j1 : (j : Int) < (cl.length : Int) := by omega
      have hst := twins_step hxj
      rw [HS.out] at hst
      clear hcell hxj ha
      by_cases hx : x < (j : Int)
      · rw [if_pos hx] at hst
        have HN := Lib.hid hst
        clear hst
        go_wp2_with fail
        go_ret3
        rw [HN.out]
        exact ⟨rfl, HB2.out⟩
      · rw [if_neg hx] at hst
        have HN := Lib.hid hst.symm
        clear hst
        go_wp2_with fail
        go_roundw
        case rel => exact ⟨j + 1, by omega, by go_num, HN, by first | rfl | trivial⟩
        case measure => simp [intOf]; omega
    · have HN : Hid (R = (0, 0, false)) := Lib.hid (HS.out.symm.trans (twins_end (by omega)))
      go_wp2_with fail
      go_ret3
      rw [HN.out]
      exact ⟨rfl, HB2.out⟩
end Go.Proofs.YtecpbicfiaifdaaDoor
/-
  The walk through awake of the laws of layer 21: the example of its chapter.
-/
namespace Go.Proofs.YtecpbicfiaifdaaDoor
open Go.RowKit ND

def tab21 : Tab := ⟨[], [], [], [], [], [], [], [], [], [], [], [(109, [114, 110])]⟩
theorem cl21 : classesR tab21 [[109], [97], [114, 110]] = ([0, 1, 0], 0) := by decide +kernel
theorem tw21 : twinsR tab21 [[109], [97], [114, 110]] = (0, 2, true) := by decide +kernel
/-- The example's tables, as they lie. -/
theorem lay21 (w : World) : ∃ t : Tv, t = ⟨.slice none 0 0, .slice none 0 0, .slice none 0 0, .slice none 0 0, .slice none 0 0, .slice none 0 0, .slice none 0 0, .slice none 0 0, .slice none 0 0, .slice none 0 0, .slice none 0 0, .slice (some ⟨w.heap.size + 1, 0, none⟩) 1 1⟩ ∧ Tbl (((w.alloc (.cells #[.int .i64 114, .int .i64 110] 3)).alloc (.cells #[.int .i64 109, .slice (some ⟨w.heap.size, 0, none⟩) 2 2] 49)).alloc (.cells #[.slice none 0 0, .slice none 0 0, .slice none 0 0, .slice none 0 0, .slice none 0 0, .slice none 0 0, .slice none 0 0, .slice none 0 0, .slice none 0 0, .slice none 0 0, .slice none 0 0, .slice (some ⟨w.heap.size + 1, 0, none⟩) 1 1] 31)) (w.heap.size + 1 + 1) t tab21 ∧ Below w.heap.size w (((w.alloc (.cells #[.int .i64 114, .int .i64 110] 3)).alloc (.cells #[.int .i64 109, .slice (some ⟨w.heap.size, 0, none⟩) 2 2] 49)).alloc (.cells #[.slice none 0 0, .slice none 0 0, .slice none 0 0, .slice none 0 0, .slice none 0 0, .slice none 0 0, .slice none 0 0, .slice none 0 0, .slice none 0 0, .slice none 0 0, .slice none 0 0, .slice (some ⟨w.heap.size + 1, 0, none⟩) 1 1] 31)) := by
  have b1 := (Below.refl w.heap.size w).alloc (Nat.le_refl _) (.cells #[.int .i64 114, .int .i64 110] 3)
  have i1 : Ints (w.alloc (.cells #[.int .i64 114, .int .i64 110] 3)) (w.alloc (.cells #[.int .i64 114, .int .i64 110] 3)).heap.size .i64 (.slice (some ⟨w.heap.size, 0, none⟩) 2 2) [114, 110] := (by have h := Ints.of_own (own_new w 3 [114, 110] (by simp)); simpa using h)
  have s1 : (w.alloc (.cells #[.int .i64 114, .int .i64 110] 3)).heap.size = w.heap.size + 1 := by simp
  generalize (w.alloc (.cells #[.int .i64 114, .int .i64 110] 3)) = a1 at *
  have b3 := (Below.refl a1.heap.size a1).alloc (Nat.le_refl _) (.cells #[.int .i64 109, .slice (some ⟨w.heap.size, 0, none⟩) 2 2] 49)
  have hm := lit_map a1 109 _ [114, 110] i1
  have s3 : (a1.alloc (.cells #[.int .i64 109, .slice (some ⟨w.heap.size, 0, none⟩) 2 2] 49)).heap.size = w.heap.size + 1 + 1 := by simp [s1]
  rw [s1] at hm
  generalize a1.alloc (.cells #[.int .i64 109, .slice (some ⟨w.heap.size, 0, none⟩) 2 2] 49) = a3 at *
  have b4 := (Below.refl a3.heap.size a3).alloc (Nat.le_refl _) (.cells #[.slice none 0 0, .slice none 0 0, .slice none 0 0, .slice none 0 0, .slice none 0 0, .slice none 0 0, .slice none 0 0, .slice none 0 0, .slice none 0 0, .slice none 0 0, .slice none 0 0, .slice (some ⟨w.heap.size + 1, 0, none⟩) 1 1] 31)
  have hX := Blk.new a3 31 #[.slice none 0 0, .slice none 0 0, .slice none 0 0, .slice none 0 0, .slice none 0 0, .slice none 0 0, .slice none 0 0, .slice none 0 0, .slice none 0 0, .slice none 0 0, .slice none 0 0, .slice (some ⟨w.heap.size + 1, 0, none⟩) 1 1]
  rw [s3] at hX
  refine ⟨_, rfl, ⟨hX, ⟨Spans.none_, Spans.none_, Spans.none_, Spans.none_, Spans.none_, Spans.none_, Spans.none_, Mapps.none_, Mapps.none_, Mapps.none_, Ints.none_, hm.later b4⟩⟩, below_next (below_next b1 b3) b4⟩
/-- The example's sequences, as they lie. -/
theorem rows21 (w1 : World) : Lists ((((w1.alloc (.cells #[.int .i64 109] 3)).alloc (.cells #[.int .i64 97] 3)).alloc (.cells #[.int .i64 114, .int .i64 110] 3)).alloc (.cells #[.slice (some ⟨w1.heap.size, 0, none⟩) 1 1, .slice (some ⟨w1.heap.size + 1, 0, none⟩) 1 1, .slice (some ⟨w1.heap.size + 1 + 1, 0, none⟩) 2 2] 24)) ((((w1.alloc (.cells #[.int .i64 109] 3)).alloc (.cells #[.int .i64 97] 3)).alloc (.cells #[.int .i64 114, .int .i64 110] 3)).alloc (.cells #[.slice (some ⟨w1.heap.size, 0, none⟩) 1 1, .slice (some ⟨w1.heap.size + 1, 0, none⟩) 1 1, .slice (some ⟨w1.heap.size + 1 + 1, 0, none⟩) 2 2] 24)).heap.size (.slice (some ⟨w1.heap.size + 1 + 1 + 1, 0, none⟩) 3 3) [[109], [97], [114, 110]] ∧ Below w1.heap.size w1 ((((w1.alloc (.cells #[.int .i64 109] 3)).alloc (.cells #[.int .i64 97] 3)).alloc (.cells #[.int .i64 114, .int .i64 110] 3)).alloc (.cells #[.slice (some ⟨w1.heap.size, 0, none⟩) 1 1, .slice (some ⟨w1.heap.size + 1, 0, none⟩) 1 1, .slice (some ⟨w1.heap.size + 1 + 1, 0, none⟩) 2 2] 24)) := by
  have c1 := (Below.refl w1.heap.size w1).alloc (Nat.le_refl _) (.cells #[.int .i64 109] 3)
  have i1 : Ints (w1.alloc (.cells #[.int .i64 109] 3)) (w1.alloc (.cells #[.int .i64 109] 3)).heap.size .i64 (.slice (some ⟨w1.heap.size, 0, none⟩) 1 1) [109] := (by have h := Ints.of_own (own_new w1 3 [109] (by simp)); simpa using h)
  have s1 : (w1.alloc (.cells #[.int .i64 109] 3)).heap.size = w1.heap.size + 1 := by simp
  generalize (w1.alloc (.cells #[.int .i64 109] 3)) = a1 at *
  have c2 := (Below.refl a1.heap.size a1).alloc (Nat.le_refl _) (.cells #[.int .i64 97] 3)
  have i2 : Ints (a1.alloc (.cells #[.int .i64 97] 3)) (a1.alloc (.cells #[.int .i64 97] 3)).heap.size .i64 (.slice (some ⟨a1.heap.size, 0, none⟩) 1 1) [97] := (by have h := Ints.of_own (own_new a1 3 [97] (by simp)); simpa using h)
  have s2 : (a1.alloc (.cells #[.int .i64 97] 3)).heap.size = w1.heap.size + 1 + 1 := by simp [s1]
  have i1 := i1.later c2
  rw [s1] at i2
  generalize a1.alloc (.cells #[.int .i64 97] 3) = a2 at *
  have c3 := (Below.refl a2.heap.size a2).alloc (Nat.le_refl _) (.cells #[.int .i64 114, .int .i64 110] 3)
  have i3 : Ints (a2.alloc (.cells #[.int .i64 114, .int .i64 110] 3)) (a2.alloc (.cells #[.int .i64 114, .int .i64 110] 3)).heap.size .i64 (.slice (some ⟨a2.heap.size, 0, none⟩) 2 2) [114, 110] := (by have h := Ints.of_own (own_new a2 3 [114, 110] (by simp)); simpa using h)
  have s3 : (a2.alloc (.cells #[.int .i64 114, .int .i64 110] 3)).heap.size = w1.heap.size + 1 + 1 + 1 := by simp [s2]
  have i1 := i1.later c3
  have i2 := i2.later c3
  rw [s2] at i3
  generalize a2.alloc (.cells #[.int .i64 114, .int .i64 110] 3) = a3 at *
  have c4 := (Below.refl a3.heap.size a3).alloc (Nat.le_refl _) (.cells #[.slice (some ⟨w1.heap.size, 0, none⟩) 1 1, .slice (some ⟨w1.heap.size + 1, 0, none⟩) 1 1, .slice (some ⟨w1.heap.size + 1 + 1, 0, none⟩) 2 2] 24)
  have h := lists_three a3 _ _ _ [109] [97] [114, 110] i1 i2 i3
  rw [s3] at h
  exact ⟨h, below_next (below_next (below_next c1 c2) c3) c4⟩
set_option maxRecDepth 100000 in
set_option maxHeartbeats 4000000 in
theorem awake21 (w : World) (hg : Glob w) : Calls Tryd.prog 10 #[] w fun e w' => e = .returned (.bool true) ∧ Below w.heap.size w w' := by
  have HG := Lib.hid (fun W (h : Below w.heap.size w W) => hg.later h)
  clear hg
  go_enter Tryd.func10, Tryd.ntmps10
  go_upto_region 2 with fail
  obtain ⟨t, ht, htb, hb0⟩ := lay21 w
  have HT := Lib.hid htb
  have B0 := Lib.hid hb0
  clear htb hb0 ht
  generalize (((w.alloc (.cells #[.int .i64 114, .int .i64 110] 3)).alloc (.cells #[.int .i64 109, .slice (some ⟨w.heap.size, 0, none⟩) 2 2] 49)).alloc (.cells #[.slice none 0 0, .slice none 0 0, .slice none 0 0, .slice none 0 0, .slice none 0 0, .slice none 0 0, .slice none 0 0, .slice none 0 0, .slice none 0 0, .slice none 0 0, .slice none 0 0, .slice (some ⟨w.heap.size + 1, 0, none⟩) 1 1] 31)) = w1 at *
  obtain ⟨tb, htb⟩ : ∃ tb, w.heap.size + 1 + 1 = tb := ⟨_, rfl⟩
  rw [htb] at HT
  simp only [htb]
  clear htb
  go_upto_region 3 with fail
  obtain ⟨hls, hb2⟩ := rows21 w1
  have HLS := Lib.hid hls
  have B1 := Lib.hid hb2
  have HT2 := Lib.hid (HT.out.later hb2)
  clear hls hb2 HT
  generalize ((((w1.alloc (.cells #[.int .i64 109] 3)).alloc (.cells #[.int .i64 97] 3)).alloc (.cells #[.int .i64 114, .int .i64 110] 3)).alloc (.cells #[.slice (some ⟨w1.heap.size, 0, none⟩) 1 1, .slice (some ⟨w1.heap.size + 1, 0, none⟩) 1 1, .slice (some ⟨w1.heap.size + 1 + 1, 0, none⟩) 2 2] 24)) = w2 at *
  obtain ⟨lb, hlb⟩ : ∃ lb, w1.heap.size + 1 + 1 + 1 = lb := ⟨_, rfl⟩
  rw [hlb] at HLS
  simp only [hlb]
  clear hlb
  have HG2 := Lib.hid (fun W (h : Below w2.heap.size w2 W) => HG.out W (below_next B0.out (below_next B1.out h)))
  have HCL := Lib.hid (fun W (h : Below w2.heap.size w2 W) => classes_any t tab21 _ [[109], [97], [114, 110]] W (HT2.out.later h).2 (HG2.out W h) (HLS.out.later h))
  have HTW := Lib.hid (fun W (h : Below w2.heap.size w2 W) => twins_any t tab21 _ [[109], [97], [114, 110]] W (HT2.out.later h).2 (HG2.out W h) (HLS.out.later h))
  rw [cl21] at HCL
  rw [tw21] at HTW
  clear HG
  obtain ⟨x0, x1, x2, x3, x4, x5, x6, x7, x8, x9, x10, x11⟩ := HT2.out.1.tab
  go_upto_region 4 with (go_at_call 8; refine (HCL.out _ (Below.refl _ _)).mono ?_; rintro e w3 ⟨u3, rfl, ho3, b3⟩; obtain ⟨A3, c3, rfl, _⟩ := id (Ints.of_own ho3); have HU3 := Lib.hid (Ints.of_own ho3); have B3 := Lib.hid b3; clear b3 ho3)
  clear x0 x1 x2 x3 x4 x5 x6 x7 x8 x9 x10 x11
  obtain ⟨x0, x1, x2, x3, x4, x5, x6, x7, x8, x9, x10, x11⟩ := (HT2.out.later B3.out).1.tab
  go_upto_region 5 with (go_at_call 9; refine (HTW.out _ B3.out).mono ?_; rintro e w4 ⟨rfl, b4⟩; have B4 := Lib.hid (below_next B3.out b4); have HU4 := Lib.hid (HU3.out.later b4); clear b4)
  clear x0 x1 x2 x3 x4 x5 x6 x7 x8 x9 x10 x11
  go_wp2_with (go_at_call 15; have bl := (Below.refl w4.heap.size w4).alloc (Nat.le_refl _) (.cells #[.int .i64 0, .int .i64 1, .int .i64 0] 3); refine (same_of _ _ [0, 1, 0] [0, 1, 0] _ (HU4.out.later bl) (by have h := Ints.of_own (own_new w4 3 [0, 1, 0] (by simp)); simpa using h) rfl).mono ?_; rintro e w5 ⟨rfl, b5⟩; have B5 := Lib.hid (below_next B4.out (below_next bl b5)); clear bl b5)
  go_ret
  exact ⟨rfl, below_next B0.out (below_next B1.out B5.out)⟩
end Go.Proofs.YtecpbicfiaifdaaDoor
