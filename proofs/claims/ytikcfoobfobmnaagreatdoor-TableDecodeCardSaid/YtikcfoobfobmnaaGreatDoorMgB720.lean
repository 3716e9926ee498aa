/-
  Merged texts: lemmas and walks that the last text of this claim leans on.
-/
import Derived.Test.YtikcfoobfobmnaaGreatDoorMgB719
import Derived.Test.YtikcfoobfobmnaaGreatDoorMgB712
import Derived.Test.YtikcfoobfobmnaaGreatDoorMgB716
import Derived.Test.YtikcfoobfobmnaaGreatDoorMgB73
import Derived.Test.YtikcfoobfobmnaaGreatDoorMgB71
import Derived.Test.YtikcfoobfobmnaaGreatDoorMgB76
import Derived.Deep.Cut
import Derived.Deep.CutRange
import Derived.Deep.CutBlock
import Derived.Outline
/-
  The walk through keep.Other: whatever tables come back.
-/
namespace Go.Proofs.YtikcfoobfobmnaaGreatDoor
open Go.RowKit ND

theorem TabR.reveil0 {w : World} {B : Nat} {t : Tv} {T : Tab} (h : TabR w B t T) : TabR (veil [] w) B t T := h.keep fun p _ => cell_veil (by simp)
/-- Some tables come back. -/
def RetOther (w : World) (n : Nat) (e : Ending) (w' : World) : Prop := ∃ (t : Tv) (T : Tab), e = .returned t.val ∧ TabR w' w'.heap.size t T ∧ ShortT (n + 2) T ∧ Below w.heap.size w w'

set_option maxRecDepth 100000 in
set_option maxHeartbeats 8000000 in
theorem other_any (w0 : World) (t : Tv) (T : Tab) (how at' vv : Int) (n : Nat) (ht : TabR w0 w0.heap.size t T) (hn : ShortT n T) (hn2 : n ≤ 1000) :
    Calls Tryz.prog 8 #[t.val, .int .i64 how, .int .i64 at', .int .i64 vv] w0 (RetOther w0 n) := by
  obtain ⟨A0, A1, A2, A3, A4, A5, A6, A7, A8, A9, A10, A11, k0, k1, k2, k3, k4, k5, k6, k7, k8, k9, k10, k11, rfl⟩ := ht.shape
  have HN := Lib.hid hn
  obtain ⟨t, htE⟩ : ∃ t : Tv, t = ⟨.slice A0 T.category.length k0, .slice A1 T.cls.length k1, .slice A2 T.joining.length k2, .slice A3 T.bidi.length k3, .slice A4 T.script.length k4, .slice A5 T.status.length k5, .slice A6 T.ignorable.length k6, .slice A7 T.extensions.length k7, .slice A8 T.maps.length k8, .slice A9 T.decomps.length k9, .slice A10 T.excluded.length k10, .slice A11 T.prototypes.length k11⟩ := ⟨_, rfl⟩
  have HTT : Hid (TabR w0 w0.heap.size t T) := Lib.hid (htE ▸ ht)
  have HTE := Lib.hid htE
  clear ht hn htE
  go_enter Tryz.func8, Tryz.ntmps8
  obtain ⟨p0, p1⟩ := pick_in how (n := 12) (by decide)
  go_upto_block 0 with (go_at_call 7; refine (pick_any _ _ _ (by decide) (by decide)).mono ?_; rintro e w4 ⟨rfl, rfl⟩)
  have hbel : Below w0.heap.size w0 (((w0.alloc (.cells #[.slice A0 T.category.length k0, .slice A1 T.cls.length k1, .slice A2 T.joining.length k2, .slice A3 T.bidi.length k3, .slice A4 T.script.length k4, .slice A5 T.status.length k5, .slice A6 T.ignorable.length k6, .slice A7 T.extensions.length k7, .slice A8 T.maps.length k8, .slice A9 T.decomps.length k9, .slice A10 T.excluded.length k10, .slice A11 T.prototypes.length k11] 29)).alloc (.cells #[.slice none 0 0, .slice none 0 0, .slice none 0 0, .slice none 0 0, .slice none 0 0, .slice none 0 0, .slice none 0 0, .slice none 0 0, .slice none 0 0, .slice none 0 0, .slice none 0 0, .slice none 0 0] 29)).alloc (.cells #[.slice A0 T.category.length k0, .slice A1 T.cls.length k1, .slice A2 T.joining.length k2, .slice A3 T.bidi.length k3, .slice A4 T.script.length k4, .slice A5 T.status.length k5, .slice A6 T.ignorable.length k6, .slice A7 T.extensions.length k7, .slice A8 T.maps.length k8, .slice A9 T.decomps.length k9, .slice A10 T.excluded.length k10, .slice A11 T.prototypes.length k11] 29)) := (((Below.refl _ _).alloc (Nat.le_refl _) _).alloc (by simp) _).alloc (by simp; omega) _
  have hTb : Blk (((w0.alloc (.cells #[.slice A0 T.category.length k0, .slice A1 T.cls.length k1, .slice A2 T.joining.length k2, .slice A3 T.bidi.length k3, .slice A4 T.script.length k4, .slice A5 T.status.length k5, .slice A6 T.ignorable.length k6, .slice A7 T.extensions.length k7, .slice A8 T.maps.length k8, .slice A9 T.decomps.length k9, .slice A10 T.excluded.length k10, .slice A11 T.prototypes.length k11] 29)).alloc (.cells #[.slice none 0 0, .slice none 0 0, .slice none 0 0, .slice none 0 0, .slice none 0 0, .slice none 0 0, .slice none 0 0, .slice none 0 0, .slice none 0 0, .slice none 0 0, .slice none 0 0, .slice none 0 0] 29)).alloc (.cells #[.slice A0 T.category.length k0, .slice A1 T.cls.length k1, .slice A2 T.joining.length k2, .slice A3 T.bidi.length k3, .slice A4 T.script.length k4, .slice A5 T.status.length k5, .slice A6 T.ignorable.length k6, .slice A7 T.extensions.length k7, .slice A8 T.maps.length k8, .slice A9 T.decomps.length k9, .slice A10 T.excluded.length k10, .slice A11 T.prototypes.length k11] 29)) w0.heap.size 29 #[t.c0, t.c1, t.c2, t.c3, t.c4, t.c5, t.c6, t.c7, t.c8, t.c9, t.c10, t.c11] := by rw [HTE.out]; exact ((Blk.new w0 29 _).alloc _).alloc _
  have hRb : Blk (((w0.alloc (.cells #[.slice A0 T.category.length k0, .slice A1 T.cls.length k1, .slice A2 T.joining.length k2, .slice A3 T.bidi.length k3, .slice A4 T.script.length k4, .slice A5 T.status.length k5, .slice A6 T.ignorable.length k6, .slice A7 T.extensions.length k7, .slice A8 T.maps.length k8, .slice A9 T.decomps.length k9, .slice A10 T.excluded.length k10, .slice A11 T.prototypes.length k11] 29)).alloc (.cells #[.slice none 0 0, .slice none 0 0, .slice none 0 0, .slice none 0 0, .slice none 0 0, .slice none 0 0, .slice none 0 0, .slice none 0 0, .slice none 0 0, .slice none 0 0, .slice none 0 0, .slice none 0 0] 29)).alloc (.cells #[.slice A0 T.category.length k0, .slice A1 T.cls.length k1, .slice A2 T.joining.length k2, .slice A3 T.bidi.length k3, .slice A4 T.script.length k4, .slice A5 T.status.length k5, .slice A6 T.ignorable.length k6, .slice A7 T.extensions.length k7, .slice A8 T.maps.length k8, .slice A9 T.decomps.length k9, .slice A10 T.excluded.length k10, .slice A11 T.prototypes.length k11] 29)) (w0.heap.size + 1) 29 #[.slice none 0 0, .slice none 0 0, .slice none 0 0, .slice none 0 0, .slice none 0 0, .slice none 0 0, .slice none 0 0, .slice none 0 0, .slice none 0 0, .slice none 0 0, .slice none 0 0, .slice none 0 0] := by have h := (Blk.new (w0.alloc (.cells #[.slice A0 T.category.length k0, .slice A1 T.cls.length k1, .slice A2 T.joining.length k2, .slice A3 T.bidi.length k3, .slice A4 T.script.length k4, .slice A5 T.status.length k5, .slice A6 T.ignorable.length k6, .slice A7 T.extensions.length k7, .slice A8 T.maps.length k8, .slice A9 T.decomps.length k9, .slice A10 T.excluded.length k10, .slice A11 T.prototypes.length k11] 29)) 29 #[.slice none 0 0, .slice none 0 0, .slice none 0 0, .slice none 0 0, .slice none 0 0, .slice none 0 0, .slice none 0 0, .slice none 0 0, .slice none 0 0, .slice none 0 0, .slice none 0 0, .slice none 0 0]).alloc (.cells #[.slice A0 T.category.length k0, .slice A1 T.cls.length k1, .slice A2 T.joining.length k2, .slice A3 T.bidi.length k3, .slice A4 T.script.length k4, .slice A5 T.status.length k5, .slice A6 T.ignorable.length k6, .slice A7 T.extensions.length k7, .slice A8 T.maps.length k8, .slice A9 T.decomps.length k9, .slice A10 T.excluded.length k10, .slice A11 T.prototypes.length k11] 29); simpa using h
  have hXb : Blk (((w0.alloc (.cells #[.slice A0 T.category.length k0, .slice A1 T.cls.length k1, .slice A2 T.joining.length k2, .slice A3 T.bidi.length k3, .slice A4 T.script.length k4, .slice A5 T.status.length k5, .slice A6 T.ignorable.length k6, .slice A7 T.extensions.length k7, .slice A8 T.maps.length k8, .slice A9 T.decomps.length k9, .slice A10 T.excluded.length k10, .slice A11 T.prototypes.length k11] 29)).alloc (.cells #[.slice none 0 0, .slice none 0 0, .slice none 0 0, .slice none 0 0, .slice none 0 0, .slice none 0 0, .slice none 0 0, .slice none 0 0, .slice none 0 0, .slice none 0 0, .slice none 0 0, .slice none 0 0] 29)).alloc (.cells #[.slice A0 T.category.length k0, .slice A1 T.cls.length k1, .slice A2 T.joining.length k2, .slice A3 T.bidi.length k3, .slice A4 T.script.length k4, .slice A5 T.status.length k5, .slice A6 T.ignorable.length k6, .slice A7 T.extensions.length k7, .slice A8 T.maps.length k8, .slice A9 T.decomps.length k9, .slice A10 T.excluded.length k10, .slice A11 T.prototypes.length k11] 29)) (w0.heap.size + 1 + 1) 29 #[t.c0, t.c1, t.c2, t.c3, t.c4, t.c5, t.c6, t.c7, t.c8, t.c9, t.c10, t.c11] := by rw [HTE.out]; have h := Blk.new ((w0.alloc (.cells #[.slice A0 T.category.length k0, .slice A1 T.cls.length k1, .slice A2 T.joining.length k2, .slice A3 T.bidi.length k3, .slice A4 T.script.length k4, .slice A5 T.status.length k5, .slice A6 T.ignorable.length k6, .slice A7 T.extensions.length k7, .slice A8 T.maps.length k8, .slice A9 T.decomps.length k9, .slice A10 T.excluded.length k10, .slice A11 T.prototypes.length k11] 29)).alloc (.cells #[.slice none 0 0, .slice none 0 0, .slice none 0 0, .slice none 0 0, .slice none 0 0, .slice none 0 0, .slice none 0 0, .slice none 0 0, .slice none 0 0, .slice none 0 0, .slice none 0 0, .slice none 0 0] 29)) 29 #[.slice A0 T.category.length k0, .slice A1 T.cls.length k1, .slice A2 T.joining.length k2, .slice A3 T.bidi.length k3, .slice A4 T.script.length k4, .slice A5 T.status.length k5, .slice A6 T.ignorable.length k6, .slice A7 T.extensions.length k7, .slice A8 T.maps.length k8, .slice A9 T.decomps.length k9, .slice A10 T.excluded.length k10, .slice A11 T.prototypes.length k11]; simpa using h
  have hsz : w0.heap.size + 1 + 1 + 1 ≤ (((w0.alloc (.cells #[.slice A0 T.category.length k0, .slice A1 T.cls.length k1, .slice A2 T.joining.length k2, .slice A3 T.bidi.length k3, .slice A4 T.script.length k4, .slice A5 T.status.length k5, .slice A6 T.ignorable.length k6, .slice A7 T.extensions.length k7, .slice A8 T.maps.length k8, .slice A9 T.decomps.length k9, .slice A10 T.excluded.length k10, .slice A11 T.prototypes.length k11] 29)).alloc (.cells #[.slice none 0 0, .slice none 0 0, .slice none 0 0, .slice none 0 0, .slice none 0 0, .slice none 0 0, .slice none 0 0, .slice none 0 0, .slice none 0 0, .slice none 0 0, .slice none 0 0, .slice none 0 0] 29)).alloc (.cells #[.slice A0 T.category.length k0, .slice A1 T.cls.length k1, .slice A2 T.joining.length k2, .slice A3 T.bidi.length k3, .slice A4 T.script.length k4, .slice A5 T.status.length k5, .slice A6 T.ignorable.length k6, .slice A7 T.extensions.length k7, .slice A8 T.maps.length k8, .slice A9 T.decomps.length k9, .slice A10 T.excluded.length k10, .slice A11 T.prototypes.length k11] 29)).heap.size := by simp
  have HBEL := Lib.hid hbel
  have HTB := Lib.hid hTb
  have HRB := Lib.hid hRb
  have HXB := Lib.hid hXb
  clear hbel hTb hRb hXb HTE
  generalize (((w0.alloc (.cells #[.slice A0 T.category.length k0, .slice A1 T.cls.length k1, .slice A2 T.joining.length k2, .slice A3 T.bidi.length k3, .slice A4 T.script.length k4, .slice A5 T.status.length k5, .slice A6 T.ignorable.length k6, .slice A7 T.extensions.length k7, .slice A8 T.maps.length k8, .slice A9 T.decomps.length k9, .slice A10 T.excluded.length k10, .slice A11 T.prototypes.length k11] 29)).alloc (.cells #[.slice none 0 0, .slice none 0 0, .slice none 0 0, .slice none 0 0, .slice none 0 0, .slice none 0 0, .slice none 0 0, .slice none 0 0, .slice none 0 0, .slice none 0 0, .slice none 0 0, .slice none 0 0] 29)).alloc (.cells #[.slice A0 T.category.length k0, .slice A1 T.cls.length k1, .slice A2 T.joining.length k2, .slice A3 T.bidi.length k3, .slice A4 T.script.length k4, .slice A5 T.status.length k5, .slice A6 T.ignorable.length k6, .slice A7 T.extensions.length k7, .slice A8 T.maps.length k8, .slice A9 T.decomps.length k9, .slice A10 T.excluded.length k10, .slice A11 T.prototypes.length k11] 29)) = W at *
  obtain ⟨rb, hrb⟩ : ∃ rb, w0.heap.size + 1 = rb := ⟨_, rfl⟩
  rw [hrb] at HRB HXB hsz
  simp only [hrb]
  obtain ⟨xb, hxb⟩ : ∃ xb, rb + 1 = xb := ⟨_, rfl⟩
  rw [hxb] at HXB hsz
  simp only [hxb]
  obtain ⟨tb, htb⟩ : ∃ tb, w0.heap.size = tb := ⟨_, rfl⟩
  rw [htb] at HTB
  simp only [htb]
  have hlt1 : tb < rb := by omega
  have hlt2 : rb < xb := by omega
  have hlt3 : w0.heap.size ≤ tb := by omega
  clear hrb hxb htb
  go_cut [] from 12 to 193 (fun wx => Hid (OthR w0 xb rb n wx))
  case first =>
    obtain ⟨q, hq⟩ : ∃ q, pick how 12 = q := ⟨_, rfl⟩
    simp only [hq]
    rw [hq] at p0 p1
    clear hq
    obtain ⟨j, rfl⟩ := Int.eq_ofNat_of_zero_le p0
    have hj : j < 12 := by omega
    clear p0 p1
    have HTW := Lib.hid (HTT.out.below HBEL.out)
    obtain ⟨i0, hi, hz0, hz1, hz2⟩ := info_parts Tryz.infoMap
    match j, hj with
    | 7, _ =>
      have e8 := HTB.out.at_ (i := 8) rfl
      go_wp2_with (first
        | (at_builtin; refine wpList_copy_map rfl (.const (.slice none 0 0)) (.tmp 128) rfl Tryz.underlying27 hi _ hz0 hz1 hz2 rfl [xb] (xb + 1) w0.heap.size t.c8 T.maps (by simp; omega) rfl rfl HTW.out.r8 (by omega) (by have := HN.out.c8; omega) (by omega) ?_; intro v5 w5 ho5 hg5; have HO5 := Lib.hid ho5; have HG5 := Lib.hid hg5; clear ho5 hg5)
        | (at_builtin; refine wpList_app_maps rfl (.tmp 129) (.tmp 132) rfl Tryz.underlying27 hi _ hz0 hz1 hz2 rfl [xb] (xb + 1) v5 T.maps [(131072, [97])] (w5.heap.size + 1) [(131072, .slice (some ⟨w5.heap.size, 0, none⟩) 1 1)] rfl rfl (HO5.out.later (((Below.refl _ _).alloc (Nat.le_refl _) _).alloc (by simp) _) (by simp)) (by have h := Blk.new (w5.alloc (.cells #[.int .i64 97] 3)) 51 #[.int .i64 131072, .slice (some ⟨w5.heap.size, 0, none⟩) 1 1]; simpa [mpCells] using h) rfl (fun i p d hp hd => by match i, hp, hd with | 0, hp, hd => (cases hp; cases hd; exact new_ints HO5.out (by have := HG5.out.size; simp; omega) [97] (by simp) ((Below.refl _ _).alloc (Nat.le_refl _) _)) | _ + 1, hp, hd => simp at hp) (by simp) (by have := HN.out.c8; simp; omega) (by have := HG5.out.size; simp; omega) ?_; intro v6 w6 ho6 hg6 hs6; have HO6 := Lib.hid ho6; have HG6 := Lib.hid hg6; obtain ⟨A6, m6, c6, rfl⟩ := hs6; clear ho6 hg6; have hb6 := oth_below HG5.out (by omega) HO5.out (((Below.refl _ _).alloc (Nat.le_refl _) _).alloc (by simp) _ : Below w5.heap.size w5 ((w5.alloc (.cells #[.int .i64 97] 3)).alloc (.cells #[.int .i64 131072, .slice (some ⟨w5.heap.size, 0, none⟩) 1 1] 51))) HG6.out; have hx6 := HXB.out.below hb6 (by omega); have hr6 := HRB.out.below hb6 (by omega); have e6 := hx6.at_ (i := 8) rfl; have f6 := hx6.free 8; have HB6 := Lib.hid hb6; have HX6 := Lib.hid hx6; have HR6 := Lib.hid hr6; clear hb6 hx6 hr6))
      go_meet
      case rel => exact Lib.hid (oth8 HTT.out HN.out (by have := HN.out.c8; simp; omega) (HBEL.out.trans (HB6.out.mono (by omega))) (by omega) HX6.out HR6.out (by omega) HO6.out (by omega))
    | 4, _ =>
      have e9 := HTB.out.at_ (i := 9) rfl
      obtain ⟨g0, g1⟩ := pick_in vv (n := 6) (by decide)
      obtain ⟨jj, hjj⟩ := Int.eq_ofNat_of_zero_le g0
      have HP := Lib.hid (fun w : World => pick_any vv 6 w (by decide) (by decide))
      rw [hjj] at HP g1
      clear g0 hjj
      have hj2 : jj < ([131072, 46, 44032, 4449, 55296, 97] : List Int).length := by show jj < 6; omega
      obtain ⟨x, hx, _⟩ := get_of hj2
      have HX := Lib.hid (lit_at hx)
      clear hx
      have q0 : (0 : Int) ≤ (jj : Int) := by omega
      go_wp2_with (first
        | (go_at_call 7; refine (HP.out _).mono ?_; rintro e w4 ⟨rfl, rfl⟩)
        | (at_builtin; refine wpList_copy_map rfl (.const (.slice none 0 0)) (.tmp 85) rfl Tryz.underlying27 hi _ hz0 hz1 hz2 rfl [xb] (xb + 1) w0.heap.size t.c9 T.decomps (by simp; omega) rfl rfl HTW.out.r9 (by omega) (by have := HN.out.c9; omega) (by omega) ?_; intro v5 w5 ho5 hg5; have HO5 := Lib.hid ho5; have HG5 := Lib.hid hg5; have y5 := (Blk.new w5 3 #[.int .i64 131072, .int .i64 46, .int .i64 44032, .int .i64 4449, .int .i64 55296, .int .i64 97]).at_ HX.out; clear ho5 hg5)
        | (at_builtin; refine wpList_app_maps rfl (.tmp 86) (.tmp 94) rfl Tryz.underlying27 hi _ hz0 hz1 hz2 rfl [xb] (xb + 1) v5 T.decomps [(131072, [x])] (w5.heap.size + 1 + 1) [(131072, .slice (some ⟨w5.heap.size + 1, 0, none⟩) 1 1)] rfl rfl (HO5.out.later ((((Below.refl _ _).alloc (Nat.le_refl _) _).alloc (by simp) _).alloc (by simp; omega) _) (by simp)) (by have h := Blk.new ((w5.alloc (.cells #[.int .i64 131072, .int .i64 46, .int .i64 44032, .int .i64 4449, .int .i64 55296, .int .i64 97] 3)).alloc (.cells #[.int .i64 x] 3)) 51 #[.int .i64 131072, .slice (some ⟨w5.heap.size + 1, 0, none⟩) 1 1]; simpa [mpCells] using h) rfl (fun i p d hp hd => by match i, hp, hd with | 0, hp, hd => (cases hp; cases hd; have h := new_ints (w := (w5.alloc (.cells #[.int .i64 131072, .int .i64 46, .int .i64 44032, .int .i64 4449, .int .i64 55296, .int .i64 97] 3))) (HO5.out.later ((Below.refl _ _).alloc (Nat.le_refl _) _) (by simp)) (by have := HG5.out.size; simp; omega) [x] (by simp) ((Below.refl _ _).alloc (Nat.le_refl _) (.cells #[.int .i64 131072, .slice (some ⟨w5.heap.size + 1, 0, none⟩) 1 1] 51)); simpa using h) | _ + 1, hp, hd => simp at hp) (by simp) (by have := HN.out.c9; simp; omega) (by have := HG5.out.size; simp; omega) ?_; intro v6 w6 ho6 hg6 hs6; have HO6 := Lib.hid ho6; have HG6 := Lib.hid hg6; obtain ⟨A6, m6, c6, rfl⟩ := hs6; clear ho6 hg6; have hb6 := oth_below HG5.out (by omega) HO5.out ((((Below.refl _ _).alloc (Nat.le_refl _) _).alloc (by simp) _).alloc (by simp; omega) _ : Below w5.heap.size w5 (((w5.alloc (.cells #[.int .i64 131072, .int .i64 46, .int .i64 44032, .int .i64 4449, .int .i64 55296, .int .i64 97] 3)).alloc (.cells #[.int .i64 x] 3)).alloc (.cells #[.int .i64 131072, .slice (some ⟨w5.heap.size + 1, 0, none⟩) 1 1] 51))) HG6.out; have hx6 := HXB.out.below hb6 (by omega); have hr6 := HRB.out.below hb6 (by omega); have e6 := hx6.at_ (i := 9) rfl; have f6 := hx6.free 9; have HB6 := Lib.hid hb6; have HX6 := Lib.hid hx6; have HR6 := Lib.hid hr6; clear hb6 hx6 hr6))
      go_meet
      case rel => exact Lib.hid (oth9 HTT.out HN.out (by have := HN.out.c9; simp; omega) (HBEL.out.trans (HB6.out.mono (by omega))) (by omega) HX6.out HR6.out (by omega) HO6.out (by omega))
    | 6, _ =>
      have e11 := HTB.out.at_ (i := 11) rfl
      obtain ⟨g0, g1⟩ := pick_in vv (n := 6) (by decide)
      obtain ⟨jj, hjj⟩ := Int.eq_ofNat_of_zero_le g0
      have HP := Lib.hid (fun w : World => pick_any vv 6 w (by decide) (by decide))
      rw [hjj] at HP g1
      clear g0 hjj
      have hj2 : jj < ([7680, 109, 44032, 131072, 122, 173] : List Int).length := by show jj < 6; omega
      obtain ⟨x, hx, _⟩ := get_of hj2
      have HX := Lib.hid (lit_at hx)
      clear hx
      have q0 : (0 : Int) ≤ (jj : Int) := by omega
      go_wp2_with (first
        | (go_at_call 7; refine (HP.out _).mono ?_; rintro e w4 ⟨rfl, rfl⟩)
        | (at_builtin; refine wpList_copy_map rfl (.const (.slice none 0 0)) (.tmp 113) rfl Tryz.underlying27 hi _ hz0 hz1 hz2 rfl [xb] (xb + 1) w0.heap.size t.c11 T.prototypes (by simp; omega) rfl rfl HTW.out.r11 (by omega) (by have := HN.out.c11; omega) (by omega) ?_; intro v5 w5 ho5 hg5; have HO5 := Lib.hid ho5; have HG5 := Lib.hid hg5; have y5 := (Blk.new w5 3 #[.int .i64 7680, .int .i64 109, .int .i64 44032, .int .i64 131072, .int .i64 122, .int .i64 173]).at_ HX.out; clear ho5 hg5)
        | (at_builtin; refine wpList_app_maps rfl (.tmp 114) (.tmp 122) rfl Tryz.underlying27 hi _ hz0 hz1 hz2 rfl [xb] (xb + 1) v5 T.prototypes [(131072, [x])] (w5.heap.size + 1 + 1) [(131072, .slice (some ⟨w5.heap.size + 1, 0, none⟩) 1 1)] rfl rfl (HO5.out.later ((((Below.refl _ _).alloc (Nat.le_refl _) _).alloc (by simp) _).alloc (by simp; omega) _) (by simp)) (by have h := Blk.new ((w5.alloc (.cells #[.int .i64 7680, .int .i64 109, .int .i64 44032, .int .i64 131072, .int .i64 122, .int .i64 173] 3)).alloc (.cells #[.int .i64 x] 3)) 51 #[.int .i64 131072, .slice (some ⟨w5.heap.size + 1, 0, none⟩) 1 1]; simpa [mpCells] using h) rfl (fun i p d hp hd => by match i, hp, hd with | 0, hp, hd => (cases hp; cases hd; have h := new_ints (w := (w5.alloc (.cells #[.int .i64 7680, .int .i64 109, .int .i64 44032, .int .i64 131072, .int .i64 122, .int .i64 173] 3))) (HO5.out.later ((Below.refl _ _).alloc (Nat.le_refl _) _) (by simp)) (by have := HG5.out.size; simp; omega) [x] (by simp) ((Below.refl _ _).alloc (Nat.le_refl _) (.cells #[.int .i64 131072, .slice (some ⟨w5.heap.size + 1, 0, none⟩) 1 1] 51)); simpa using h) | _ + 1, hp, hd => simp at hp) (by simp) (by have := HN.out.c11; simp; omega) (by have := HG5.out.size; simp; omega) ?_; intro v6 w6 ho6 hg6 hs6; have HO6 := Lib.hid ho6; have HG6 := Lib.hid hg6; obtain ⟨A6, m6, c6, rfl⟩ := hs6; clear ho6 hg6; have hb6 := oth_below HG5.out (by omega) HO5.out ((((Below.refl _ _).alloc (Nat.le_refl _) _).alloc (by simp) _).alloc (by simp; omega) _ : Below w5.heap.size w5 (((w5.alloc (.cells #[.int .i64 7680, .int .i64 109, .int .i64 44032, .int .i64 131072, .int .i64 122, .int .i64 173] 3)).alloc (.cells #[.int .i64 x] 3)).alloc (.cells #[.int .i64 131072, .slice (some ⟨w5.heap.size + 1, 0, none⟩) 1 1] 51))) HG6.out; have hx6 := HXB.out.below hb6 (by omega); have hr6 := HRB.out.below hb6 (by omega); have e6 := hx6.at_ (i := 11) rfl; have f6 := hx6.free 11; have HB6 := Lib.hid hb6; have HX6 := Lib.hid hx6; have HR6 := Lib.hid hr6; clear hb6 hx6 hr6))
      go_meet
      case rel => exact Lib.hid (oth11 HTT.out HN.out (by have := HN.out.c11; simp; omega) (HBEL.out.trans (HB6.out.mono (by omega))) (by omega) HX6.out HR6.out (by omega) HO6.out (by omega))
    | 8, _ =>
      have e7 := HTB.out.at_ (i := 7) rfl
      obtain ⟨g0, g1⟩ := pick_in vv (n := 5) (by decide)
      obtain ⟨jj, hjj⟩ := Int.eq_ofNat_of_zero_le g0
      have HP := Lib.hid (fun w : World => pick_any vv 5 w (by decide) (by decide))
      rw [hjj] at HP g1
      clear g0 hjj
      have hj2 : jj < ([2, 3, 4, 60, 61] : List Int).length := by show jj < 5; omega
      obtain ⟨x, hx, _⟩ := get_of hj2
      have HX := Lib.hid (lit_at hx)
      clear hx
      have q0 : (0 : Int) ≤ (jj : Int) := by omega
      go_wp2_with (first
        | (go_at_call 7; refine (HP.out _).mono ?_; rintro e w4 ⟨rfl, rfl⟩)
        | (at_builtin; refine wpList_copy_map rfl (.const (.slice none 0 0)) (.tmp 138) rfl Tryz.underlying27 hi _ hz0 hz1 hz2 rfl [xb] (xb + 1) w0.heap.size t.c7 T.extensions (by simp; omega) rfl rfl HTW.out.r7 (by omega) (by have := HN.out.c7; omega) (by omega) ?_; intro v5 w5 ho5 hg5; have HO5 := Lib.hid ho5; have HG5 := Lib.hid hg5; have y5 := (Blk.new w5 3 #[.int .i64 2, .int .i64 3, .int .i64 4, .int .i64 60, .int .i64 61]).at_ HX.out; clear ho5 hg5)
        | (at_builtin; refine wpList_app_maps rfl (.tmp 139) (.tmp 147) rfl Tryz.underlying27 hi _ hz0 hz1 hz2 rfl [xb] (xb + 1) v5 T.extensions [(131072, [3, x])] (w5.heap.size + 1 + 1) [(131072, .slice (some ⟨w5.heap.size + 1, 0, none⟩) 2 2)] rfl rfl (HO5.out.later ((((Below.refl _ _).alloc (Nat.le_refl _) _).alloc (by simp) _).alloc (by simp; omega) _) (by simp)) (by have h := Blk.new ((w5.alloc (.cells #[.int .i64 2, .int .i64 3, .int .i64 4, .int .i64 60, .int .i64 61] 3)).alloc (.cells #[.int .i64 3, .int .i64 x] 3)) 51 #[.int .i64 131072, .slice (some ⟨w5.heap.size + 1, 0, none⟩) 2 2]; simpa [mpCells] using h) rfl (fun i p d hp hd => by match i, hp, hd with | 0, hp, hd => (cases hp; cases hd; have h := new_ints (w := (w5.alloc (.cells #[.int .i64 2, .int .i64 3, .int .i64 4, .int .i64 60, .int .i64 61] 3))) (HO5.out.later ((Below.refl _ _).alloc (Nat.le_refl _) _) (by simp)) (by have := HG5.out.size; simp; omega) [3, x] (by simp) ((Below.refl _ _).alloc (Nat.le_refl _) (.cells #[.int .i64 131072, .slice (some ⟨w5.heap.size + 1, 0, none⟩) 2 2] 51)); simpa using h) | _ + 1, hp, hd => simp at hp) (by simp) (by have := HN.out.c7; simp; omega) (by have := HG5.out.size; simp; omega) ?_; intro v6 w6 ho6 hg6 hs6; have HO6 := Lib.hid ho6; have HG6 := Lib.hid hg6; obtain ⟨A6, m6, c6, rfl⟩ := hs6; clear ho6 hg6; have hb6 := oth_below HG5.out (by omega) HO5.out ((((Below.refl _ _).alloc (Nat.le_refl _) _).alloc (by simp) _).alloc (by simp; omega) _ : Below w5.heap.size w5 (((w5.alloc (.cells #[.int .i64 2, .int .i64 3, .int .i64 4, .int .i64 60, .int .i64 61] 3)).alloc (.cells #[.int .i64 3, .int .i64 x] 3)).alloc (.cells #[.int .i64 131072, .slice (some ⟨w5.heap.size + 1, 0, none⟩) 2 2] 51))) HG6.out; have hx6 := HXB.out.below hb6 (by omega); have hr6 := HRB.out.below hb6 (by omega); have e6 := hx6.at_ (i := 7) rfl; have f6 := hx6.free 7; have HB6 := Lib.hid hb6; have HX6 := Lib.hid hx6; have HR6 := Lib.hid hr6; clear hb6 hx6 hr6))
      go_meet
      case rel => exact Lib.hid (oth7 HTT.out HN.out (by have := HN.out.c7; simp; omega) (HBEL.out.trans (HB6.out.mono (by omega))) (by omega) HX6.out HR6.out (by omega) HO6.out (by omega))
    | 0, _ =>
      have e1 := HTB.out.at_ (i := 1) rfl
      obtain ⟨i1, hi1, hy0, hy1, hy2⟩ := info_parts Tryz.infoSpan
      obtain ⟨g0, g1⟩ := pick_in vv (n := 5) (by decide)
      go_wp2_with (first
        | (go_at_call 7; refine (pick_any _ _ _ (by decide) (by decide)).mono ?_; rintro e w4 ⟨rfl, rfl⟩)
        | (at_builtin; refine wpList_copy_spans rfl (.const (.slice none 0 0)) (.tmp 29) rfl Tryz.underlying26 hi1 hy0 hy1 hy2 W t.c1 T.cls w0.heap.size rfl rfl HTW.out.r1 (by have := HN.out.c1; omega) (Nat.le_refl _) ?_; intro v5 w5 ho5 hg5; have HO5 := Lib.hid ho5; have HG5 := Lib.hid hg5; clear ho5 hg5)
        | (at_builtin; refine wpList_app_span rfl (.tmp 30) (.tmp 39) rfl Tryz.underlying26 hi1 hy0 hy1 hy2 W v5 w5.heap.size T.cls (131072) (131072 + pick vv 5 - 1) (pick (wrap64 (vv.tdiv 5)) 256) rfl rfl (HO5.out.alloc _) (Blk.new w5 61 #[.int .i64 (131072), .int .i64 (131072 + pick vv 5 - 1), .int .i64 (pick (wrap64 (vv.tdiv 5)) 256)]) (by have := HN.out.c1; omega) (by have := HG5.out.size; simp; omega) ?_; intro v6 w6 ho6 hg6; have HO6 := Lib.hid ho6; have HG6 := Lib.hid hg6; obtain ⟨A6, m6, c6, rfl⟩ := own_slice HO6.out; clear ho6 hg6; have hb6 := oth_below2 HG5.out (by omega) (fun q hq => by have := (HO5.out.lt q hq).1; omega) (((Below.refl _ _).alloc (Nat.le_refl _) _) : Below w5.heap.size w5 (w5.alloc (.cells #[.int .i64 (131072), .int .i64 (131072 + pick vv 5 - 1), .int .i64 (pick (wrap64 (vv.tdiv 5)) 256)] 61))) HG6.out; have hx6 := HXB.out.below hb6 (by omega); have hr6 := HRB.out.below hb6 (by omega); have e6 := hx6.at_ (i := 1) rfl; have f6 := hx6.free 1; have HB6 := Lib.hid hb6; have HX6 := Lib.hid hx6; have HR6 := Lib.hid hr6; clear hb6 hx6 hr6))
      go_meet
      case rel => exact Lib.hid (oth1 HTT.out HN.out (by have := HN.out.c1; simp; omega) (HBEL.out.trans (HB6.out.mono (by omega))) (by omega) HX6.out HR6.out (by omega) HO6.out (by omega))
    | 1, _ =>
      have e5 := HTB.out.at_ (i := 5) rfl
      obtain ⟨i1, hi1, hy0, hy1, hy2⟩ := info_parts Tryz.infoSpan
      go_wp2_with (first
        | (go_at_call 7; refine (pick_any _ _ _ (by decide) (by decide)).mono ?_; rintro e w4 ⟨rfl, rfl⟩)
        | (at_builtin; refine wpList_copy_spans rfl (.const (.slice none 0 0)) (.tmp 45) rfl Tryz.underlying26 hi1 hy0 hy1 hy2 W t.c5 T.status w0.heap.size rfl rfl HTW.out.r5 (by have := HN.out.c5; omega) (Nat.le_refl _) ?_; intro v5 w5 ho5 hg5; have HO5 := Lib.hid ho5; have HG5 := Lib.hid hg5; clear ho5 hg5)
        | (at_builtin; refine wpList_app_span rfl (.tmp 46) (.tmp 50) rfl Tryz.underlying26 hi1 hy0 hy1 hy2 W v5 w5.heap.size T.status (131072) (131072) (pick vv 6) rfl rfl (HO5.out.alloc _) (Blk.new w5 61 #[.int .i64 (131072), .int .i64 (131072), .int .i64 (pick vv 6)]) (by have := HN.out.c5; omega) (by have := HG5.out.size; simp; omega) ?_; intro v6 w6 ho6 hg6; have HO6 := Lib.hid ho6; have HG6 := Lib.hid hg6; obtain ⟨A6, m6, c6, rfl⟩ := own_slice HO6.out; clear ho6 hg6; have hb6 := oth_below2 HG5.out (by omega) (fun q hq => by have := (HO5.out.lt q hq).1; omega) (((Below.refl _ _).alloc (Nat.le_refl _) _) : Below w5.heap.size w5 (w5.alloc (.cells #[.int .i64 (131072), .int .i64 (131072), .int .i64 (pick vv 6)] 61))) HG6.out; have hx6 := HXB.out.below hb6 (by omega); have hr6 := HRB.out.below hb6 (by omega); have e6 := hx6.at_ (i := 5) rfl; have f6 := hx6.free 5; have HB6 := Lib.hid hb6; have HX6 := Lib.hid hx6; have HR6 := Lib.hid hr6; clear hb6 hx6 hr6))
      go_meet
      case rel => exact Lib.hid (oth5 HTT.out HN.out (by have := HN.out.c5; simp; omega) (HBEL.out.trans (HB6.out.mono (by omega))) (by omega) HX6.out HR6.out (by omega) HO6.out (by omega))
    | 5, _ =>
      have e10 := HTB.out.at_ (i := 10) rfl
      obtain ⟨i1, hi1, hy0, hy1, hy2⟩ := info_parts Tryz.infoInt'
      obtain ⟨g0, g1⟩ := pick_in vv (n := 4) (by decide)
      obtain ⟨jj, hjj⟩ := Int.eq_ofNat_of_zero_le g0
      have HP := Lib.hid (fun w : World => pick_any vv 4 w (by decide) (by decide))
      rw [hjj] at HP g1
      clear g0 hjj
      have hj2 : jj < ([131072, 7684, 945, 5] : List Int).length := by show jj < 4; omega
      obtain ⟨x, hx, _⟩ := get_of hj2
      have HX := Lib.hid (lit_at hx)
      clear hx
      have q0 : (0 : Int) ≤ (jj : Int) := by omega
      go_wp2_with (first
        | (go_at_call 7; refine (HP.out _).mono ?_; rintro e w4 ⟨rfl, rfl⟩)
        | (at_builtin; refine wpList_append_ints (by rfl) (.const (.slice none 0 0)) (.tmp 100) rfl Tryz.underlying22 hi1 hy0 hy1 hy2 w0.heap.size (xb + 1) (.slice none 0 0) [] t.c10 T.excluded rfl (World.ownsRow_nil _ _ _ _) rfl HTW.out.r10 (by have := HN.out.c10; simp; omega) (by omega) ?_; intro v5 w5 ho5 hg5 _; have HO5 := Lib.hid (show w5.ownsRow (xb + 1) 3 1 v5 T.excluded.length (T.excluded.map (Value.int .i64)) from ho5); have HG5 := Lib.hid hg5; have y5 := (Blk.new w5 3 #[.int .i64 131072, .int .i64 7684, .int .i64 945, .int .i64 5]).at_ HX.out; clear ho5 hg5)
        | (at_builtin; refine wpList_append_ints (by rfl) (.tmp 101) (.tmp 107) rfl Tryz.underlying22 hi1 hy0 hy1 hy2 (w5.heap.size + 1 + 1) (xb + 1) v5 T.excluded (.slice (some ⟨w5.heap.size + 1, 0, none⟩) 1 1) [x] rfl ((HO5.out.alloc _).alloc _) rfl (by have h := Ints.of_own (own_new (w5.alloc (.cells #[.int .i64 131072, .int .i64 7684, .int .i64 945, .int .i64 5] 3)) 3 [x] (by simp)); simpa using h) (by have := HN.out.c10; simp; omega) (by have := HG5.out.size; simp; omega) ?_; intro v6 w6 ho6 hg6 _; have HO6 := Lib.hid ho6; have HG6 := Lib.hid hg6; obtain ⟨A6, m6, c6, rfl⟩ := own_slice HO6.out; clear ho6 hg6; have hb6 := oth_below2 HG5.out (by omega) (fun q hq => by have := (HO5.out.lt q hq).1; omega) ((((Below.refl _ _).alloc (Nat.le_refl _) _).alloc (by simp) _) : Below w5.heap.size w5 ((w5.alloc (.cells #[.int .i64 131072, .int .i64 7684, .int .i64 945, .int .i64 5] 3)).alloc (.cells #[.int .i64 x] 3))) HG6.out; have hx6 := HXB.out.below hb6 (by omega); have hr6 := HRB.out.below hb6 (by omega); have e6 := hx6.at_ (i := 10) rfl; have f6 := hx6.free 10; have HB6 := Lib.hid hb6; have HX6 := Lib.hid hx6; have HR6 := Lib.hid hr6; clear hb6 hx6 hr6))
      go_meet
      case rel => exact Lib.hid (oth10 HTT.out HN.out (by have := HN.out.c10; simp; omega) (HBEL.out.trans (HB6.out.mono (by omega))) (by omega) HX6.out HR6.out (by omega) HO6.out (by omega))
    | 11, _ =>
      have e9 := HTB.out.at_ (i := 9) rfl
      obtain ⟨g0, g1⟩ := pick_in vv (n := 2) (by decide)
      rcases show pick vv 2 = 0 ∨ pick vv 2 = 1 by omega with hb2 | hb2
      · clear g0 g1
        have HP := Lib.hid (fun w : World => pick_any vv 2 w (by decide) (by decide))
        rw [hb2] at HP
        clear hb2
        go_wp2_with (first
          | (go_at_call 7; refine (HP.out _).mono ?_; rintro e w4 ⟨rfl, rfl⟩)
          | (at_builtin; refine wpList_copy_map rfl (.const (.slice none 0 0)) (.tmp 14) rfl Tryz.underlying27 hi _ hz0 hz1 hz2 rfl [xb] (xb + 1) w0.heap.size t.c9 T.decomps (by simp; omega) rfl rfl HTW.out.r9 (by omega) (by have := HN.out.c9; omega) (by omega) ?_; intro v5 w5 ho5 hg5; have HO5 := Lib.hid ho5; have HG5 := Lib.hid hg5; clear ho5 hg5)
          | (at_builtin; refine wpList_app_maps rfl (.tmp 15) (.tmp 23) rfl Tryz.underlying27 hi _ hz0 hz1 hz2 rfl [xb] (xb + 1) v5 T.decomps [(131072, [131073]), (131073, [98, 131072])] (w5.heap.size + 1 + 1) [(131072, .slice (some ⟨w5.heap.size, 0, none⟩) 1 1), (131073, .slice (some ⟨w5.heap.size + 1, 0, none⟩) 2 2)] rfl rfl (HO5.out.later ((((Below.refl _ _).alloc (Nat.le_refl _) _).alloc (by simp) _).alloc (by simp; omega) _) (by simp)) (by have h := Blk.new ((w5.alloc (.cells #[.int .i64 131073] 3)).alloc (.cells #[.int .i64 98, .int .i64 131072] 3)) 51 #[.int .i64 131072, .slice (some ⟨w5.heap.size, 0, none⟩) 1 1, .int .i64 131073, .slice (some ⟨w5.heap.size + 1, 0, none⟩) 2 2]; simpa [mpCells] using h) rfl (fun i p d hp hd => by match i, hp, hd with | 0, hp, hd => (cases hp; cases hd; exact new_ints HO5.out (by have := HG5.out.size; simp; omega) [131073] (by simp) (((Below.refl _ _).alloc (Nat.le_refl _) (.cells #[.int .i64 98, .int .i64 131072] 3)).alloc (by simp) (.cells #[.int .i64 131072, .slice (some ⟨w5.heap.size, 0, none⟩) 1 1, .int .i64 131073, .slice (some ⟨w5.heap.size + 1, 0, none⟩) 2 2] 51))) | 1, hp, hd => (cases hp; cases hd; have h := new_ints_off (w := (w5.alloc (.cells #[.int .i64 131073] 3))) (HO5.out.later ((Below.refl _ _).alloc (Nat.le_refl _) _) (by simp)) (by have := HG5.out.size; simp; omega) [98, 131072] 0 2 2 (by simp) (by simp) (by simp) (by simp) ((Below.refl _ _).alloc (Nat.le_refl _) (.cells #[.int .i64 131072, .slice (some ⟨w5.heap.size, 0, none⟩) 1 1, .int .i64 131073, .slice (some ⟨w5.heap.size + 1, 0, none⟩) 2 2] 51)); simpa using h) | _ + 2, hp, hd => simp at hp) (by simp) (by have := HN.out.c9; simp; omega) (by have := HG5.out.size; simp; omega) ?_; intro v6 w6 ho6 hg6 hs6; have HO6 := Lib.hid ho6; have HG6 := Lib.hid hg6; obtain ⟨A6, m6, c6, rfl⟩ := hs6; clear ho6 hg6; have hb6 := oth_below HG5.out (by omega) HO5.out (((((Below.refl _ _).alloc (Nat.le_refl _) _).alloc (by simp) _).alloc (by simp; omega) _) : Below w5.heap.size w5 (((w5.alloc (.cells #[.int .i64 131073] 3)).alloc (.cells #[.int .i64 98, .int .i64 131072] 3)).alloc (.cells #[.int .i64 131072, .slice (some ⟨w5.heap.size, 0, none⟩) 1 1, .int .i64 131073, .slice (some ⟨w5.heap.size + 1, 0, none⟩) 2 2] 51))) HG6.out; have hx6 := HXB.out.below hb6 (by omega); have hr6 := HRB.out.below hb6 (by omega); have e6 := hx6.at_ (i := 9) rfl; have f6 := hx6.free 9; have HB6 := Lib.hid hb6; have HX6 := Lib.hid hx6; have HR6 := Lib.hid hr6; clear hb6 hx6 hr6))
        go_meet
        case rel => exact Lib.hid (oth9 HTT.out HN.out (by have := HN.out.c9; simp; omega) (HBEL.out.trans (HB6.out.mono (by omega))) (by omega) HX6.out HR6.out (by omega) HO6.out (by omega))
      · clear g0 g1
        have HP := Lib.hid (fun w : World => pick_any vv 2 w (by decide) (by decide))
        rw [hb2] at HP
        clear hb2
        go_wp2_with (first
          | (go_at_call 7; refine (HP.out _).mono ?_; rintro e w4 ⟨rfl, rfl⟩)
          | (at_builtin; refine wpList_copy_map rfl (.const (.slice none 0 0)) (.tmp 14) rfl Tryz.underlying27 hi _ hz0 hz1 hz2 rfl [xb] (xb + 1) w0.heap.size t.c9 T.decomps (by simp; omega) rfl rfl HTW.out.r9 (by omega) (by have := HN.out.c9; omega) (by omega) ?_; intro v5 w5 ho5 hg5; have HO5 := Lib.hid ho5; have HG5 := Lib.hid hg5; clear ho5 hg5)
          | (at_builtin; refine wpList_app_maps rfl (.tmp 15) (.tmp 23) rfl Tryz.underlying27 hi _ hz0 hz1 hz2 rfl [xb] (xb + 1) v5 T.decomps [(131072, [131073]), (131073, [131072])] (w5.heap.size + 1 + 1) [(131072, .slice (some ⟨w5.heap.size, 0, none⟩) 1 1), (131073, .slice (some ⟨w5.heap.size + 1, 1, none⟩) 1 1)] rfl rfl (HO5.out.later ((((Below.refl _ _).alloc (Nat.le_refl _) _).alloc (by simp) _).alloc (by simp; omega) _) (by simp)) (by have h := Blk.new ((w5.alloc (.cells #[.int .i64 131073] 3)).alloc (.cells #[.int .i64 98, .int .i64 131072] 3)) 51 #[.int .i64 131072, .slice (some ⟨w5.heap.size, 0, none⟩) 1 1, .int .i64 131073, .slice (some ⟨w5.heap.size + 1, 1, none⟩) 1 1]; simpa [mpCells] using h) rfl (fun i p d hp hd => by match i, hp, hd with | 0, hp, hd => (cases hp; cases hd; exact new_ints HO5.out (by have := HG5.out.size; simp; omega) [131073] (by simp) (((Below.refl _ _).alloc (Nat.le_refl _) (.cells #[.int .i64 98, .int .i64 131072] 3)).alloc (by simp) (.cells #[.int .i64 131072, .slice (some ⟨w5.heap.size, 0, none⟩) 1 1, .int .i64 131073, .slice (some ⟨w5.heap.size + 1, 1, none⟩) 1 1] 51))) | 1, hp, hd => (cases hp; cases hd; have h := new_ints_off (w := (w5.alloc (.cells #[.int .i64 131073] 3))) (HO5.out.later ((Below.refl _ _).alloc (Nat.le_refl _) _) (by simp)) (by have := HG5.out.size; simp; omega) [98, 131072] 1 1 1 (by simp) (by simp) (by simp) (by simp) ((Below.refl _ _).alloc (Nat.le_refl _) (.cells #[.int .i64 131072, .slice (some ⟨w5.heap.size, 0, none⟩) 1 1, .int .i64 131073, .slice (some ⟨w5.heap.size + 1, 1, none⟩) 1 1] 51)); simpa using h) | _ + 2, hp, hd => simp at hp) (by simp) (by have := HN.out.c9; simp; omega) (by have := HG5.out.size; simp; omega) ?_; intro v6 w6 ho6 hg6 hs6; have HO6 := Lib.hid ho6; have HG6 := Lib.hid hg6; obtain ⟨A6, m6, c6, rfl⟩ := hs6; clear ho6 hg6; have hb6 := oth_below HG5.out (by omega) HO5.out (((((Below.refl _ _).alloc (Nat.le_refl _) _).alloc (by simp) _).alloc (by simp; omega) _) : Below w5.heap.size w5 (((w5.alloc (.cells #[.int .i64 131073] 3)).alloc (.cells #[.int .i64 98, .int .i64 131072] 3)).alloc (.cells #[.int .i64 131072, .slice (some ⟨w5.heap.size, 0, none⟩) 1 1, .int .i64 131073, .slice (some ⟨w5.heap.size + 1, 1, none⟩) 1 1] 51))) HG6.out; have hx6 := HXB.out.below hb6 (by omega); have hr6 := HRB.out.below hb6 (by omega); have e6 := hx6.at_ (i := 9) rfl; have f6 := hx6.free 9; have HB6 := Lib.hid hb6; have HX6 := Lib.hid hx6; have HR6 := Lib.hid hr6; clear hb6 hx6 hr6))
        go_meet
        case rel => exact Lib.hid (oth9 HTT.out HN.out (by have := HN.out.c9; simp; omega) (HBEL.out.trans (HB6.out.mono (by omega))) (by omega) HX6.out HR6.out (by omega) HO6.out (by omega))
    | 3, _ =>
      have e9 := HTB.out.at_ (i := 9) rfl
      obtain ⟨g0, g1⟩ := pick_in at' (n := 2) (by decide)
      obtain ⟨p0, p1⟩ := pick_in vv (n := 6) (by decide)
      have HP := Lib.hid (fun w : World => pick_any vv 6 w (by decide) (by decide))
      have HQ := Lib.hid (fun w : World => pick_any at' 2 w (by decide) (by decide))
      generalize pick vv 6 = p at HP p0 p1
      rcases show pick at' 2 = 0 ∨ pick at' 2 = 1 by omega with hb2 | hb2
      · clear g0 g1
        rw [hb2] at HQ
        clear hb2
        go_wp2_with (first
          | (go_at_call 7; refine (HP.out _).mono ?_; rintro e w4 ⟨rfl, rfl⟩)
          | (go_at_call 7; refine (HQ.out _).mono ?_; rintro e w4 ⟨rfl, rfl⟩)
          | (at_builtin; refine wpList_copy_map rfl (.const (.slice none 0 0)) (.tmp 68) rfl Tryz.underlying27 hi _ hz0 hz1 hz2 rfl [xb] (xb + 1) w0.heap.size t.c9 T.decomps (by simp; omega) rfl rfl HTW.out.r9 (by omega) (by have := HN.out.c9; omega) (by omega) ?_; intro v5 w5 ho5 hg5; have HO5 := Lib.hid ho5; have HG5 := Lib.hid hg5; clear ho5 hg5)
          | (at_builtin; refine wpList_app_maps rfl (.tmp 69) (.tmp 79) rfl Tryz.underlying27 hi _ hz0 hz1 hz2 rfl [xb] (xb + 1) v5 T.decomps [(131072, [7680 + p])] (w5.heap.size + 1) [(131072, .slice (some ⟨w5.heap.size, 0, none⟩) 1 2)] rfl rfl (HO5.out.later (((Below.refl _ _).alloc (Nat.le_refl _) _).alloc (by simp) _) (by simp)) (by have h := Blk.new (w5.alloc (.cells #[.int .i64 (7680 + p), .int .i64 769] 3)) 51 #[.int .i64 131072, .slice (some ⟨w5.heap.size, 0, none⟩) 1 2]; simpa [mpCells] using h) rfl (fun i p' d hp hd => by match i, hp, hd with | 0, hp, hd => (cases hp; cases hd; have h := new_ints_off HO5.out (by have := HG5.out.size; simp; omega) [7680 + p, 769] 0 1 2 (by simp) (by simp) (by simp) (by simp) ((Below.refl _ _).alloc (Nat.le_refl _) (.cells #[.int .i64 131072, .slice (some ⟨w5.heap.size, 0, none⟩) 1 2] 51)); simpa using h) | _ + 1, hp, hd => simp at hp) (by simp) (by have := HN.out.c9; simp; omega) (by have := HG5.out.size; simp; omega) ?_; intro v6 w6 ho6 hg6 hs6; have HO6 := Lib.hid ho6; have HG6 := Lib.hid hg6; obtain ⟨A6, m6, c6, rfl⟩ := hs6; clear ho6 hg6; have hb6 := oth_below HG5.out (by omega) HO5.out ((((Below.refl _ _).alloc (Nat.le_refl _) _).alloc (by simp) _) : Below w5.heap.size w5 ((w5.alloc (.cells #[.int .i64 (7680 + p), .int .i64 769] 3)).alloc (.cells #[.int .i64 131072, .slice (some ⟨w5.heap.size, 0, none⟩) 1 2] 51))) HG6.out; have hx6 := HXB.out.below hb6 (by omega); have hr6 := HRB.out.below hb6 (by omega); have e6 := hx6.at_ (i := 9) rfl; have f6 := hx6.free 9; have HB6 := Lib.hid hb6; have HX6 := Lib.hid hx6; have HR6 := Lib.hid hr6; clear hb6 hx6 hr6))
        go_meet
        case rel => exact Lib.hid (oth9 HTT.out HN.out (by have := HN.out.c9; simp; omega) (HBEL.out.trans (HB6.out.mono (by omega))) (by omega) HX6.out HR6.out (by omega) HO6.out (by omega))
      · clear g0 g1
        rw [hb2] at HQ
        clear hb2
        go_wp2_with (first
          | (go_at_call 7; refine (HP.out _).mono ?_; rintro e w4 ⟨rfl, rfl⟩)
          | (go_at_call 7; refine (HQ.out _).mono ?_; rintro e w4 ⟨rfl, rfl⟩)
          | (at_builtin; refine wpList_copy_map rfl (.const (.slice none 0 0)) (.tmp 68) rfl Tryz.underlying27 hi _ hz0 hz1 hz2 rfl [xb] (xb + 1) w0.heap.size t.c9 T.decomps (by simp; omega) rfl rfl HTW.out.r9 (by omega) (by have := HN.out.c9; omega) (by omega) ?_; intro v5 w5 ho5 hg5; have HO5 := Lib.hid ho5; have HG5 := Lib.hid hg5; clear ho5 hg5)
          | (at_builtin; refine wpList_app_maps rfl (.tmp 69) (.tmp 79) rfl Tryz.underlying27 hi _ hz0 hz1 hz2 rfl [xb] (xb + 1) v5 T.decomps [(131072, [7680 + p, 769])] (w5.heap.size + 1) [(131072, .slice (some ⟨w5.heap.size, 0, none⟩) 2 2)] rfl rfl (HO5.out.later (((Below.refl _ _).alloc (Nat.le_refl _) _).alloc (by simp) _) (by simp)) (by have h := Blk.new (w5.alloc (.cells #[.int .i64 (7680 + p), .int .i64 769] 3)) 51 #[.int .i64 131072, .slice (some ⟨w5.heap.size, 0, none⟩) 2 2]; simpa [mpCells] using h) rfl (fun i p' d hp hd => by match i, hp, hd with | 0, hp, hd => (cases hp; cases hd; have h := new_ints_off HO5.out (by have := HG5.out.size; simp; omega) [7680 + p, 769] 0 2 2 (by simp) (by simp) (by simp) (by simp) ((Below.refl _ _).alloc (Nat.le_refl _) (.cells #[.int .i64 131072, .slice (some ⟨w5.heap.size, 0, none⟩) 2 2] 51)); simpa using h) | _ + 1, hp, hd => simp at hp) (by simp) (by have := HN.out.c9; simp; omega) (by have := HG5.out.size; simp; omega) ?_; intro v6 w6 ho6 hg6 hs6; have HO6 := Lib.hid ho6; have HG6 := Lib.hid hg6; obtain ⟨A6, m6, c6, rfl⟩ := hs6; clear ho6 hg6; have hb6 := oth_below HG5.out (by omega) HO5.out ((((Below.refl _ _).alloc (Nat.le_refl _) _).alloc (by simp) _) : Below w5.heap.size w5 ((w5.alloc (.cells #[.int .i64 (7680 + p), .int .i64 769] 3)).alloc (.cells #[.int .i64 131072, .slice (some ⟨w5.heap.size, 0, none⟩) 2 2] 51))) HG6.out; have hx6 := HXB.out.below hb6 (by omega); have hr6 := HRB.out.below hb6 (by omega); have e6 := hx6.at_ (i := 9) rfl; have f6 := hx6.free 9; have HB6 := Lib.hid hb6; have HX6 := Lib.hid hx6; have HR6 := Lib.hid hr6; clear hb6 hx6 hr6))
        go_meet
        case rel => exact Lib.hid (oth9 HTT.out HN.out (by have := HN.out.c9; simp; omega) (HBEL.out.trans (HB6.out.mono (by omega))) (by omega) HX6.out HR6.out (by omega) HO6.out (by omega))
    | 2, _ =>
      go_upto_region 9 with fail
      refine wp_region_as (ops := opsO 9) (by kernel_rfl) ?_
      refine other_case2 (xb := xb) (tb := tb) (vv := vv) (av := at') ⟨rfl, rfl, rfl, rfl, rfl, rfl⟩ HTB.out (by omega) HXB.out HRB.out (by omega) HTT.out HN.out hn2 HBEL.out (by omega) fun f w h => ?_
      rename_i J K' hJ hK' hx
      refine hK' _ _ (Met.intro (hJ _ _ ?_))
      (repeat apply Exists.intro)
      refine ⟨?rel, rfl⟩
      case rel => exact Lib.hid h
    | 9, _ =>
      go_upto_region 23 with fail
      refine wp_region_as (ops := opsO 23) (by kernel_rfl) ?_
      refine other_case9 (xb := xb) (tb := tb) (vv := vv) (av := at') ⟨rfl, rfl, rfl, rfl, rfl, rfl⟩ HTB.out (by omega) HXB.out HRB.out (by omega) HTT.out HN.out hn2 HBEL.out (by omega) fun f w h => ?_
      rename_i J K' hJ hK' hx
      refine hK' _ _ (Met.intro (hJ _ _ ?_))
      (repeat apply Exists.intro)
      refine ⟨?rel, rfl⟩
      case rel => exact Lib.hid h
    | 10, _ =>
      have e2 := HTB.out.at_ (i := 2) rfl
      obtain ⟨i1, hi1, hy0, hy1, hy2⟩ := info_parts Tryz.infoSpan
      go_upto_region 27 with (first
        | (at_builtin; refine wpList_copy_spans rfl (.const (.slice none 0 0)) (.tmp 175) rfl Tryz.underlying26 hi1 hy0 hy1 hy2 W t.c2 T.joining w0.heap.size rfl rfl HTW.out.r2 (by have := HN.out.c2; omega) (Nat.le_refl _) ?_; intro v5 w5 ho5 hg5; have HO5 := Lib.hid ho5; obtain ⟨Aq, cq, rfl, hsp⟩ := Spans.of_own HO5.out; clear hsp; have hb5 : Below (xb + 1) W w5 := (Below.refl _ _).grown hg5 (by omega) (fun k hk => by cases hk); have hx5 := HXB.out.below hb5 (by omega); have hr5 := HRB.out.below hb5 (by omega); have e5 := hx5.at_ (i := 2) rfl; have f5 := hx5.free 2; have HB5 := Lib.hid hb5; have HX5 := Lib.hid hx5; have HR5 := Lib.hid hr5; clear ho5 hg5 hb5 hx5 hr5))
      · rename_i J K' hJ hK' hx hpos
        obtain ⟨g, cap, e, hg1, hg2⟩ := HO5.out.form hpos
        cases e
        refine wp_region_as (ops := opsO 27) (by kernel_rfl) ?_
        refine other_case10 (t := t) (xb := xb) (tb := tb) (vv := vv) (av := at') ⟨rfl, rfl, rfl, rfl, rfl, rfl⟩ (by simpa using HX5.out.put 2 (.slice (some ⟨g, 0, none⟩) T.joining.length cq)) (HR5.out.far (by show rb ≠ xb; omega) _) (by omega) HTT.out HN.out hn2 ((HBEL.out.trans (HB5.out.mono (by omega))).setCell (p := ⟨xb, 2, none⟩) (by show w0.heap.size ≤ xb; omega) _) (by omega) hpos (own_le (own_grown HO5.out (grown_setCell (grown_refl w5 (some xb)) 2 _) (by omega)) (by omega)) fun f w h => ?_
        refine hK' _ _ (Met.intro (hJ _ _ ?_))
        (repeat apply Exists.intro)
        refine ⟨?rel, rfl⟩
        case rel => exact Lib.hid h
      · go_meet
        case rel => exact Lib.hid (oth2 HTT.out HN.out (by have := HN.out.c2; omega) (HBEL.out.trans (HB5.out.mono (by omega))) (by omega) HX5.out HR5.out (by omega) HO5.out (by omega))
    | m + 12, h => exact absurd h (by omega)
  case rest =>
    obtain ⟨t', T', hX, hT, hN', hB, hR⟩ := hcut.out
    obtain ⟨B0, B1, B2, B3, B4, B5, B6, B7, B8, B9, B10, B11, m0, m1, m2, m3, m4, m5, m6, m7, m8, m9, m10, m11, rfl⟩ := hT.shape
    obtain ⟨x0, x1, x2, x3, x4, x5, x6, x7, x8, x9, x10, x11⟩ := hX.tab
    obtain ⟨y0, y1, y2, y3, y4, y5, y6, y7, y8, y9, y10, y11⟩ := hR.tab
    have HRX := Lib.hid hR
    have HTX := Lib.hid hT
    have HBX := Lib.hid hB
    have HNX := Lib.hid hN'
    have fr := hR.free
    clear hX hT hN' hB hR hcut
    simp only at x0 x1 x2 x3 x4 x5 x6 x7 x8 x9 x10 x11
    go_wp2
    have hg : wc.grownBy ((((((((((((wc.setCell ⟨rb, 0, none⟩ (.slice B0 T'.category.length m0)).setCell ⟨rb, 1, none⟩ (.slice B1 T'.cls.length m1)).setCell ⟨rb, 2, none⟩ (.slice B2 T'.joining.length m2)).setCell ⟨rb, 3, none⟩ (.slice B3 T'.bidi.length m3)).setCell ⟨rb, 4, none⟩ (.slice B4 T'.script.length m4)).setCell ⟨rb, 5, none⟩ (.slice B5 T'.status.length m5)).setCell ⟨rb, 6, none⟩ (.slice B6 T'.ignorable.length m6)).setCell ⟨rb, 7, none⟩ (.slice B7 T'.extensions.length m7)).setCell ⟨rb, 8, none⟩ (.slice B8 T'.maps.length m8)).setCell ⟨rb, 9, none⟩ (.slice B9 T'.decomps.length m9)).setCell ⟨rb, 10, none⟩ (.slice B10 T'.excluded.length m10)).setCell ⟨rb, 11, none⟩ (.slice B11 T'.prototypes.length m11)) (some rb) := (grown_setCell (grown_setCell (grown_setCell (grown_setCell (grown_setCell (grown_setCell (grown_setCell (grown_setCell (grown_setCell (grown_setCell (grown_setCell (grown_setCell (grown_refl wc (some rb)) 0 (.slice B0 T'.category.length m0)) 1 (.slice B1 T'.cls.length m1)) 2 (.slice B2 T'.joining.length m2)) 3 (.slice B3 T'.bidi.length m3)) 4 (.slice B4 T'.script.length m4)) 5 (.slice B5 T'.status.length m5)) 6 (.slice B6 T'.ignorable.length m6)) 7 (.slice B7 T'.extensions.length m7)) 8 (.slice B8 T'.maps.length m8)) 9 (.slice B9 T'.decomps.length m9)) 10 (.slice B10 T'.excluded.length m10)) 11 (.slice B11 T'.prototypes.length m11))
    have hbf : Blk ((((((((((((wc.setCell ⟨rb, 0, none⟩ (.slice B0 T'.category.length m0)).setCell ⟨rb, 1, none⟩ (.slice B1 T'.cls.length m1)).setCell ⟨rb, 2, none⟩ (.slice B2 T'.joining.length m2)).setCell ⟨rb, 3, none⟩ (.slice B3 T'.bidi.length m3)).setCell ⟨rb, 4, none⟩ (.slice B4 T'.script.length m4)).setCell ⟨rb, 5, none⟩ (.slice B5 T'.status.length m5)).setCell ⟨rb, 6, none⟩ (.slice B6 T'.ignorable.length m6)).setCell ⟨rb, 7, none⟩ (.slice B7 T'.extensions.length m7)).setCell ⟨rb, 8, none⟩ (.slice B8 T'.maps.length m8)).setCell ⟨rb, 9, none⟩ (.slice B9 T'.decomps.length m9)).setCell ⟨rb, 10, none⟩ (.slice B10 T'.excluded.length m10)).setCell ⟨rb, 11, none⟩ (.slice B11 T'.prototypes.length m11)) rb 29 #[.slice B0 T'.category.length m0, .slice B1 T'.cls.length m1, .slice B2 T'.joining.length m2, .slice B3 T'.bidi.length m3, .slice B4 T'.script.length m4, .slice B5 T'.status.length m5, .slice B6 T'.ignorable.length m6, .slice B7 T'.extensions.length m7, .slice B8 T'.maps.length m8, .slice B9 T'.decomps.length m9, .slice B10 T'.excluded.length m10, .slice B11 T'.prototypes.length m11] := by have h := ((((((((((((HRX.out.put 0 (.slice B0 T'.category.length m0)).put 1 (.slice B1 T'.cls.length m1)).put 2 (.slice B2 T'.joining.length m2)).put 3 (.slice B3 T'.bidi.length m3)).put 4 (.slice B4 T'.script.length m4)).put 5 (.slice B5 T'.status.length m5)).put 6 (.slice B6 T'.ignorable.length m6)).put 7 (.slice B7 T'.extensions.length m7)).put 8 (.slice B8 T'.maps.length m8)).put 9 (.slice B9 T'.decomps.length m9)).put 10 (.slice B10 T'.excluded.length m10)).put 11 (.slice B11 T'.prototypes.length m11)); simpa using h
    have hrw : w0.heap.size ≤ rb := by omega
    have hbelF : Below w0.heap.size w0 ((((((((((((wc.setCell ⟨rb, 0, none⟩ (.slice B0 T'.category.length m0)).setCell ⟨rb, 1, none⟩ (.slice B1 T'.cls.length m1)).setCell ⟨rb, 2, none⟩ (.slice B2 T'.joining.length m2)).setCell ⟨rb, 3, none⟩ (.slice B3 T'.bidi.length m3)).setCell ⟨rb, 4, none⟩ (.slice B4 T'.script.length m4)).setCell ⟨rb, 5, none⟩ (.slice B5 T'.status.length m5)).setCell ⟨rb, 6, none⟩ (.slice B6 T'.ignorable.length m6)).setCell ⟨rb, 7, none⟩ (.slice B7 T'.extensions.length m7)).setCell ⟨rb, 8, none⟩ (.slice B8 T'.maps.length m8)).setCell ⟨rb, 9, none⟩ (.slice B9 T'.decomps.length m9)).setCell ⟨rb, 10, none⟩ (.slice B10 T'.excluded.length m10)).setCell ⟨rb, 11, none⟩ (.slice B11 T'.prototypes.length m11)) := HBX.out.grown hg HBX.out.size (fun q hq => by injection hq; omega)
    have htc := (HTX.out.reveil0).apart (no_int HRX.out (by simp))
    have htF : TabR ((((((((((((wc.setCell ⟨rb, 0, none⟩ (.slice B0 T'.category.length m0)).setCell ⟨rb, 1, none⟩ (.slice B1 T'.cls.length m1)).setCell ⟨rb, 2, none⟩ (.slice B2 T'.joining.length m2)).setCell ⟨rb, 3, none⟩ (.slice B3 T'.bidi.length m3)).setCell ⟨rb, 4, none⟩ (.slice B4 T'.script.length m4)).setCell ⟨rb, 5, none⟩ (.slice B5 T'.status.length m5)).setCell ⟨rb, 6, none⟩ (.slice B6 T'.ignorable.length m6)).setCell ⟨rb, 7, none⟩ (.slice B7 T'.extensions.length m7)).setCell ⟨rb, 8, none⟩ (.slice B8 T'.maps.length m8)).setCell ⟨rb, 9, none⟩ (.slice B9 T'.decomps.length m9)).setCell ⟨rb, 10, none⟩ (.slice B10 T'.excluded.length m10)).setCell ⟨rb, 11, none⟩ (.slice B11 T'.prototypes.length m11)) ((((((((((((wc.setCell ⟨rb, 0, none⟩ (.slice B0 T'.category.length m0)).setCell ⟨rb, 1, none⟩ (.slice B1 T'.cls.length m1)).setCell ⟨rb, 2, none⟩ (.slice B2 T'.joining.length m2)).setCell ⟨rb, 3, none⟩ (.slice B3 T'.bidi.length m3)).setCell ⟨rb, 4, none⟩ (.slice B4 T'.script.length m4)).setCell ⟨rb, 5, none⟩ (.slice B5 T'.status.length m5)).setCell ⟨rb, 6, none⟩ (.slice B6 T'.ignorable.length m6)).setCell ⟨rb, 7, none⟩ (.slice B7 T'.extensions.length m7)).setCell ⟨rb, 8, none⟩ (.slice B8 T'.maps.length m8)).setCell ⟨rb, 9, none⟩ (.slice B9 T'.decomps.length m9)).setCell ⟨rb, 10, none⟩ (.slice B10 T'.excluded.length m10)).setCell ⟨rb, 11, none⟩ (.slice B11 T'.prototypes.length m11)).heap.size ⟨.slice B0 T'.category.length m0, .slice B1 T'.cls.length m1, .slice B2 T'.joining.length m2, .slice B3 T'.bidi.length m3, .slice B4 T'.script.length m4, .slice B5 T'.status.length m5, .slice B6 T'.ignorable.length m6, .slice B7 T'.extensions.length m7, .slice B8 T'.maps.length m8, .slice B9 T'.decomps.length m9, .slice B10 T'.excluded.length m10, .slice B11 T'.prototypes.length m11⟩ T' := by
      refine TabR.unveil (S := []) ((htc.reveil fun p x hp hn hx => ⟨by simp, ?_⟩).more hg.size)
      have e := hg.block p.block hp (fun e => hn (by injection e with e; rw [e]; exact List.mem_cons_self))
      unfold World.cell? at hx ⊢
      rw [e]; exact hx
    have HBF := Lib.hid hbelF
    have HTF := Lib.hid htF
    obtain ⟨z0, z1, z2, z3, z4, z5, z6, z7, z8, z9, z10, z11⟩ := hbf.tab
    clear hg hbf hbelF htF htc x0 x1 x2 x3 x4 x5 x6 x7 x8 x9 x10 x11 y0 y1 y2 y3 y4 y5 y6 y7 y8 y9 y10 y11 fr
    generalize ((((((((((((wc.setCell ⟨rb, 0, none⟩ (.slice B0 T'.category.length m0)).setCell ⟨rb, 1, none⟩ (.slice B1 T'.cls.length m1)).setCell ⟨rb, 2, none⟩ (.slice B2 T'.joining.length m2)).setCell ⟨rb, 3, none⟩ (.slice B3 T'.bidi.length m3)).setCell ⟨rb, 4, none⟩ (.slice B4 T'.script.length m4)).setCell ⟨rb, 5, none⟩ (.slice B5 T'.status.length m5)).setCell ⟨rb, 6, none⟩ (.slice B6 T'.ignorable.length m6)).setCell ⟨rb, 7, none⟩ (.slice B7 T'.extensions.length m7)).setCell ⟨rb, 8, none⟩ (.slice B8 T'.maps.length m8)).setCell ⟨rb, 9, none⟩ (.slice B9 T'.decomps.length m9)).setCell ⟨rb, 10, none⟩ (.slice B10 T'.excluded.length m10)).setCell ⟨rb, 11, none⟩ (.slice B11 T'.prototypes.length m11)) = WF at *
    exact bodyPost_ret (v := Tv.val ⟨.slice B0 T'.category.length m0, .slice B1 T'.cls.length m1, .slice B2 T'.joining.length m2, .slice B3 T'.bidi.length m3, .slice B4 T'.script.length m4, .slice B5 T'.status.length m5, .slice B6 T'.ignorable.length m6, .slice B7 T'.extensions.length m7, .slice B8 T'.maps.length m8, .slice B9 T'.decomps.length m9, .slice B10 T'.excluded.length m10, .slice B11 T'.prototypes.length m11⟩) (by simp [results, Tryz.results8, go_sem, z0, z1, z2, z3, z4, z5, z6, z7, z8, z9, z10, z11]) rfl ⟨⟨.slice B0 T'.category.length m0, .slice B1 T'.cls.length m1, .slice B2 T'.joining.length m2, .slice B3 T'.bidi.length m3, .slice B4 T'.script.length m4, .slice B5 T'.status.length m5, .slice B6 T'.ignorable.length m6, .slice B7 T'.extensions.length m7, .slice B8 T'.maps.length m8, .slice B9 T'.decomps.length m9, .slice B10 T'.excluded.length m10, .slice B11 T'.prototypes.length m11⟩, T', rfl, HTF.out, HNX.out, HBF.out⟩
end Go.Proofs.YtikcfoobfobmnaaGreatDoor
