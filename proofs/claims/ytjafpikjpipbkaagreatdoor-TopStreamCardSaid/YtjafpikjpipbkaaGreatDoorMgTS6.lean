/-
  Merged texts: lemmas and walks that the last text of this claim leans on.
-/
import Derived.Test.YtjafpikjpipbkaaGreatDoorMgTS5
import Derived.Test.YtjafpikjpipbkaaGreatDoorMgTS4
import Derived.Deep.RegionHeld3
import Derived.Test.YtjafpikjpipbkaaGreatDoorMgTS1
import Derived.ChangeKeysEq
import Derived.Maps.Own
set_option maxRecDepth 100000
set_option maxHeartbeats 40000000
namespace Go.Proofs.YtjafpikjpipbkaaGreatDoor
open Go.RowKit ND
theorem Blk.tabG {w:World} {g:Nat} {e:TypeId} {c0 c1 c2 c3 c4 c5 c6 c7 c8 c9 c10 c11:Value} (h:Blk w g e #[c0,c1,c2,c3,c4,c5,c6,c7,c8,c9,c10,c11]) :
  (∀ d os,(Go.Sort.grow (redrawn w d) os).cell? ⟨g,0,none⟩=some c0) ∧ (∀ d os,(Go.Sort.grow (redrawn w d) os).cell? ⟨g,1,none⟩=some c1) ∧ (∀ d os,(Go.Sort.grow (redrawn w d) os).cell? ⟨g,2,none⟩=some c2) ∧ (∀ d os,(Go.Sort.grow (redrawn w d) os).cell? ⟨g,3,none⟩=some c3) ∧
  (∀ d os,(Go.Sort.grow (redrawn w d) os).cell? ⟨g,4,none⟩=some c4) ∧ (∀ d os,(Go.Sort.grow (redrawn w d) os).cell? ⟨g,5,none⟩=some c5) ∧ (∀ d os,(Go.Sort.grow (redrawn w d) os).cell? ⟨g,6,none⟩=some c6) ∧ (∀ d os,(Go.Sort.grow (redrawn w d) os).cell? ⟨g,7,none⟩=some c7) ∧
  (∀ d os,(Go.Sort.grow (redrawn w d) os).cell? ⟨g,8,none⟩=some c8) ∧ (∀ d os,(Go.Sort.grow (redrawn w d) os).cell? ⟨g,9,none⟩=some c9) ∧ (∀ d os,(Go.Sort.grow (redrawn w d) os).cell? ⟨g,10,none⟩=some c10) ∧ (∀ d os,(Go.Sort.grow (redrawn w d) os).cell? ⟨g,11,none⟩=some c11):=by
 obtain ⟨x0,x1,x2,x3,x4,x5,x6,x7,x8,x9,x10,x11⟩:=h.tab
 exact ⟨cell_regrown x0,cell_regrown x1,cell_regrown x2,cell_regrown x3,cell_regrown x4,cell_regrown x5,cell_regrown x6,cell_regrown x7,cell_regrown x8,cell_regrown x9,cell_regrown x10,cell_regrown x11⟩
theorem comp_len {T:Tab} {f:Nat} {c:Int} {tg:List Int} (h:findL T.decomps c=tg) (hl:tg.length ≠ 2):T.compF f c=false:=by
 cases f with
 | zero => rfl
 | succ f =>
   rw [Tab.compF]
   split
   ·rename_i a b he
    rw [h] at he;rw [he] at hl;exact absurd rfl hl
   ·rfl
theorem comp_two {T:Tab} {f:Nat} {c a b:Int} (h:findL T.decomps c=[a,b]):T.compF (f + 1) c=(!T.excB c && (decide (T.classOf c=0) && (decide (T.classOf a=0) && (decide (findL T.decomps b=[]) &&
    ((decide (findL T.decomps a=[]) || T.compF f a) && (decide (T.classOf b=0) || decide (T.classOf (lastF T.decomps f a) ≤ T.classOf b))))))):=by
 rw [Tab.compF,h]
theorem comp_zero (t:Tv) (T:Tab) (c:Int) (tg:List Int) (sv:Value) (w:World) (ht:TabR w w.heap.size t T) (hto:Ints w w.heap.size .i64 sv tg) (hfd:findL T.decomps c=tg) (hfin:fin T.decomps 0 c=true) :
  Calls Tryz.prog 99 #[t.val,.agg #[.int .i64 c,sv]] w fun e w' => e=.returned (.bool (T.compF 0 c)) ∧ Below w.heap.size w w':=by
 have hn:tg=[]:=by rw [fin_zero,decide_eq_true_eq] at hfin;rw [← hfd];exact hfin
 subst hn
 obtain ⟨A0,A1,A2,A3,A4,A5,A6,A7,A8,A9,A10,A11,k0,k1,k2,k3,k4,k5,k6,k7,k8,k9,k10,k11,rfl⟩:=ht.shape
 obtain ⟨As,cs,rfl,_⟩:=hto
 have hB0:Blk ((w.alloc (.cells #[.slice A0 T.category.length k0,.slice A1 T.cls.length k1,.slice A2 T.joining.length k2,.slice A3 T.bidi.length k3,.slice A4 T.script.length k4,.slice A5 T.status.length k5,.slice A6 T.ignorable.length k6,.slice A7 T.extensions.length k7,.slice A8 T.maps.length k8,.slice A9 T.decomps.length k9,.slice A10 T.excluded.length k10,.slice A11 T.prototypes.length k11] 26)).alloc (.cells #[.int .i64 c,.slice As 0 cs] 61)) w.heap.size 26 _:=(Blk.new w 26 _).alloc _
 have hM0:Blk ((w.alloc (.cells #[.slice A0 T.category.length k0,.slice A1 T.cls.length k1,.slice A2 T.joining.length k2,.slice A3 T.bidi.length k3,.slice A4 T.script.length k4,.slice A5 T.status.length k5,.slice A6 T.ignorable.length k6,.slice A7 T.extensions.length k7,.slice A8 T.maps.length k8,.slice A9 T.decomps.length k9,.slice A10 T.excluded.length k10,.slice A11 T.prototypes.length k11] 26)).alloc (.cells #[.int .i64 c,.slice As 0 cs] 61)) (w.heap.size + 1) 61 #[.int .i64 c,.slice As 0 cs]:=by
  have h:=Blk.new (w.alloc (.cells #[.slice A0 T.category.length k0,.slice A1 T.cls.length k1,.slice A2 T.joining.length k2,.slice A3 T.bidi.length k3,.slice A4 T.script.length k4,.slice A5 T.status.length k5,.slice A6 T.ignorable.length k6,.slice A7 T.extensions.length k7,.slice A8 T.maps.length k8,.slice A9 T.decomps.length k9,.slice A10 T.excluded.length k10,.slice A11 T.prototypes.length k11] 26)) 61 #[.int .i64 c,.slice As 0 cs]
  rw [show (w.alloc (.cells #[.slice A0 T.category.length k0,.slice A1 T.cls.length k1,.slice A2 T.joining.length k2,.slice A3 T.bidi.length k3,.slice A4 T.script.length k4,.slice A5 T.status.length k5,.slice A6 T.ignorable.length k6,.slice A7 T.extensions.length k7,.slice A8 T.maps.length k8,.slice A9 T.decomps.length k9,.slice A10 T.excluded.length k10,.slice A11 T.prototypes.length k11] 26)).heap.size=w.heap.size + 1 by simp] at h
  exact h
 have hbel0:Below w.heap.size w ((w.alloc (.cells #[.slice A0 T.category.length k0,.slice A1 T.cls.length k1,.slice A2 T.joining.length k2,.slice A3 T.bidi.length k3,.slice A4 T.script.length k4,.slice A5 T.status.length k5,.slice A6 T.ignorable.length k6,.slice A7 T.extensions.length k7,.slice A8 T.maps.length k8,.slice A9 T.decomps.length k9,.slice A10 T.excluded.length k10,.slice A11 T.prototypes.length k11] 26)).alloc (.cells #[.int .i64 c,.slice As 0 cs] 61)):=((Below.refl _ _).alloc (Nat.le_refl _) _).alloc (by simp) _
 have HB0:=Lib.hid hB0
 have HM0:=Lib.hid hM0
 have HBEL:=Lib.hid hbel0
 have p1:((0:Int) != 2)=true:=by decide
 clear hB0 hM0 hbel0 ht hfd hfin
 show Calls _ _ _ _ fun e w' => e=.returned (.bool false) ∧ _
 go_enter Tryz.func99,Tryz.ntmps99
 go_wp2_with fail
 generalize World.alloc (World.alloc w _) _=w0 at *
 obtain ⟨x0,x1,x2,x3,x4,x5,x6,x7,x8,x9,x10,x11⟩:=HB0.out.tabG
 have m0:=cell_regrown (HM0.out.at_ (i:=0) (u:=.int .i64 c) rfl)
 have m1:=cell_regrown (HM0.out.at_ (i:=1) (u:=.slice As 0 cs) rfl)
 refine wp_region_quiet_below (by kernel_rfl) (by kernel_rfl) ?_
 repeat (go_big_quiet_step (fail))
 refine wpQuiet_nil ?_
 rintro _ ⟨⟨dq,osq⟩,rfl⟩
 clear x0 x1 x2 x3 x4 x5 x6 x7 x8 x9 x10 x11 m0 m1
 go_wp2_with fail
 go_ret
 exact ⟨rfl,below_next HBEL.out (below_regrown _ dq osq)⟩
theorem composable_any (t:Tv) (T:Tab) (hsh:Shape T) (hne:∀ m ∈ T.decomps,m.2 ≠ [] ∧ m.2.length ≤ 1000):∀ (f:Nat) (c:Int) (tg:List Int) (sv:Value) (w:World),TabR w w.heap.size t T → Ints w w.heap.size .i64 sv tg → findL T.decomps c=tg → fin T.decomps f c=true →
  Calls Tryz.prog 99 #[t.val,.agg #[.int .i64 c,sv]] w fun e w' => e=.returned (.bool (T.compF f c)) ∧ Below w.heap.size w w':=by
 intro f
 induction f with
 | zero => exact fun c tg sv w ht hto hfd hfin => comp_zero t T c tg sv w ht hto hfd hfin
 | succ f ih =>
   intro c tg sv w ht hto hfd hfin
   obtain ⟨tc,htc⟩:∃ tc,tc=t.cells:=⟨_,rfl⟩
   have HT:=Lib.hid (fun W (h:Below w.heap.size w W) => ht.later h)
   have hs:=keysB_sort hsh.kd
   have HEX:=Lib.hid (fun x W h => excluded_any t T x W h (keysB_asc hsh.ke) hsh.lenX)
   have HCL:=Lib.hid (fun x W h => class_any t T x 0 1114111 W h hsh.c1.1 hsh.c1.2.1)
   have HLA:=Lib.hid (fun x W h hf => last_any t T hs hne hsh.ld f x W h hf)
   have HIH:=Lib.hid ih
   have HFV:=Lib.hid (fun x W (h:TabR W W.heap.size t T) => find_v t.c9 T.decomps x W h.r9 hs (fun m hm => (hne m hm).1) hsh.ld)
   obtain ⟨A0,A1,A2,A3,A4,A5,A6,A7,A8,A9,A10,A11,k0,k1,k2,k3,k4,k5,k6,k7,k8,k9,k10,k11,rfl⟩:=ht.shape
   have HTC:=Lib.hid htc
   obtain ⟨As,cs,rfl,hcs1,hcs2,_,hcell⟩:=hto
   have hlt:tg.length ≤ 9223372036854775807:=by unfold maxLen at hcs2;omega
   have HCE:=Lib.hid hcell
   have HFD:=Lib.hid hfd
   have HFN:=Lib.hid hfin
   have hnq:=fun (w:World) (a:Option Addr) (n c:Nat) => run_neq_slice_nil_any (P:=Tryz.prog) w 22 3 a n c 0 0 Tryz.underlying22
   clear ht ih htc hcell hcs1 hcs2 hfd hfin hs
   have hB0:Blk ((w.alloc (.cells #[.slice A0 T.category.length k0,.slice A1 T.cls.length k1,.slice A2 T.joining.length k2,.slice A3 T.bidi.length k3,.slice A4 T.script.length k4,.slice A5 T.status.length k5,.slice A6 T.ignorable.length k6,.slice A7 T.extensions.length k7,.slice A8 T.maps.length k8,.slice A9 T.decomps.length k9,.slice A10 T.excluded.length k10,.slice A11 T.prototypes.length k11] 26)).alloc (.cells #[.int .i64 c,.slice As tg.length cs] 61)) w.heap.size 26 _:=(Blk.new w 26 _).alloc _
   have hM0:Blk ((w.alloc (.cells #[.slice A0 T.category.length k0,.slice A1 T.cls.length k1,.slice A2 T.joining.length k2,.slice A3 T.bidi.length k3,.slice A4 T.script.length k4,.slice A5 T.status.length k5,.slice A6 T.ignorable.length k6,.slice A7 T.extensions.length k7,.slice A8 T.maps.length k8,.slice A9 T.decomps.length k9,.slice A10 T.excluded.length k10,.slice A11 T.prototypes.length k11] 26)).alloc (.cells #[.int .i64 c,.slice As tg.length cs] 61)) (w.heap.size + 1) 61 #[.int .i64 c,.slice As tg.length cs]:=by
    have h:=Blk.new (w.alloc (.cells #[.slice A0 T.category.length k0,.slice A1 T.cls.length k1,.slice A2 T.joining.length k2,.slice A3 T.bidi.length k3,.slice A4 T.script.length k4,.slice A5 T.status.length k5,.slice A6 T.ignorable.length k6,.slice A7 T.extensions.length k7,.slice A8 T.maps.length k8,.slice A9 T.decomps.length k9,.slice A10 T.excluded.length k10,.slice A11 T.prototypes.length k11] 26)) 61 #[.int .i64 c,.slice As tg.length cs]
    rw [show (w.alloc (.cells #[.slice A0 T.category.length k0,.slice A1 T.cls.length k1,.slice A2 T.joining.length k2,.slice A3 T.bidi.length k3,.slice A4 T.script.length k4,.slice A5 T.status.length k5,.slice A6 T.ignorable.length k6,.slice A7 T.extensions.length k7,.slice A8 T.maps.length k8,.slice A9 T.decomps.length k9,.slice A10 T.excluded.length k10,.slice A11 T.prototypes.length k11] 26)).heap.size=w.heap.size + 1 by simp] at h
    exact h
   have hbel0:Below w.heap.size w ((w.alloc (.cells #[.slice A0 T.category.length k0,.slice A1 T.cls.length k1,.slice A2 T.joining.length k2,.slice A3 T.bidi.length k3,.slice A4 T.script.length k4,.slice A5 T.status.length k5,.slice A6 T.ignorable.length k6,.slice A7 T.extensions.length k7,.slice A8 T.maps.length k8,.slice A9 T.decomps.length k9,.slice A10 T.excluded.length k10,.slice A11 T.prototypes.length k11] 26)).alloc (.cells #[.int .i64 c,.slice As tg.length cs] 61)):=((Below.refl _ _).alloc (Nat.le_refl _) _).alloc (by simp) _
   have HB0:=Lib.hid hB0
   have HM0:=Lib.hid hM0
   have HBEL:=Lib.hid hbel0
   clear hB0 hM0 hbel0
   by_cases hl:tg.length=2
   ·obtain ⟨a,b,rfl⟩:∃ a b,tg=[a,b]:=by
     match tg,hl with
     | [a,b],_ => exact ⟨a,b,rfl⟩
    obtain ⟨R,hR⟩:∃ R,R=T.compF (f + 1) c:=⟨_,rfl⟩
    rw [← hR]
    have HRC:=Lib.hid (hR.trans (comp_two (T:=T) (f:=f) HFD.out))
    have hffa:fin T.decomps f a=true:=by
     have h:=HFN.out
     rw [fin_succ (by rw [HFD.out];intro h;cases h),HFD.out] at h
     simp only [List.all_cons,Bool.and_eq_true] at h
     exact h.1
    have HFA:=Lib.hid hffa
    obtain ⟨ad,hAs,had,h0⟩:=HCE.out 0 a rfl
    subst hAs
    obtain ⟨_,hAs,_,h1⟩:=HCE.out 1 b rfl
    cases hAs
    have HA0:=Lib.hid h0
    have HA1:=Lib.hid (show w.cell? { block:=ad.block,off:=ad.off + 1,spot:=none }=some (.int .i64 b) from h1)
    have p1:((2:Int) != 2)=false:=by decide
    clear hR hl h0 h1 hffa hlt HFN HFD HCE
    go_enter Tryz.func99,Tryz.ntmps99
    go_wp2_with fail
    generalize World.alloc (World.alloc w _) _=w0 at *
    have HTW:=Lib.hid (fun W (h:Below w0.heap.size w0 W) => HT.out W (below_next HBEL.out h))
    have HEXW:=Lib.hid (fun x W (h:Below w0.heap.size w0 W) => HEX.out x W (HTW.out W h))
    have HCLW:=Lib.hid (fun x W (h:Below w0.heap.size w0 W) => HCL.out x W (HTW.out W h))
    obtain ⟨ub,hub,hubn,hfb⟩:=HFV.out b w0 (HTW.out w0 (Below.refl _ _))
    have HFB:=Lib.hid hfb
    obtain ⟨ua,hua,huan,hfa⟩:=HFV.out a w0 (HTW.out w0 (Below.refl _ _))
    have HFAF:=Lib.hid hfa
    clear hfb hfa HT HEX HCL HFV
    cases hex:T.excB c
    ·have HE:=Lib.hid hex
     have HEXW:=Lib.hid (fun W (h:Below w0.heap.size w0 W) => HEXW.out c W h)
     rw [hex] at HEXW
     clear hex
     by_cases hc0:T.classOf c=0
     ·have q1:(T.classOf c != 0)=false:=by rw [bne_eq_false_iff_eq];exact hc0
      have HC0:=Lib.hid hc0
      clear hc0
      by_cases ha0:T.classOf a=0
      ·have q2:(T.classOf a != 0)=false:=by rw [bne_eq_false_iff_eq];exact ha0
       have HAC:=Lib.hid ha0
       clear ha0
       rcases nilB_ways hub hubn with ⟨hbn,rfl⟩ | ⟨hbn,adb,cb,rfl⟩
       ·have HBN:=Lib.hid hbn
        have HRC2:Hid (R=((decide (findL T.decomps a=[]) || T.compF f a) && (decide (T.classOf b=0) || decide (T.classOf (lastF T.decomps f a) ≤ T.classOf b)))):=Lib.hid (by
         rw [HRC.out,HE.out,decide_eq_true HC0.out,decide_eq_true HAC.out,decide_eq_true HBN.out];rfl)
        clear hub hubn hbn
        obtain ⟨x0,x1,x2,x3,x4,x5,x6,x7,x8,x9,x10,x11⟩:=(HB0.out.later (Below.refl _ _)).tabG
        have m0:=cell_regrown ((HM0.out.later (Below.refl _ _)).at_ (i:=0) (u:=.int .i64 c) rfl)
        have m1:=cell_regrown ((HM0.out.later (Below.refl _ _)).at_ (i:=1) (u:=.slice (some ad) [a,b].length cs) rfl)
        have a0:=cell_regrown ((below_next HBEL.out (Below.refl _ _)).cell (p:=ad.add 0) (by rw [block_of_add];exact had) |>.trans HA0.out)
        have a0':∀ d os,(Go.Sort.grow (redrawn _ d) os).cell? ad=some (.int .i64 a):=a0
        have b0:=cell_regrown ((below_next HBEL.out (Below.refl _ _)).cell (p:={ block:=ad.block,off:=ad.off + 1,spot:=none }) had |>.trans HA1.out)
        refine wp_region_quiet_below (by kernel_rfl) (by kernel_rfl) ?_
        repeat (go_big_quiet_step (first | (go_at_call 138;exact quiet_t (fun W hW => HEXW.out W hW)) | (go_at_call 82;exact quiet_t (fun W hW => HCLW.out _ W hW)) | (go_at_call 79;exact quiet_t (fun W hW => HFB.out W hW))))
        refine wpQuiet_nil ?_
        rintro _ ⟨⟨dq,osq⟩,rfl⟩
        clear x0 x1 x2 x3 x4 x5 x6 x7 x8 x9 x10 x11 m0 m1 a0 a0' b0
        have hb1:=below_regrown w0 dq osq
        generalize Go.Sort.grow (redrawn w0 dq) osq=w1 at *
        go_wp2_with fail
        obtain ⟨x0,x1,x2,x3,x4,x5,x6,x7,x8,x9,x10,x11⟩:=(HB0.out.later hb1).tabG
        have m0:=cell_regrown ((HM0.out.later hb1).at_ (i:=0) (u:=.int .i64 c) rfl)
        have m1:=cell_regrown ((HM0.out.later hb1).at_ (i:=1) (u:=.slice (some ad) [a,b].length cs) rfl)
        have a0:=cell_regrown ((below_next HBEL.out hb1).cell (p:=ad.add 0) (by rw [block_of_add];exact had) |>.trans HA0.out)
        have a0':∀ d os,(Go.Sort.grow (redrawn _ d) os).cell? ad=some (.int .i64 a):=a0
        have b0:=cell_regrown ((below_next HBEL.out hb1).cell (p:={ block:=ad.block,off:=ad.off + 1,spot:=none }) had |>.trans HA1.out)
        refine wp_region_quiet_below (by kernel_rfl) (by kernel_rfl) ?_
        repeat (go_big_quiet_step ((go_at_call 79;exact quiet_t (fun W hW => HFAF.out W (below_next hb1 hW)))))
        refine wpQuiet_nil ?_
        rintro _ ⟨⟨dq,osq⟩,rfl⟩
        clear x0 x1 x2 x3 x4 x5 x6 x7 x8 x9 x10 x11 m0 m1 a0 a0' b0
        have hb2:=below_next hb1 (below_regrown w1 dq osq)
        generalize Go.Sort.grow (redrawn w1 dq) osq=w2 at *
        clear hb1
        rcases nilB_ways hua huan with ⟨han,rfl⟩ | ⟨han,ada,ca,rfl⟩
        ·have HRC3:Hid (R=(decide (T.classOf b=0) || decide (T.classOf (lastF T.decomps f a) ≤ T.classOf b))):=Lib.hid (by rw [HRC2.out,decide_eq_true han];rfl)
         clear hua huan han
         go_wp2_with fail
         obtain ⟨x0,x1,x2,x3,x4,x5,x6,x7,x8,x9,x10,x11⟩:=(HB0.out.later hb2).tabG
         have m0:=cell_regrown ((HM0.out.later hb2).at_ (i:=0) (u:=.int .i64 c) rfl)
         have m1:=cell_regrown ((HM0.out.later hb2).at_ (i:=1) (u:=.slice (some ad) [a,b].length cs) rfl)
         have a0:=cell_regrown ((below_next HBEL.out hb2).cell (p:=ad.add 0) (by rw [block_of_add];exact had) |>.trans HA0.out)
         have a0':∀ d os,(Go.Sort.grow (redrawn _ d) os).cell? ad=some (.int .i64 a):=a0
         have b0:=cell_regrown ((below_next HBEL.out hb2).cell (p:={ block:=ad.block,off:=ad.off + 1,spot:=none }) had |>.trans HA1.out)
         refine wp_region_quiet_below (by kernel_rfl) (by kernel_rfl) ?_
         repeat (go_big_quiet_step (fail))
         refine wpQuiet_nil ?_
         rintro _ ⟨⟨dq,osq⟩,rfl⟩
         clear x0 x1 x2 x3 x4 x5 x6 x7 x8 x9 x10 x11 m0 m1 a0 a0' b0
         have hb3:=below_next hb2 (below_regrown w2 dq osq)
         generalize Go.Sort.grow (redrawn w2 dq) osq=w3 at *
         clear hb2
         go_wp2_with fail
         obtain ⟨x0,x1,x2,x3,x4,x5,x6,x7,x8,x9,x10,x11⟩:=(HB0.out.later hb3).tabG
         have m0:=cell_regrown ((HM0.out.later hb3).at_ (i:=0) (u:=.int .i64 c) rfl)
         have m1:=cell_regrown ((HM0.out.later hb3).at_ (i:=1) (u:=.slice (some ad) [a,b].length cs) rfl)
         have a0:=cell_regrown ((below_next HBEL.out hb3).cell (p:=ad.add 0) (by rw [block_of_add];exact had) |>.trans HA0.out)
         have a0':∀ d os,(Go.Sort.grow (redrawn _ d) os).cell? ad=some (.int .i64 a):=a0
         have b0:=cell_regrown ((below_next HBEL.out hb3).cell (p:={ block:=ad.block,off:=ad.off + 1,spot:=none }) had |>.trans HA1.out)
         refine wp_region_quiet_below (by kernel_rfl) (by kernel_rfl) ?_
         repeat (go_big_quiet_step ((go_at_call 82;exact quiet_t (fun W hW => HCLW.out _ W (below_next hb3 hW)))))
         refine wpQuiet_nil ?_
         rintro _ ⟨⟨dq,osq⟩,rfl⟩
         clear x0 x1 x2 x3 x4 x5 x6 x7 x8 x9 x10 x11 m0 m1 a0 a0' b0
         have hb4:=below_next hb3 (below_regrown w3 dq osq)
         generalize Go.Sort.grow (redrawn w3 dq) osq=w4 at *
         clear hb3
         have HLAW:=Lib.hid (fun W (h:Below w4.heap.size w4 W) => HLA.out a W (HTW.out W (below_next hb4 h)) HFA.out)
         by_cases hk0:T.classOf b=0
         ·have q5:(T.classOf b == 0)=true:=by rw [beq_iff_eq];exact hk0
          have HK:=Lib.hid hk0
          clear hk0
          go_wp2_with fail
          obtain ⟨x0,x1,x2,x3,x4,x5,x6,x7,x8,x9,x10,x11⟩:=(HB0.out.later hb4).tabG
          have m0:=cell_regrown ((HM0.out.later hb4).at_ (i:=0) (u:=.int .i64 c) rfl)
          have m1:=cell_regrown ((HM0.out.later hb4).at_ (i:=1) (u:=.slice (some ad) [a,b].length cs) rfl)
          have a0:=cell_regrown ((below_next HBEL.out hb4).cell (p:=ad.add 0) (by rw [block_of_add];exact had) |>.trans HA0.out)
          have a0':∀ d os,(Go.Sort.grow (redrawn _ d) os).cell? ad=some (.int .i64 a):=a0
          have b0:=cell_regrown ((below_next HBEL.out hb4).cell (p:={ block:=ad.block,off:=ad.off + 1,spot:=none }) had |>.trans HA1.out)
          refine wp_region_quiet_below (by kernel_rfl) (by kernel_rfl) ?_
          repeat (go_big_quiet_step (fail))
          refine wpQuiet_nil ?_
          rintro _ ⟨⟨dq,osq⟩,rfl⟩
          clear x0 x1 x2 x3 x4 x5 x6 x7 x8 x9 x10 x11 m0 m1 a0 a0' b0
          go_wp2_with fail
          go_ret
          rw [HRC3.out,decide_eq_true HK.out]
          exact ⟨by simp,below_next HBEL.out (below_next hb4 (below_regrown _ dq osq))⟩
         ·have q5:(T.classOf b == 0)=false:=by rw [beq_eq_false_iff_ne];exact hk0
          have HK:=Lib.hid hk0
          clear hk0
          go_wp2_with fail
          obtain ⟨x0,x1,x2,x3,x4,x5,x6,x7,x8,x9,x10,x11⟩:=(HB0.out.later hb4).tabG
          have m0:=cell_regrown ((HM0.out.later hb4).at_ (i:=0) (u:=.int .i64 c) rfl)
          have m1:=cell_regrown ((HM0.out.later hb4).at_ (i:=1) (u:=.slice (some ad) [a,b].length cs) rfl)
          have a0:=cell_regrown ((below_next HBEL.out hb4).cell (p:=ad.add 0) (by rw [block_of_add];exact had) |>.trans HA0.out)
          have a0':∀ d os,(Go.Sort.grow (redrawn _ d) os).cell? ad=some (.int .i64 a):=a0
          have b0:=cell_regrown ((below_next HBEL.out hb4).cell (p:={ block:=ad.block,off:=ad.off + 1,spot:=none }) had |>.trans HA1.out)
          refine wp_region_quiet_below (by kernel_rfl) (by kernel_rfl) ?_
          repeat (go_big_quiet_step (first | (go_at_call 139;exact quiet_t (fun W hW => HLAW.out W hW)) | (go_at_call 82;exact quiet_t (fun W hW => HCLW.out _ W (below_next hb4 hW)))))
          refine wpQuiet_nil ?_
          rintro _ ⟨⟨dq,osq⟩,rfl⟩
          clear x0 x1 x2 x3 x4 x5 x6 x7 x8 x9 x10 x11 m0 m1 a0 a0' b0
          go_wp2_with fail
          go_ret
          rw [HRC3.out,decide_eq_false HK.out]
          exact ⟨by simp,below_next HBEL.out (below_next hb4 (below_regrown _ dq osq))⟩
        ·have HUA:=Lib.hid (fun W (h:Below w0.heap.size w0 W) => hua.later h)
         have HCO:=Lib.hid (fun W (h:Below w2.heap.size w2 W) => HIH.out a _ _ W (HTW.out W (below_next hb2 h)) (HUA.out W (below_next hb2 h)) rfl HFA.out)
         have HAN:=Lib.hid han
         clear hua huan han
         cases hco:T.compF f a
         ·rw [hco] at HCO
          have HRC3:Hid (R=false):=Lib.hid (by rw [HRC2.out,decide_eq_false HAN.out,hco];rfl)
          clear hco
          go_wp2_with fail
          obtain ⟨x0,x1,x2,x3,x4,x5,x6,x7,x8,x9,x10,x11⟩:=(HB0.out.later hb2).tabG
          have m0:=cell_regrown ((HM0.out.later hb2).at_ (i:=0) (u:=.int .i64 c) rfl)
          have m1:=cell_regrown ((HM0.out.later hb2).at_ (i:=1) (u:=.slice (some ad) [a,b].length cs) rfl)
          have a0:=cell_regrown ((below_next HBEL.out hb2).cell (p:=ad.add 0) (by rw [block_of_add];exact had) |>.trans HA0.out)
          have a0':∀ d os,(Go.Sort.grow (redrawn _ d) os).cell? ad=some (.int .i64 a):=a0
          have b0:=cell_regrown ((below_next HBEL.out hb2).cell (p:={ block:=ad.block,off:=ad.off + 1,spot:=none }) had |>.trans HA1.out)
          refine wp_region_quiet_below (by kernel_rfl) (by kernel_rfl) ?_
          repeat (go_big_quiet_step ((go_at_call 99;exact quiet_t (fun W hW => HCO.out W hW))))
          refine wpQuiet_nil ?_
          rintro _ ⟨⟨dq,osq⟩,rfl⟩
          clear x0 x1 x2 x3 x4 x5 x6 x7 x8 x9 x10 x11 m0 m1 a0 a0' b0
          go_wp2_with fail
          go_ret
          rw [HRC3.out]
          exact ⟨rfl,below_next HBEL.out (below_next hb2 (below_regrown _ dq osq))⟩
         ·rw [hco] at HCO
          have HRC3:Hid (R=(decide (T.classOf b=0) || decide (T.classOf (lastF T.decomps f a) ≤ T.classOf b))):=Lib.hid (by rw [HRC2.out,hco,Bool.or_true,Bool.true_and])
          clear hco
          go_wp2_with fail
          obtain ⟨x0,x1,x2,x3,x4,x5,x6,x7,x8,x9,x10,x11⟩:=(HB0.out.later hb2).tabG
          have m0:=cell_regrown ((HM0.out.later hb2).at_ (i:=0) (u:=.int .i64 c) rfl)
          have m1:=cell_regrown ((HM0.out.later hb2).at_ (i:=1) (u:=.slice (some ad) [a,b].length cs) rfl)
          have a0:=cell_regrown ((below_next HBEL.out hb2).cell (p:=ad.add 0) (by rw [block_of_add];exact had) |>.trans HA0.out)
          have a0':∀ d os,(Go.Sort.grow (redrawn _ d) os).cell? ad=some (.int .i64 a):=a0
          have b0:=cell_regrown ((below_next HBEL.out hb2).cell (p:={ block:=ad.block,off:=ad.off + 1,spot:=none }) had |>.trans HA1.out)
          refine wp_region_quiet_below (by kernel_rfl) (by kernel_rfl) ?_
          repeat (go_big_quiet_step ((go_at_call 99;exact quiet_t (fun W hW => HCO.out W hW))))
          refine wpQuiet_nil ?_
          rintro _ ⟨⟨dq,osq⟩,rfl⟩
          clear x0 x1 x2 x3 x4 x5 x6 x7 x8 x9 x10 x11 m0 m1 a0 a0' b0
          have hb3:=below_next hb2 (below_regrown w2 dq osq)
          generalize Go.Sort.grow (redrawn w2 dq) osq=w3 at *
          clear hb2
          go_wp2_with fail
          obtain ⟨x0,x1,x2,x3,x4,x5,x6,x7,x8,x9,x10,x11⟩:=(HB0.out.later hb3).tabG
          have m0:=cell_regrown ((HM0.out.later hb3).at_ (i:=0) (u:=.int .i64 c) rfl)
          have m1:=cell_regrown ((HM0.out.later hb3).at_ (i:=1) (u:=.slice (some ad) [a,b].length cs) rfl)
          have a0:=cell_regrown ((below_next HBEL.out hb3).cell (p:=ad.add 0) (by rw [block_of_add];exact had) |>.trans HA0.out)
          have a0':∀ d os,(Go.Sort.grow (redrawn _ d) os).cell? ad=some (.int .i64 a):=a0
          have b0:=cell_regrown ((below_next HBEL.out hb3).cell (p:={ block:=ad.block,off:=ad.off + 1,spot:=none }) had |>.trans HA1.out)
          refine wp_region_quiet_below (by kernel_rfl) (by kernel_rfl) ?_
          repeat (go_big_quiet_step ((go_at_call 82;exact quiet_t (fun W hW => HCLW.out _ W (below_next hb3 hW)))))
          refine wpQuiet_nil ?_
          rintro _ ⟨⟨dq,osq⟩,rfl⟩
          clear x0 x1 x2 x3 x4 x5 x6 x7 x8 x9 x10 x11 m0 m1 a0 a0' b0
          have hb4:=below_next hb3 (below_regrown w3 dq osq)
          generalize Go.Sort.grow (redrawn w3 dq) osq=w4 at *
          clear hb3
          have HLAW:=Lib.hid (fun W (h:Below w4.heap.size w4 W) => HLA.out a W (HTW.out W (below_next hb4 h)) HFA.out)
          by_cases hk0:T.classOf b=0
          ·have q5:(T.classOf b == 0)=true:=by rw [beq_iff_eq];exact hk0
           have HK:=Lib.hid hk0
           clear hk0
           go_wp2_with fail
           obtain ⟨x0,x1,x2,x3,x4,x5,x6,x7,x8,x9,x10,x11⟩:=(HB0.out.later hb4).tabG
           have m0:=cell_regrown ((HM0.out.later hb4).at_ (i:=0) (u:=.int .i64 c) rfl)
           have m1:=cell_regrown ((HM0.out.later hb4).at_ (i:=1) (u:=.slice (some ad) [a,b].length cs) rfl)
           have a0:=cell_regrown ((below_next HBEL.out hb4).cell (p:=ad.add 0) (by rw [block_of_add];exact had) |>.trans HA0.out)
           have a0':∀ d os,(Go.Sort.grow (redrawn _ d) os).cell? ad=some (.int .i64 a):=a0
           have b0:=cell_regrown ((below_next HBEL.out hb4).cell (p:={ block:=ad.block,off:=ad.off + 1,spot:=none }) had |>.trans HA1.out)
           refine wp_region_quiet_below (by kernel_rfl) (by kernel_rfl) ?_
           repeat (go_big_quiet_step (fail))
           refine wpQuiet_nil ?_
           rintro _ ⟨⟨dq,osq⟩,rfl⟩
           clear x0 x1 x2 x3 x4 x5 x6 x7 x8 x9 x10 x11 m0 m1 a0 a0' b0
           go_wp2_with fail
           go_ret
           rw [HRC3.out,decide_eq_true HK.out]
           exact ⟨by simp,below_next HBEL.out (below_next hb4 (below_regrown _ dq osq))⟩
          ·have q5:(T.classOf b == 0)=false:=by rw [beq_eq_false_iff_ne];exact hk0
           have HK:=Lib.hid hk0
           clear hk0
           go_wp2_with fail
           obtain ⟨x0,x1,x2,x3,x4,x5,x6,x7,x8,x9,x10,x11⟩:=(HB0.out.later hb4).tabG
           have m0:=cell_regrown ((HM0.out.later hb4).at_ (i:=0) (u:=.int .i64 c) rfl)
           have m1:=cell_regrown ((HM0.out.later hb4).at_ (i:=1) (u:=.slice (some ad) [a,b].length cs) rfl)
           have a0:=cell_regrown ((below_next HBEL.out hb4).cell (p:=ad.add 0) (by rw [block_of_add];exact had) |>.trans HA0.out)
           have a0':∀ d os,(Go.Sort.grow (redrawn _ d) os).cell? ad=some (.int .i64 a):=a0
           have b0:=cell_regrown ((below_next HBEL.out hb4).cell (p:={ block:=ad.block,off:=ad.off + 1,spot:=none }) had |>.trans HA1.out)
           refine wp_region_quiet_below (by kernel_rfl) (by kernel_rfl) ?_
           repeat (go_big_quiet_step (first | (go_at_call 139;exact quiet_t (fun W hW => HLAW.out W hW)) | (go_at_call 82;exact quiet_t (fun W hW => HCLW.out _ W (below_next hb4 hW)))))
           refine wpQuiet_nil ?_
           rintro _ ⟨⟨dq,osq⟩,rfl⟩
           clear x0 x1 x2 x3 x4 x5 x6 x7 x8 x9 x10 x11 m0 m1 a0 a0' b0
           go_wp2_with fail
           go_ret
           rw [HRC3.out,decide_eq_false HK.out]
           exact ⟨by simp,below_next HBEL.out (below_next hb4 (below_regrown _ dq osq))⟩
       ·have HBN:=Lib.hid hbn
        clear hub hubn hbn
        obtain ⟨x0,x1,x2,x3,x4,x5,x6,x7,x8,x9,x10,x11⟩:=(HB0.out.later (Below.refl _ _)).tabG
        have m0:=cell_regrown ((HM0.out.later (Below.refl _ _)).at_ (i:=0) (u:=.int .i64 c) rfl)
        have m1:=cell_regrown ((HM0.out.later (Below.refl _ _)).at_ (i:=1) (u:=.slice (some ad) [a,b].length cs) rfl)
        have a0:=cell_regrown ((below_next HBEL.out (Below.refl _ _)).cell (p:=ad.add 0) (by rw [block_of_add];exact had) |>.trans HA0.out)
        have a0':∀ d os,(Go.Sort.grow (redrawn _ d) os).cell? ad=some (.int .i64 a):=a0
        have b0:=cell_regrown ((below_next HBEL.out (Below.refl _ _)).cell (p:={ block:=ad.block,off:=ad.off + 1,spot:=none }) had |>.trans HA1.out)
        refine wp_region_quiet_below (by kernel_rfl) (by kernel_rfl) ?_
        repeat (go_big_quiet_step (first | (go_at_call 138;exact quiet_t (fun W hW => HEXW.out W hW)) | (go_at_call 82;exact quiet_t (fun W hW => HCLW.out _ W hW)) | (go_at_call 79;exact quiet_t (fun W hW => HFB.out W hW))))
        refine wpQuiet_nil ?_
        rintro _ ⟨⟨dq,osq⟩,rfl⟩
        clear x0 x1 x2 x3 x4 x5 x6 x7 x8 x9 x10 x11 m0 m1 a0 a0' b0
        go_wp2_with fail
        go_ret
        rw [HRC.out,decide_eq_false HBN.out]
        exact ⟨by simp,below_next HBEL.out (below_regrown _ dq osq)⟩
      ·have q2:(T.classOf a != 0)=true:=by rw [bne_iff_ne];exact ha0
       have HAC:=Lib.hid ha0
       clear ha0
       obtain ⟨x0,x1,x2,x3,x4,x5,x6,x7,x8,x9,x10,x11⟩:=(HB0.out.later (Below.refl _ _)).tabG
       have m0:=cell_regrown ((HM0.out.later (Below.refl _ _)).at_ (i:=0) (u:=.int .i64 c) rfl)
       have m1:=cell_regrown ((HM0.out.later (Below.refl _ _)).at_ (i:=1) (u:=.slice (some ad) [a,b].length cs) rfl)
       have a0:=cell_regrown ((below_next HBEL.out (Below.refl _ _)).cell (p:=ad.add 0) (by rw [block_of_add];exact had) |>.trans HA0.out)
       have a0':∀ d os,(Go.Sort.grow (redrawn _ d) os).cell? ad=some (.int .i64 a):=a0
       have b0:=cell_regrown ((below_next HBEL.out (Below.refl _ _)).cell (p:={ block:=ad.block,off:=ad.off + 1,spot:=none }) had |>.trans HA1.out)
       refine wp_region_quiet_below (by kernel_rfl) (by kernel_rfl) ?_
       repeat (go_big_quiet_step (first | (go_at_call 138;exact quiet_t (fun W hW => HEXW.out W hW)) | (go_at_call 82;exact quiet_t (fun W hW => HCLW.out _ W hW)) | (go_at_call 79;exact quiet_t (fun W hW => HFB.out W hW))))
       refine wpQuiet_nil ?_
       rintro _ ⟨⟨dq,osq⟩,rfl⟩
       clear x0 x1 x2 x3 x4 x5 x6 x7 x8 x9 x10 x11 m0 m1 a0 a0' b0
       go_wp2_with fail
       go_ret
       rw [HRC.out,decide_eq_false HAC.out]
       exact ⟨by simp,below_next HBEL.out (below_regrown _ dq osq)⟩
     ·have q1:(T.classOf c != 0)=true:=by rw [bne_iff_ne];exact hc0
      have HC0:=Lib.hid hc0
      clear hc0
      obtain ⟨x0,x1,x2,x3,x4,x5,x6,x7,x8,x9,x10,x11⟩:=(HB0.out.later (Below.refl _ _)).tabG
      have m0:=cell_regrown ((HM0.out.later (Below.refl _ _)).at_ (i:=0) (u:=.int .i64 c) rfl)
      have m1:=cell_regrown ((HM0.out.later (Below.refl _ _)).at_ (i:=1) (u:=.slice (some ad) [a,b].length cs) rfl)
      have a0:=cell_regrown ((below_next HBEL.out (Below.refl _ _)).cell (p:=ad.add 0) (by rw [block_of_add];exact had) |>.trans HA0.out)
      have a0':∀ d os,(Go.Sort.grow (redrawn _ d) os).cell? ad=some (.int .i64 a):=a0
      have b0:=cell_regrown ((below_next HBEL.out (Below.refl _ _)).cell (p:={ block:=ad.block,off:=ad.off + 1,spot:=none }) had |>.trans HA1.out)
      refine wp_region_quiet_below (by kernel_rfl) (by kernel_rfl) ?_
      repeat (go_big_quiet_step (first | (go_at_call 138;exact quiet_t (fun W hW => HEXW.out W hW)) | (go_at_call 82;exact quiet_t (fun W hW => HCLW.out _ W hW)) | (go_at_call 79;exact quiet_t (fun W hW => HFB.out W hW))))
      refine wpQuiet_nil ?_
      rintro _ ⟨⟨dq,osq⟩,rfl⟩
      clear x0 x1 x2 x3 x4 x5 x6 x7 x8 x9 x10 x11 m0 m1 a0 a0' b0
      go_wp2_with fail
      go_ret
      rw [HRC.out,decide_eq_false HC0.out]
      exact ⟨by simp,below_next HBEL.out (below_regrown _ dq osq)⟩
    ·have HE:=Lib.hid hex
     have HEXW:=Lib.hid (fun W (h:Below w0.heap.size w0 W) => HEXW.out c W h)
     rw [hex] at HEXW
     clear hex
     obtain ⟨x0,x1,x2,x3,x4,x5,x6,x7,x8,x9,x10,x11⟩:=(HB0.out.later (Below.refl _ _)).tabG
     have m0:=cell_regrown ((HM0.out.later (Below.refl _ _)).at_ (i:=0) (u:=.int .i64 c) rfl)
     have m1:=cell_regrown ((HM0.out.later (Below.refl _ _)).at_ (i:=1) (u:=.slice (some ad) [a,b].length cs) rfl)
     have a0:=cell_regrown ((below_next HBEL.out (Below.refl _ _)).cell (p:=ad.add 0) (by rw [block_of_add];exact had) |>.trans HA0.out)
     have a0':∀ d os,(Go.Sort.grow (redrawn _ d) os).cell? ad=some (.int .i64 a):=a0
     have b0:=cell_regrown ((below_next HBEL.out (Below.refl _ _)).cell (p:={ block:=ad.block,off:=ad.off + 1,spot:=none }) had |>.trans HA1.out)
     refine wp_region_quiet_below (by kernel_rfl) (by kernel_rfl) ?_
     repeat (go_big_quiet_step (first | (go_at_call 138;exact quiet_t (fun W hW => HEXW.out W hW)) | (go_at_call 82;exact quiet_t (fun W hW => HCLW.out _ W hW)) | (go_at_call 79;exact quiet_t (fun W hW => HFB.out W hW))))
     refine wpQuiet_nil ?_
     rintro _ ⟨⟨dq,osq⟩,rfl⟩
     clear x0 x1 x2 x3 x4 x5 x6 x7 x8 x9 x10 x11 m0 m1 a0 a0' b0
     go_wp2_with fail
     go_ret
     rw [HRC.out,HE.out]
     exact ⟨by simp,below_next HBEL.out (below_regrown _ dq osq)⟩
   ·have hcm:=comp_len (T:=T) (f:=f + 1) HFD.out hl
    rw [hcm]
    have p1:((tg.length:Int) != 2)=true:=by rw [bne_iff_ne];omega
    clear hl hcm
    go_enter Tryz.func99,Tryz.ntmps99
    go_wp2_with fail
    generalize World.alloc (World.alloc w _) _=w0 at *
    obtain ⟨x0,x1,x2,x3,x4,x5,x6,x7,x8,x9,x10,x11⟩:=HB0.out.tabG
    have m0:=cell_regrown (HM0.out.at_ (i:=0) (u:=.int .i64 c) rfl)
    have m1:=cell_regrown (HM0.out.at_ (i:=1) (u:=.slice As tg.length cs) rfl)
    refine wp_region_quiet_below (by kernel_rfl) (by kernel_rfl) ?_
    repeat (go_big_quiet_step (fail))
    refine wpQuiet_nil ?_
    rintro _ ⟨⟨dq,osq⟩,rfl⟩
    clear x0 x1 x2 x3 x4 x5 x6 x7 x8 x9 x10 x11 m0 m1
    go_wp2_with fail
    go_ret
    exact ⟨rfl,below_next HBEL.out (below_regrown _ dq osq)⟩
end Go.Proofs.YtjafpikjpipbkaaGreatDoor
namespace Go.Proofs.YtjafpikjpipbkaaGreatDoor
open Go.RowKit ND
end Go.Proofs.YtjafpikjpipbkaaGreatDoor
namespace Go.Proofs.YtjafpikjpipbkaaGreatDoor
open Go.RowKit ND
def Ends (T:Tab):Prop:=∀ c,fin T.decomps T.decomps.length c=true ∧ fullF T.decomps 257 [c]=some (expF T.decomps T.decomps.length c) ∧ (expF T.decomps T.decomps.length c).length ≤ 18
theorem Ends.of {T:Tab} (hl:T.decomps.length ≤ 256) (h:T.rule6=true):Ends T:=by
 intro c
 unfold Tab.rule6 at h
 rw [Bool.and_eq_true,List.all_eq_true,List.all_eq_true] at h
 have hs:sizeF T.decomps (T.decomps.length + 1) c ≤ 18:=by
  by_cases hn:findL T.decomps c=[]
  ·rw [sizeF_none hn];omega
  ·have:=h.2 _ (findL_mem hn)
   unfold Tab.szOk at this
   simpa using this
 rcases full_size hl c with ⟨_,h1,h2,h3⟩ | ⟨h1,_⟩
 ·exact ⟨h2,h1,h3⟩
 ·exact absurd hs h1
end Go.Proofs.YtjafpikjpipbkaaGreatDoor
namespace Go.Proofs.YtjafpikjpipbkaaGreatDoor
open Go.RowKit Go.ChangeMaps
def pairV (p:Int × Int):Value:=.agg #[.int .i64 p.1,.int .i64 p.2]
section
variable {P:Program} {K E:TypeId} {i:TypeInfo}
theorem run_equal_pair (hK:P.underlying K=some (.array 2 E)) (hE:P.underlying E=some (.int .i64)) (hi:P.info? E=some i) (hp:P.plainKey E=true) (hc:P.cellsOf E=1) (w:World) (p q:Int × Int) :
  (Op.equal K (pairV p) (pairV q)).run P w=.ok (decide (p=q)) w:=by
 have e1:∀ (d:Nat) (a b:Int) (w:World),(Op.equalIn (d + 1) E (.int .i64 a) (.int .i64 b)).run P w=.ok (a == b) w:=fun d a b w => by
  simp [Op.equalIn,run_underlying hE]
 show (Op.equalIn (9999 + 1) K (.agg #[.int .i64 p.1,.int .i64 p.2]) (.agg #[.int .i64 q.1,.int .i64 q.2])).run P w=_
 rw [run_equalIn_array w 9999 _ _ hK hi,hc]
 have p0:∀ (w:World) (a b:Int),(part E #[.int .i64 a,.int .i64 b] 0).run P w=.ok (.int .i64 a) w:=fun w a b => run_part_plain w hp rfl
 have p1:∀ (w:World) (a b:Int),(part E #[.int .i64 a,.int .i64 b] 1).run P w=.ok (.int .i64 b) w:=fun w a b => run_part_plain w hp rfl
 have hr:List.range 2=[0,1]:=rfl
 rw [hr]
 simp only [Op.eqItems,Sem.run_bind,Nat.zero_mul,Nat.one_mul,p0,Result.andThen_ok,e1 9998]
 obtain ⟨a,b⟩:=p
 obtain ⟨c,d⟩:=q
 simp only [Prod.mk.injEq]
 by_cases h1:a=c
 ·have hb1:(a == c)=true:=by rw [beq_iff_eq];exact h1
  rw [hb1]
  by_cases h2:b=d
  ·have hb2:(b == d)=true:=by rw [beq_iff_eq];exact h2
   subst h2
   have e2:(Op.equalIn 9999 E (.int .i64 b) (.int .i64 b)).run P w=.ok (b == b) w:=e1 9998 b b w
   rw [decide_eq_true ⟨h1,rfl⟩]
   simp [p1,e2]
  ·have hb2:(b == d)=false:=by rw [beq_eq_false_iff_ne];exact h2
   have e2:(Op.equalIn 9999 E (.int .i64 b) (.int .i64 d)).run P w=.ok (b == d) w:=e1 9998 b d w
   rw [decide_eq_false (fun h => h2 h.2)]
   simp [p1,e2,h2]
 ·have hb1:(a == c)=false:=by rw [beq_eq_false_iff_ne];exact h1
  rw [hb1,decide_eq_false (fun h => h1 h.1)]
  simp
theorem run_checkKey_pair (hK:P.underlying K=some (.array 2 E)) (hE:P.underlying E=some (.int .i64)) (hi:P.info? E=some i) (hp:P.plainKey E=true) (hc:P.cellsOf E=1) (e:Bool) (w:World) (p:Int × Int) :
  (Instr.checkKey e 10000 K (pairV p)).run P w=.ok () w:=by
 have e1:∀ (d:Nat) (a:Int) (w:World),(Instr.checkKey e (d + 1) E (.int .i64 a)).run P w=.ok () w:=fun d a w => by
  simp [Instr.checkKey,run_underlying hE]
 have p0:∀ (w:World) (a b:Int),(part E #[.int .i64 a,.int .i64 b] 0).run P w=.ok (.int .i64 a) w:=fun w a b => run_part_plain w hp rfl
 have p1:∀ (w:World) (a b:Int),(part E #[.int .i64 a,.int .i64 b] 1).run P w=.ok (.int .i64 b) w:=fun w a b => run_part_plain w hp rfl
 have hr:List.range' 0 2=[0,1]:=rfl
 show (Instr.checkKey e (9999 + 1) K (.agg #[.int .i64 p.1,.int .i64 p.2])).run P w=_
 unfold Instr.checkKey
 simp only [Sem.run_bind,run_underlying hK,Result.andThen_ok]
 simp only [Std.Legacy.Range.forIn_eq_forIn_range',Std.Legacy.Range.size,Nat.sub_zero,Nat.add_one_sub_one,Nat.div_one,hr,List.forIn_cons,List.forIn_nil,Sem.run_bind,run_sizeOf w hi,hc,Result.andThen_ok,Nat.zero_mul,Nat.one_mul,p0,p1,e1 9998,Sem.run_pure]
theorem run_findAsking (hK:P.underlying K=some (.array 2 E)) (hE:P.underlying E=some (.int .i64)) (hi:P.info? E=some i) (hp:P.plainKey E=true) (hc:P.cellsOf E=1) (w:World) (p:Int × Int):∀ (es:List MapEntry) (qs:List (Int × Int)) (n:Nat),es.map (·.key)=qs.map pairV → (∀ e ∈ es,e.val=.bool true) →
  (p ∉ qs → (Instr.findAsking K (pairV p) es n).run P w=.ok none w) ∧ (p ∈ qs → ∃ j,(Instr.findAsking K (pairV p) es n).run P w=.ok (some (j,.bool true)) w):=by
 intro es
 induction es with
 | nil =>
   intro qs n h _
   obtain rfl:qs=[]:=by cases qs with
    | nil => rfl
    | cons a r => cases h
   exact ⟨fun _ => rfl,fun h => by cases h⟩
 | cons e es ih =>
   intro qs n h hv
   cases qs with
   | nil => cases h
   | cons q qs =>
     simp only [List.map_cons,List.cons.injEq] at h
     obtain ⟨hk,hr⟩:=h
     obtain ⟨ih1,ih2⟩:=ih qs (n + 1) hr (fun x hx => hv x (List.mem_cons_of_mem _ hx))
     have he:=run_equal_pair hK hE hi hp hc w p q
     by_cases hpq:p=q
     ·refine ⟨fun hn => absurd (by rw [hpq];exact List.mem_cons_self) hn,fun _ => ⟨n,?_⟩⟩
      unfold Instr.findAsking
      rw [hk]
      simp only [Sem.run_bind,he,Result.andThen_ok,decide_eq_true hpq,if_true,hv e List.mem_cons_self,Sem.run_pure]
     ·have hstep:(Instr.findAsking K (pairV p) (e :: es) n).run P w=(Instr.findAsking K (pairV p) es (n + 1)).run P w:=by
       rw [Instr.findAsking.eq_def]
       simp only [hk,Sem.run_bind,he,Result.andThen_ok,decide_eq_false hpq,Bool.false_eq_true,if_false]
      rw [hstep]
      exact ⟨fun hn => ih1 (fun h => hn (List.mem_cons_of_mem _ h)),fun hm => ih2 ((List.mem_cons.1 hm).resolve_left hpq)⟩
theorem run_findKey_pair (hK:P.underlying K=some (.array 2 E)) (hE:P.underlying E=some (.int .i64)) (hi:P.info? E=some i) (hp:P.plainKey E=true) (hc:P.cellsOf E=1) (w:World) (p:Int × Int) (es:List MapEntry) (qs:List (Int × Int)) (h:es.map (·.key)=qs.map pairV) (hv:∀ e ∈ es,e.val=.bool true) :
  (p ∉ qs → (Instr.findKey K (pairV p) es).run P w=.ok none w) ∧ (p ∈ qs → ∃ j,(Instr.findKey K (pairV p) es).run P w=.ok (some (j,.bool true)) w):=by
 have hf:=run_findAsking hK hE hi hp hc w p es qs 0 h hv
 cases es with
 | nil =>
   obtain rfl:qs=[]:=by cases qs with
    | nil => rfl
    | cons a r => cases h
   refine ⟨fun _ => ?_,fun h => by cases h⟩
   simp [Instr.findKey,run_underlying hK,Instr.findNow]
 | cons e es =>
   have hn:Instr.findNow (.array 2 E) (pairV p) (e :: es) 0=none:=by
    unfold Instr.findNow Instr.sameNow
    rfl
   have he:(Instr.findKey K (pairV p) (e :: es)).run P w=(Instr.findAsking K (pairV p) (e :: es) 0).run P w:=by
    simp only [Instr.findKey,Sem.run_bind,run_underlying hK,Result.andThen_ok,hn]
   rw [he]
   exact hf
def OwnsP (w:World) (b:Nat) (qs:List (Int × Int)):Prop:=∃ es clock,w.heap[b]?=some (.map es clock) ∧ es.toList.map (·.key)=qs.map pairV ∧ ∀ e ∈ es.toList,e.val=.bool true
theorem OwnsP.lt {w:World} {b:Nat} {qs:List (Int × Int)} (h:OwnsP w b qs):b < w.heap.size:=by
 obtain ⟨es,c,h,_⟩:=h;exact (Array.getElem?_eq_some_iff.1 h).1
theorem OwnsP.later {w w':World} {b:Nat} {qs:List (Int × Int)} (h:OwnsP w b qs) (hb:Below w.heap.size w w'):OwnsP w' b qs:=by
 have hl:=h.lt
 obtain ⟨es,c,h,r⟩:=h;exact ⟨es,c,(hb.block b hl).trans h,r⟩
theorem OwnsP.new (w:World):OwnsP (w.alloc (.map #[] 0)) w.heap.size []:=⟨#[],0,heap_alloc_new w _,rfl,by simp⟩
theorem OwnsP.lookup {M:TypeId} {w:World} {b:Nat} {qs:List (Int × Int)} (h:OwnsP w b qs) {B:TypeId} (hM:P.underlying M=some (.map K B)) (hz:∀ w,(zeroValue B).run P w=.ok (.bool false) w)
  (hK:P.underlying K=some (.array 2 E)) (hE:P.underlying E=some (.int .i64)) (hi:P.info? E=some i) (hp:P.plainKey E=true) (hc:P.cellsOf E=1) (p:Int × Int) :
  (Instr.lookup M (.map (some b)) (pairV p) false).run P w=.ok (.bool (decide (p ∈ qs))) w:=by
 obtain ⟨es,clock,hb,hk,hv⟩:=h
 obtain ⟨h1,h2⟩:=run_findKey_pair hK hE hi hp hc w p es.toList qs hk hv
 by_cases hm:p ∈ qs
 ·obtain ⟨j,hj⟩:=h2 hm
  simp [Instr.lookup,run_underlying hM,MapKept.run_getObj_map hb,run_checkKey_pair hK hE hi hp hc,hj,Result.andThen,hm]
 ·simp [Instr.lookup,run_underlying hM,MapKept.run_getObj_map hb,run_checkKey_pair hK hE hi hp hc,h1 hm,Result.andThen,hm,hz]
theorem OwnsP.update {M:TypeId} {w:World} {b:Nat} {qs:List (Int × Int)} (h:OwnsP w b qs) {B:TypeId} (hM:P.underlying M=some (.map K B))
  (hK:P.underlying K=some (.array 2 E)) (hE:P.underlying E=some (.int .i64)) (hi:P.info? E=some i) (hp:P.plainKey E=true) (hc:P.cellsOf E=1) (p:Int × Int) (hm:p ∉ qs) :
  ∃ w',(Instr.mapUpdate M (.map (some b)) (pairV p) (.bool true)).run P w=.ok () w' ∧ OwnsP w' b (qs ++ [p]) ∧ w.grownBy w' (some b):=by
 obtain ⟨es,clock,hb,hk,hv⟩:=h
 obtain ⟨h1,_⟩:=run_findKey_pair hK hE hi hp hc w p es.toList qs hk hv
 have hl:=(Array.getElem?_eq_some_iff.1 hb).1
 refine ⟨setBlock w b (.map (es.push ⟨pairV p,.bool true,clock⟩) (clock + 1)),?_,⟨es.push ⟨pairV p,.bool true,clock⟩,clock + 1,?_,?_,?_⟩,?_⟩
 ·simp [Instr.mapUpdate,run_underlying hM,MapKept.run_getObj_map hb,run_checkKey_pair hK hE hi hp hc,h1 hm,MapKept.run_setObj_map _ hb,Result.andThen,setBlock]
 ·simp [setBlock,hl]
 ·simp [hk]
 ·intro e he
  simp only [Array.toList_push,List.mem_append,List.mem_singleton] at he
  rcases he with he | rfl
  ·exact hv e he
  ·rfl
 ·refine ⟨rfl,rfl,rfl,by simp [setBlock],fun k hk hne => ?_⟩
  have:k ≠ b:=fun e => hne (by rw [e])
  simp [setBlock,Ne.symm this]
end
end Go.Proofs.YtjafpikjpipbkaaGreatDoor
