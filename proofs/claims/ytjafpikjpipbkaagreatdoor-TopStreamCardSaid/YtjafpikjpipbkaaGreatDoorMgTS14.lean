/-
  Merged texts: lemmas and walks that the last text of this claim leans on.
-/
import Derived.Test.YtjafpikjpipbkaaGreatDoorMgTS13
import Derived.Test.YtjafpikjpipbkaaGreatDoorMgTS9
import Derived.Test.YtjafpikjpipbkaaGreatDoorMgTS4
import Derived.Test.YtjafpikjpipbkaaGreatDoorMgTS3
import Derived.Test.YtjafpikjpipbkaaGreatDoorMgTS12
set_option maxRecDepth 100000
set_option maxHeartbeats 40000000
namespace Go.Proofs.YtjafpikjpipbkaaGreatDoor
open Go.RowKit ND
theorem joins_any (t:Tv) (T:Tab) (v:Value) (xs:List Int) (i s:Int) (w:World) (ht:TabR w w.heap.size t T) (hck:T.check=0) (hv:Ints w w.heap.size .i64 v xs) (h0:-1 ≤ i) (h1:i < (xs.length:Int)) :
  Calls Tryz.prog 178 #[t.val,v,.int .i64 i,.int .i64 s] w fun e w' => e=.returned (.bool (joinsR T.joiningOf xs i s)) ∧ Below w.heap.size w w':=by
 have HB0:Hid (Below w.heap.size w (w.alloc (.cells t.cells 26))):=Lib.hid ((Below.refl _ _).alloc (Nat.le_refl _) _)
 have HT:Hid (Tbl (w.alloc (.cells t.cells 26)) w.heap.size t T):=Lib.hid ⟨Blk.new _ _ _,ht.later HB0.out⟩
 have hv1:=hv.later HB0.out
 obtain ⟨A,c,rfl,hc1,hc2,_,hcell⟩:=hv1
 have HC:=Lib.hid hcell
 have hl:xs.length ≤ 9223372036854775807:=by unfold maxLen at hc2;omega
 have HJ:=Lib.hid (fun d W (h:TabR W W.heap.size t T) => joining_any t T d 0 1114111 W h (shape_of hck).c2.1 (shape_of hck).c2.2.1)
 clear ht hv hcell hc1 hc2 hck
 obtain ⟨f,hf⟩:∃ f,f=T.joiningOf:=⟨_,rfl⟩
 rw [← hf] at HJ ⊢
 clear hf
 by_cases hneg:i < 0
 ·have y1:decide (i < 0)=true:=decide_eq_true hneg
  have HR:Hid (joinsR f xs i s=false):=Lib.hid (by unfold joinsR;rw [if_pos hneg])
  go_enter Tryz.func178,Tryz.ntmps178
  go_wp2_with fail
  go_ret
  rw [HR.out]
  exact ⟨rfl,HB0.out⟩
 ·have y1:decide (i < 0)=false:=decide_eq_false hneg
  obtain ⟨k,rfl⟩:∃ k:Nat,i=(k:Int):=⟨i.toNat,by omega⟩
  have hlt:k < xs.length:=by omega
  obtain ⟨x,hxk,_⟩:=get_of hlt
  obtain ⟨ad,rfl,hb1,hce⟩:=HC.out k x hxk
  have k0:(0:Int) ≤ (k:Int):=by omega
  have k1:(k:Int) < (xs.length:Int):=by omega
  have HR:Hid (joinsR f xs k s=((f x == s) || (f x == 3))):=Lib.hid (by unfold joinsR;rw [if_neg hneg,Int.toNat_natCast,getD_of hxk])
  go_enter Tryz.func178,Tryz.ntmps178
  go_upto_region 1 with fail
  generalize w.alloc (.cells t.cells 26)=w1 at *
  have hce2:=cell_regrown hce
  have HV:Hid (∀ V,Below w1.heap.size w1 V → Calls Tryz.prog 202 #[.agg #[t.c0,t.c1,t.c2,t.c3,t.c4,t.c5,t.c6,t.c7,t.c8,t.c9,t.c10,t.c11],.int .i64 x] V fun e V' => e=.returned (.int .i64 (f x)) ∧ Below V.heap.size V V'):=Lib.hid fun V hV => HJ.out x V (HT.out.later hV).2
  clear hce hxk hb1
  obtain ⟨x0,x1,x2,x3,x4,x5,x6,x7,x8,x9,x10,x11⟩:=HT.out.1.tabG
  go_upto_region 3 with fail
  refine wp_region_quiet_below (by kernel_rfl) (by kernel_rfl) ?_
  repeat (go_big_quiet_step ((go_at_call 202;with_reducible exact quiet_t HV.out)))
  refine wpQuiet_nil ?_
  rintro _ ⟨⟨dq,osq⟩,rfl⟩
  have HBQ:=Lib.hid (below_next HB0.out (below_regrown w1 dq osq))
  clear x0 x1 x2 x3 x4 x5 x6 x7 x8 x9 x10 x11 hce2
  generalize Go.Sort.grow (redrawn w1 dq) osq=w3 at *
  cases h3:f x == s
  case true =>
   go_wp2_with fail
   go_ret
   rw [HR.out,h3]
   exact ⟨rfl,HBQ.out⟩
  case false =>
   cases h4:f x == 3
   all_goals
    go_wp2_with fail
    go_ret
    rw [HR.out,h3,h4]
    exact ⟨rfl,HBQ.out⟩
theorem jperm_any (t:Tv) (T:Tab) (v:Value) (xs:List Int) (k:Nat) (w:World) (ht:TabR w w.heap.size t T) (hck:T.check=0) (hv:Ints w w.heap.size .i64 v xs) (hk:k < xs.length) :
  Calls Tryz.prog 148 #[t.val,v,.int .i64 k] w fun e w' => e=.returned (.bool (permJ T.joiningOf T.classOf xs k)) ∧ Below w.heap.size w w':=by
 have HB0:Hid (Below w.heap.size w (w.alloc (.cells t.cells 26))):=Lib.hid ((Below.refl _ _).alloc (Nat.le_refl _) _)
 have HT:Hid (Tbl (w.alloc (.cells t.cells 26)) w.heap.size t T):=Lib.hid ⟨Blk.new _ _ _,ht.later HB0.out⟩
 have hv1:=hv.later HB0.out
 have HVI:=Lib.hid hv1
 obtain ⟨A,c,rfl,hc1,hc2,_,hcell⟩:=hv1
 have HC:=Lib.hid hcell
 have hl:xs.length ≤ 9223372036854775807:=by unfold maxLen at hc2;omega
 have HCL:=Lib.hid (fun d W (h:TabR W W.heap.size t T) => class_any t T d 0 1114111 W h (shape_of hck).c1.1 (shape_of hck).c1.2.1)
 have HNX:=Lib.hid (fun (i b:Int) W (h:TabR W W.heap.size t T) u (hu:Ints W W.heap.size .i64 u xs) (hb:b=1 ∨ b=-1) (h0:0 ≤ i) (h1:i < (xs.length:Int)) => next_any t T u xs i b W h hck hu hb h0 h1)
 have HJO:=Lib.hid (fun (i s:Int) W (h:TabR W W.heap.size t T) u (hu:Ints W W.heap.size .i64 u xs) (h0:-1 ≤ i) (h1:i < (xs.length:Int)) => joins_any t T u xs i s W h hck hu h0 h1)
 clear ht hv hcell hc1 hc2 hck
 obtain ⟨f,hf⟩:∃ f,f=T.joiningOf:=⟨_,rfl⟩
 obtain ⟨g,hg⟩:∃ g,g=T.classOf:=⟨_,rfl⟩
 rw [← hf,← hg]
 rw [← hf] at HNX HJO
 rw [← hg] at HCL
 clear hf hg
 obtain ⟨x,hxk,_⟩:=get_of hk
 obtain ⟨ad,rfl,hb1,hce⟩:=HC.out k x hxk
 have hgx:=getD_of hxk
 have k0:(0:Int) ≤ (k:Int):=by omega
 have k1:(k:Int) < (xs.length:Int):=by omega
 obtain ⟨R,hR⟩:∃ R,R=permJ f g xs k:=⟨_,rfl⟩
 have HR:=Lib.hid hR
 rw [← hR]
 clear hR
 unfold permJ at HR
 rw [hgx] at HR
 clear hgx
 by_cases h1:x=8204 ∨ x=8205
 case neg =>
  have y1:(x != 8204)=true:=by simp;omega
  have y2:(x != 8205)=true:=by simp;omega
  have HR2:Hid (R=true):=Lib.hid (by rw [HR.out,if_pos (by omega)])
  go_enter Tryz.func148,Tryz.ntmps148
  go_wp2_with fail
  go_ret
  rw [HR2.out]
  exact ⟨rfl,HB0.out⟩
 have HR2:Hid (R=if 0 < k ∧ g (xs.getD (k - 1) 0)=9 then true else (x == 8204) && joinsR f xs (nextR f xs k (-1)) 1 && joinsR f xs (nextR f xs k 1) 2):=Lib.hid (by rw [HR.out,if_neg (by omega)])
 have y12:(x != 8204)=false ∨ ((x != 8204)=true ∧ (x != 8205)=false):=by
  by_cases h:x=8204
  ·exact .inl (by simp [h])
  ·exact .inr ⟨by simp [h],by simp;omega⟩
 go_enter Tryz.func148,Tryz.ntmps148
 go_upto_region 1 with fail
 generalize w.alloc (.cells t.cells 26)=w1 at *
 have HBA:=Lib.hid ((fun V (hV:Below w1.heap.size w1 V) => (hV.cell (p:=ad.add k) (by rw [block_of_add];exact hb1)).trans hce))
 have HINT:=Lib.hid (fun V (hV:Below w1.heap.size w1 V) => HVI.out.later hV)
 clear hb1 hxk
 obtain ⟨q,hq⟩:∃ q:Bool,q=(decide (0 < k) && (g (xs.getD (k - 1) 0) == 9)):=⟨_,rfl⟩
 have HR3:Hid (R=if q=true then true else (x == 8204) && joinsR f xs (nextR f xs k (-1)) 1 && joinsR f xs (nextR f xs k 1) 2):=Lib.hid (by
  rw [HR2.out,hq]
  congr 1
  simp)
 clear HR HR2
 rcases y12 with y1 | ⟨y1,y2⟩
 all_goals
  go_upto_region 3 with fail
  have hce2:=cell_regrown hce
  clear hce
  obtain ⟨x0,x1,x2,x3,x4,x5,x6,x7,x8,x9,x10,x11⟩:=HT.out.1.tabG
  by_cases hk0:0 < k
  case' pos =>
   obtain ⟨x',hxk',_⟩:=get_of (show k - 1 < xs.length by omega)
   obtain ⟨ad',hA',hb1',hce'⟩:=HC.out (k - 1) x' hxk'
   cases hA'
   have z1:decide ((0:Int) < (k:Int))=true:=decide_eq_true (by omega)
   have z2:(k:Int) - 1=((k - 1:Nat):Int):=by omega
   have z3:RowKit.wrap64 ((k:Int) - 1)=((k - 1:Nat):Int):=by unfold RowKit.wrap64;omega
   have z4:(0:Int) ≤ ((k - 1:Nat):Int):=by omega
   have z5:((k - 1:Nat):Int) < (xs.length:Int):=by omega
   have hce3:=cell_regrown hce'
   have hgd:=getD_of hxk'
   have HV:Hid (∀ V,Below w1.heap.size w1 V → Calls Tryz.prog 82 #[.agg #[t.c0,t.c1,t.c2,t.c3,t.c4,t.c5,t.c6,t.c7,t.c8,t.c9,t.c10,t.c11],.int .i64 x'] V fun e V' => e=.returned (.int .i64 (g x')) ∧ Below V.heap.size V V'):=Lib.hid fun V hV => HCL.out x' V (HT.out.later hV).2
   have HQ:Hid (q=(g x' == 9)):=Lib.hid (by rw [hq,hgd,decide_eq_true hk0,Bool.true_and])
   clear hce' hxk' hb1' hgd hq
   refine wp_region_quiet_below (by kernel_rfl) (by kernel_rfl) ?_
   repeat (go_big_quiet_step ((go_at_call 82;with_reducible exact quiet_t HV.out)))
   refine wpQuiet_nil ?_
   rintro _ ⟨⟨dq,osq⟩,rfl⟩
   have bq:=below_regrown w1 dq osq
   clear x0 x1 x2 x3 x4 x5 x6 x7 x8 x9 x10 x11 hce2 hce3 z2 z3 z4 z5
   cases h9:g x' == 9
   case true =>
    have HBQ:=Lib.hid (below_next HB0.out bq)
    have HF:Hid (R=true):=Lib.hid (by rw [HR3.out,HQ.out,h9];rfl)
    go_wp2_with fail
    go_ret
    rw [HF.out]
    exact ⟨rfl,HBQ.out⟩
   have HQ2:Hid (q=false):=Lib.hid (by rw [HQ.out,h9])
   clear HQ
  case' neg =>
   have z1:decide ((0:Int) < (k:Int))=false:=decide_eq_false (by omega)
   have HQ2:Hid (q=false):=Lib.hid (by rw [hq,decide_eq_false hk0,Bool.false_and])
   clear hq
   refine wp_region_quiet_below (by kernel_rfl) (by kernel_rfl) ?_
   repeat (go_big_quiet_step (fail))
   refine wpQuiet_nil ?_
   rintro _ ⟨⟨dq,osq⟩,rfl⟩
   have bq:=below_regrown w1 dq osq
   clear x0 x1 x2 x3 x4 x5 x6 x7 x8 x9 x10 x11 hce2
  all_goals
   generalize Go.Sort.grow (redrawn w1 dq) osq=w3 at *
   have HR4:Hid (R=((x == 8204) && joinsR f xs (nextR f xs k (-1)) 1 && joinsR f xs (nextR f xs k 1) 2)):=Lib.hid (by rw [HR3.out,HQ2.out];rfl)
   have HB3:=Lib.hid (below_next HB0.out bq)
   have HT3:=Lib.hid (HT.out.later bq)
   have HI3:=Lib.hid (HINT.out w3 bq)
   have hce3:=HBA.out w3 bq
   clear HR3 HQ2 HINT HBA bq
   have hce4:=cell_regrown hce3
   clear hce3
   go_upto_region 5 with fail
   obtain ⟨x0,x1,x2,x3,x4,x5,x6,x7,x8,x9,x10,x11⟩:=HT3.out.1.tabG
   cases hx:x == 8204
   case false =>
    refine wp_region_quiet_below (by kernel_rfl) (by kernel_rfl) ?_
    repeat (go_big_quiet_step (fail))
    refine wpQuiet_nil ?_
    rintro _ ⟨⟨dq,osq⟩,rfl⟩
    have bq:=below_regrown w3 dq osq
    clear x0 x1 x2 x3 x4 x5 x6 x7 x8 x9 x10 x11 hce4
    have HBQ:=Lib.hid (below_next HB3.out bq)
    have HF:Hid (R=false):=Lib.hid (by rw [HR4.out,hx];rfl)
    go_wp2_with fail
    go_ret
    rw [HF.out]
    exact ⟨rfl,HBQ.out⟩
   have hn1:=nextF_bound f xs (-1) (xs.length + 2) ((k:Int) + -1)
   have hn2:=nextF_bound f xs 1 (xs.length + 2) ((k:Int) + 1)
   have HN1:Hid (∀ V,Below w3.heap.size w3 V → Calls Tryz.prog 179 #[.agg #[t.c0,t.c1,t.c2,t.c3,t.c4,t.c5,t.c6,t.c7,t.c8,t.c9,t.c10,t.c11],.slice (some ad) xs.length c,.int .i64 k,.int .i64 (-1)] V fun e V' => e=.returned (.int .i64 (nextR f xs k (-1))) ∧ Below V.heap.size V V'):=Lib.hid fun V hV => HNX.out _ _ V (HT3.out.later hV).2 _ (HI3.out.later hV) (.inr rfl) k0 k1
   have HN2:Hid (∀ V,Below w3.heap.size w3 V → Calls Tryz.prog 179 #[.agg #[t.c0,t.c1,t.c2,t.c3,t.c4,t.c5,t.c6,t.c7,t.c8,t.c9,t.c10,t.c11],.slice (some ad) xs.length c,.int .i64 k,.int .i64 1] V fun e V' => e=.returned (.int .i64 (nextR f xs k 1)) ∧ Below V.heap.size V V'):=Lib.hid fun V hV => HNX.out _ _ V (HT3.out.later hV).2 _ (HI3.out.later hV) (.inl rfl) k0 k1
   have HJ1:Hid (∀ V,Below w3.heap.size w3 V → Calls Tryz.prog 178 #[.agg #[t.c0,t.c1,t.c2,t.c3,t.c4,t.c5,t.c6,t.c7,t.c8,t.c9,t.c10,t.c11],.slice (some ad) xs.length c,.int .i64 (nextR f xs k (-1)),.int .i64 1] V fun e V' => e=.returned (.bool (joinsR f xs (nextR f xs k (-1)) 1)) ∧ Below V.heap.size V V'):=Lib.hid fun V hV => HJO.out _ _ V (HT3.out.later hV).2 _ (HI3.out.later hV) hn1.1 hn1.2
   have HJ2:Hid (∀ V,Below w3.heap.size w3 V → Calls Tryz.prog 178 #[.agg #[t.c0,t.c1,t.c2,t.c3,t.c4,t.c5,t.c6,t.c7,t.c8,t.c9,t.c10,t.c11],.slice (some ad) xs.length c,.int .i64 (nextR f xs k 1),.int .i64 2] V fun e V' => e=.returned (.bool (joinsR f xs (nextR f xs k 1) 2)) ∧ Below V.heap.size V V'):=Lib.hid fun V hV => HJO.out _ _ V (HT3.out.later hV).2 _ (HI3.out.later hV) hn2.1 hn2.2
   clear hn1 hn2
   generalize nextR f xs k (-1)=n1 at *
   generalize nextR f xs k 1=n2 at *
   generalize joinsR f xs n1 1=J1 at *
   generalize joinsR f xs n2 2=J2 at *
   cases J1
   all_goals
    refine wp_region_quiet_below (by kernel_rfl) (by kernel_rfl) ?_
    repeat (go_big_quiet_step (first | (go_at_call 179;with_reducible exact quiet_t HN1.out) | (go_at_call 179;with_reducible exact quiet_t HN2.out) | (go_at_call 178;with_reducible exact quiet_t HJ1.out) | (go_at_call 178;with_reducible exact quiet_t HJ2.out)))
    refine wpQuiet_nil ?_
    rintro _ ⟨⟨dq,osq⟩,rfl⟩
    have bq:=below_regrown w3 dq osq
    clear x0 x1 x2 x3 x4 x5 x6 x7 x8 x9 x10 x11 hce4
    have HBQ:=Lib.hid (below_next HB3.out bq)
    have HF:=HR4.out
    rw [hx] at HF
    have HF2:=Lib.hid HF
    clear HF
    go_wp2_with fail
    go_ret
    rw [HF2.out]
    exact ⟨rfl,HBQ.out⟩
end Go.Proofs.YtjafpikjpipbkaaGreatDoor
namespace Go.Proofs.YtjafpikjpipbkaaGreatDoor
open Go.RowKit ND
def RetIE (w:World) (good:Prop) (e:Ending) (w':World):Prop:=∃ (i k:Int),e=.returned (.tuple #[.int .i64 i,.int .i64 k]) ∧ (good → k=0) ∧ Below w.heap.size w w'
theorem permJ_plain {f g:Int → Int} {xs:List Int} {k:Nat} {x:Int} (hx:xs[k]?=some x) (h:x ≠ 8204 ∧ x ≠ 8205):permJ f g xs k=true:=by
 unfold permJ;rw [getD_of hx,if_pos h]
theorem jcheck_any (t:Tv) (T:Tab) (v:Value) (xs:List Int) (w:World) (ht:TabR w w.heap.size t T) (hg:Glob w) (hv:Ints w w.heap.size .i64 v xs) :
  Calls Tryz.prog 108 #[t.val,v] w (RetIE w (accE T xs=0 ∧ ∀ x ∈ xs,x ≠ 8204 ∧ x ≠ 8205)):=by
 have HB0:Hid (Below w.heap.size w (w.alloc (.cells t.cells 26))):=Lib.hid ((Below.refl _ _).alloc (Nat.le_refl _) _)
 have HT:Hid (Tbl (w.alloc (.cells t.cells 26)) w.heap.size t T):=Lib.hid ⟨Blk.new _ _ _,ht.later HB0.out⟩
 have hv1:=hv.later HB0.out
 have HVI:=Lib.hid hv1
 obtain ⟨A,c,rfl,hc1,hc2,_,hcell⟩:=hv1
 have hl:xs.length ≤ 9223372036854775807:=by unfold maxLen at hc2;omega
 have HO:=Lib.hid (order_any t T _ xs _ HT.out.2 (hg.later HB0.out) HVI.out)
 clear ht hv hg hcell hc1 hc2
 obtain ⟨er,her⟩:∃ er,er=accE T xs:=⟨_,rfl⟩
 rw [← her] at HO ⊢
 by_cases h0:er=0
 case neg =>
  have hb:(er != 0)=true:=by simpa using h0
  have HN:=Lib.hid h0
  go_enter Tryz.func108,Tryz.ntmps108
  go_upto_region 1 with fail
  generalize w.alloc (.cells t.cells 26)=w1 at *
  obtain ⟨x0,x1,x2,x3,x4,x5,x6,x7,x8,x9,x10,x11⟩:=HT.out.1.tab
  go_wp2_with (go_at_call 37;refine HO.out.mono ?_;rintro e w2 ⟨u2,rfl,ho2,b2⟩)
  go_ret2
  exact ⟨_,_,rfl,fun h => absurd h.1 HN.out,below_next HB0.out b2⟩
 have hck:T.check=0:=(accE_zero (her.symm.trans h0)).1
 have hb:(er != 0)=false:=by simp [h0]
 have HP:=Lib.hid (fun (k:Nat) W (h:TabR W W.heap.size t T) (hu:Ints W W.heap.size .i64 (.slice A xs.length c) xs) (hk:k < xs.length) => jperm_any t T _ xs k W h hck hu hk)
 obtain ⟨f,hf⟩:∃ f,f=permJ T.joiningOf T.classOf xs:=⟨_,rfl⟩
 have HF:Hid (∀ k x,xs[k]?=some x → x ≠ 8204 ∧ x ≠ 8205 → f k=true):=Lib.hid fun k x h1 h2 => by rw [hf];exact permJ_plain h1 h2
 rw [← hf] at HP
 clear hck hf her
 go_enter Tryz.func108,Tryz.ntmps108
 go_upto_region 1 with fail
 generalize w.alloc (.cells t.cells 26)=w1 at *
 obtain ⟨x0,x1,x2,x3,x4,x5,x6,x7,x8,x9,x10,x11⟩:=HT.out.1.tab
 go_upto_region 4 with (go_at_call 37;refine HO.out.mono ?_;rintro e w2 ⟨u2,rfl,ho2,b2⟩)
 clear x0 x1 x2 x3 x4 x5 x6 x7 x8 x9 x10 x11 ho2 HO
 go_wp2_with fail
 go_loopw [20] (fun ii wr => ∃ k:Nat,k ≤ xs.length ∧ ii=.int .i64 k ∧ Below w1.heap.size w1 wr) (fun ii _ => xs.length - (intOf ii).toNat)
 case atStart => exact ⟨0,by omega,rfl,b2⟩
 case round =>
  obtain ⟨k,hk,rfl,hbel⟩:=hrel
  have HB:=Lib.hid (below_next HB0.out hbel)
  by_cases hlt:k < xs.length
  ·obtain ⟨x,hxk,hxm⟩:=get_of hlt
   have HXM:=Lib.hid (HF.out k x hxk)
   have HXI:=Lib.hid hxm
   have HC:=Lib.hid (HP.out k wr (HT.out.later hbel).2 (HVI.out.later hbel) hlt)
   clear hxk hxm
   generalize f k=r at *
   obtain ⟨x0,x1,x2,x3,x4,x5,x6,x7,x8,x9,x10,x11⟩:=(HT.out.later hbel).1.tab
   cases r
   ·go_wp2_with (go_at_call 148;refine HC.out.mono ?_;rintro e w3 ⟨rfl,b3⟩)
    go_ret2
    exact ⟨_,_,rfl,fun h => absurd (HXM.out (h.2 x HXI.out)) (by decide),below_next HB.out b3⟩
   ·go_wp2_with (go_at_call 148;refine HC.out.mono ?_;rintro e w3 ⟨rfl,b3⟩)
    have hb3:=below_next hbel b3
    go_roundw
    case rel => exact ⟨k + 1,by omega,by go_num,hb3⟩
    case measure => simp [intOf];omega
  ·go_wp2_with fail
   go_ret2
   exact ⟨_,_,rfl,fun _ => rfl,HB.out⟩
end Go.Proofs.YtjafpikjpipbkaaGreatDoor
namespace Go.Proofs.YtjafpikjpipbkaaGreatDoor
open Go.RowKit ND
theorem ownScript (W:World) (q:Int × Int × Int × Int):Calls Tryz.prog 220 #[fixV q] W fun e W' => e=.returned (.int .i64 (q.2.2.1)) ∧ Below W.heap.size W W':=by
 unfold fixV
 go_enter Tryz.func220,Tryz.ntmps220
 go_wp2_with fail
 go_ret
 exact ⟨rfl,(Below.refl _ _).alloc (Nat.le_refl _) _⟩
theorem script_any (t:Tv) (T:Tab) (c lo hi:Int) (w:World) (ht:TabR w w.heap.size t T) (hs:okS lo hi (-1) T.script=true) (hlen:T.script.length ≤ 256) :
  Calls Tryz.prog 203 #[t.val,.int .i64 c] w fun e w' => e=.returned (.int .i64 (T.scriptOf c)) ∧ Below w.heap.size w w':=by
 have HP:=Lib.hid (fun W (h:Spans W W.heap.size t.c4 T.script) => pick_prop 220 (fun q => q.2.2.1) t.c4 T.script c lo hi W (enters_of Tryz.func220 (by kernel_rfl) rfl) ownScript h hs hlen)
 have hr:=ht.r4
 have HR:=Lib.hid (fun o:Obj => hr.later ((Below.refl _ _).alloc (Nat.le_refl _) o))
 clear hr ht hs hlen
 go_enter Tryz.func203,Tryz.ntmps203
 go_wp2_with fail
 refine (HP.out _ (HR.out _)).mono ?_
 rintro e w1 ⟨rfl,b1⟩
 go_wp2_with fail
 go_ret
 exact ⟨rfl,below_next ((Below.refl _ _).alloc (Nat.le_refl _) _) b1⟩
end Go.Proofs.YtjafpikjpipbkaaGreatDoor
namespace Go.Proofs.YtjafpikjpipbkaaGreatDoor
open Go.RowKit ND
def RetB (w:World) (e:Ending) (w':World):Prop:=(∃ b:Bool,e=.returned (.bool b)) ∧ Below w.heap.size w w'
theorem arabic_any (c:Int) (w:World):Calls Tryz.prog 183 #[.int .i64 c] w fun e w' => e=.returned (.bool (decide (1632 ≤ c ∧ c ≤ 1641))) ∧ w=w':=by
 obtain ⟨R,hR⟩:∃ R,R=decide (1632 ≤ c ∧ c ≤ 1641):=⟨_,rfl⟩
 have HR:=Lib.hid hR
 rw [← hR]
 clear hR
 by_cases h1:1632 ≤ c
 ·by_cases h2:c ≤ 1641
  ·have y1:decide ((1632:Int) ≤ c)=true:=decide_eq_true h1
   have y2:decide (c ≤ 1641)=true:=decide_eq_true h2
   have HF:Hid (R=true):=Lib.hid (by rw [HR.out];exact decide_eq_true ⟨h1,h2⟩)
   go_enter Tryz.func183,Tryz.ntmps183
   go_wp2_with fail
   go_ret
   exact ⟨by rw [HF.out];rfl,rfl⟩
  ·have y1:decide ((1632:Int) ≤ c)=true:=decide_eq_true h1
   have y2:decide (c ≤ 1641)=false:=decide_eq_false h2
   have HF:Hid (R=false):=Lib.hid (by rw [HR.out];exact decide_eq_false (by omega))
   go_enter Tryz.func183,Tryz.ntmps183
   go_wp2_with fail
   go_ret
   exact ⟨by rw [HF.out];rfl,rfl⟩
 ·have y1:decide ((1632:Int) ≤ c)=false:=decide_eq_false h1
  have HF:Hid (R=false):=Lib.hid (by rw [HR.out];exact decide_eq_false (by omega))
  go_enter Tryz.func183,Tryz.ntmps183
  go_wp2_with fail
  go_ret
  exact ⟨by rw [HF.out];rfl,rfl⟩
theorem extended_any (c:Int) (w:World):Calls Tryz.prog 184 #[.int .i64 c] w fun e w' => e=.returned (.bool (decide (1776 ≤ c ∧ c ≤ 1785))) ∧ w=w':=by
 obtain ⟨R,hR⟩:∃ R,R=decide (1776 ≤ c ∧ c ≤ 1785):=⟨_,rfl⟩
 have HR:=Lib.hid hR
 rw [← hR]
 clear hR
 by_cases h1:1776 ≤ c
 ·by_cases h2:c ≤ 1785
  ·have y1:decide ((1776:Int) ≤ c)=true:=decide_eq_true h1
   have y2:decide (c ≤ 1785)=true:=decide_eq_true h2
   have HF:Hid (R=true):=Lib.hid (by rw [HR.out];exact decide_eq_true ⟨h1,h2⟩)
   go_enter Tryz.func184,Tryz.ntmps184
   go_wp2_with fail
   go_ret
   exact ⟨by rw [HF.out];rfl,rfl⟩
  ·have y1:decide ((1776:Int) ≤ c)=true:=decide_eq_true h1
   have y2:decide (c ≤ 1785)=false:=decide_eq_false h2
   have HF:Hid (R=false):=Lib.hid (by rw [HR.out];exact decide_eq_false (by omega))
   go_enter Tryz.func184,Tryz.ntmps184
   go_wp2_with fail
   go_ret
   exact ⟨by rw [HF.out];rfl,rfl⟩
 ·have y1:decide ((1776:Int) ≤ c)=false:=decide_eq_false h1
  have HF:Hid (R=false):=Lib.hid (by rw [HR.out];exact decide_eq_false (by omega))
  go_enter Tryz.func184,Tryz.ntmps184
  go_wp2_with fail
  go_ret
  exact ⟨by rw [HF.out];rfl,rfl⟩
def SaysB (P:Program) (w:World) (g:FuncId) (cb:Array Value):Prop:=∀ (W:World) (x:Int),Below w.heap.size w W → Calls P g (#[.int .i64 x] ++ cb) W (RetB W)
theorem indexFunc_any (g:Nat) (cb:Array Value) (v:Value) (xs:List Int) (w:World) (eg:∀ args w,(callFunc g args).run Tryz.prog w=.ok (.enter g args) w) (hf:SaysB Tryz.prog w g cb) (hv:Ints w w.heap.size .i64 v xs) :
  Calls Tryz.prog 165 #[v,.func (.func g) #[] cb] w fun e w' => (∃ r:Int,e=.returned (.int .i64 r)) ∧ Below w.heap.size w w':=by
 obtain ⟨A,c,rfl,hc1,hc2,_,hcell⟩:=hv
 have HC:=Lib.hid hcell
 have hl:xs.length ≤ 9223372036854775807:=by unfold maxLen at hc2;omega
 have HF:=Lib.hid hf
 clear hf hcell hc1 hc2
 go_enter Tryz.func165,Tryz.ntmps165
 go_wp2_with fail
 go_loopw [8] (fun ii wr => ∃ k:Nat,k ≤ xs.length ∧ ii=.int .i64 k ∧ Below w.heap.size w wr) (fun ii _ => xs.length - (intOf ii).toNat)
 case atStart => exact ⟨0,by omega,rfl,Below.refl _ _⟩
 case round =>
  obtain ⟨k,hk,rfl,hbel⟩:=hrel
  by_cases hlt:k < xs.length
  ·obtain ⟨x,hxk,_⟩:=get_of hlt
   obtain ⟨ad,rfl,hb,hce⟩:=HC.out k x hxk
   have hce':=(hbel.cell (p:=ad.add k) (by rw [block_of_add];exact hb)).trans hce
   have k0:(0:Int) ≤ (k:Int):=by omega
   have k1:(k:Int) < (xs.length:Int):=by omega
   have HX:=Lib.hid (HF.out wr x hbel)
   clear hxk hb hce
   go_wp2_with fail
   refine HX.out.mono ?_
   rintro e w1 ⟨⟨b,rfl⟩,b1⟩
   have hbel2:=below_next hbel b1
   cases b
   ·go_wp2_with fail
    go_roundw
    case rel => exact ⟨k + 1,by omega,by go_num,hbel2⟩
    case measure => simp [intOf];omega
   ·go_wp2_with fail
    go_ret
    exact ⟨⟨_,rfl⟩,hbel2⟩
  ·go_wp2_with fail
   go_ret
   exact ⟨⟨_,rfl⟩,hbel⟩
theorem containsFunc_any (g:Nat) (cb:Array Value) (v:Value) (xs:List Int) (w:World) (eg:∀ args w,(callFunc g args).run Tryz.prog w=.ok (.enter g args) w) (hf:SaysB Tryz.prog w g cb) (hv:Ints w w.heap.size .i64 v xs) :
  Calls Tryz.prog 127 #[v,.func (.func g) #[] cb] w (RetB w):=by
 have HI:=Lib.hid (indexFunc_any g cb v xs w eg hf hv)
 clear eg hf hv
 go_enter Tryz.func127,Tryz.ntmps127
 go_wp2_with (go_at_call 165;refine HI.out.mono ?_;rintro e w1 ⟨⟨r,rfl⟩,b1⟩)
 go_ret
 exact ⟨⟨_,rfl⟩,b1⟩
theorem japanese_any (t:Tv) (T:Tab) (c:Int) (w:World) (ht:TabR w w.heap.size t T) (hck:T.check=0):Calls Tryz.prog 182 #[t.val,.int .i64 c] w (RetB w):=by
 have HB0:Hid (Below w.heap.size w (w.alloc (.cells t.cells 26))):=Lib.hid ((Below.refl _ _).alloc (Nat.le_refl _) _)
 have HT:Hid (Tbl (w.alloc (.cells t.cells 26)) w.heap.size t T):=Lib.hid ⟨Blk.new _ _ _,ht.later HB0.out⟩
 have HS:=Lib.hid (script_any t T c 0 1114111 _ HT.out.2 (shape_of hck).c4.1 (shape_of hck).c4.2.1)
 clear ht hck
 generalize T.scriptOf c=s at *
 cases h7:s == 7 <;> cases h8:s == 8 <;> cases h6:s == 6
 all_goals
  go_enter Tryz.func182,Tryz.ntmps182
  go_upto_region 1 with fail
  generalize w.alloc (.cells t.cells 26)=w1 at *
  obtain ⟨x0,x1,x2,x3,x4,x5,x6,x7,x8,x9,x10,x11⟩:=HT.out.1.tab
  go_wp2_with (go_at_call 203;refine HS.out.mono ?_;rintro e w2 ⟨rfl,b2⟩)
  go_ret
  exact ⟨⟨_,rfl⟩,below_next HB0.out b2⟩
theorem japClos (t:Tv) (T:Tab) (w:World) (q:Nat) (ht:Tbl w q t T) (hck:T.check=0):SaysB Tryz.prog w 181 #[.pointer (some ⟨q,0,none⟩)]:=by
 intro W x hW
 have HJ:=Lib.hid (japanese_any t T x W (ht.later hW).2 hck)
 obtain ⟨x0,x1,x2,x3,x4,x5,x6,x7,x8,x9,x10,x11⟩:=(ht.later hW).1.tab
 clear ht hck
 show Calls _ _ #[.int .i64 x,.pointer (some ⟨q,0,none⟩)] _ _
 go_enter Tryz.func181,Tryz.ntmps181
 go_wp2_with (go_at_call 182;refine HJ.out.mono ?_;rintro e w2 ⟨⟨b,rfl⟩,b2⟩)
 go_ret
 exact ⟨⟨_,rfl⟩,b2⟩
end Go.Proofs.YtjafpikjpipbkaaGreatDoor
namespace Go.Proofs.YtjafpikjpipbkaaGreatDoor
open Go.RowKit ND
theorem has_any (t:Tv) (T:Tab) (v:Value) (xs:List Int) (i s:Int) (w:World) (ht:TabR w w.heap.size t T) (hck:T.check=0) (hv:Ints w w.heap.size .i64 v xs) :
  Calls Tryz.prog 180 #[t.val,v,.int .i64 i,.int .i64 s] w (RetB w):=by
 have HB0:Hid (Below w.heap.size w (w.alloc (.cells t.cells 26))):=Lib.hid ((Below.refl _ _).alloc (Nat.le_refl _) _)
 have HT:Hid (Tbl (w.alloc (.cells t.cells 26)) w.heap.size t T):=Lib.hid ⟨Blk.new _ _ _,ht.later HB0.out⟩
 have hv1:=hv.later HB0.out
 have HVI:=Lib.hid hv1
 obtain ⟨A,c,rfl,hc1,hc2,_,hcell⟩:=hv1
 have HC:=Lib.hid hcell
 have hl:xs.length ≤ 9223372036854775807:=by unfold maxLen at hc2;omega
 have HS:=Lib.hid (fun d W (h:TabR W W.heap.size t T) => script_any t T d 0 1114111 W h (shape_of hck).c4.1 (shape_of hck).c4.2.1)
 clear ht hv hcell hc1 hc2 hck
 by_cases h0:0 ≤ i
 case neg =>
  have y1:decide ((0:Int) ≤ i)=false:=decide_eq_false h0
  go_enter Tryz.func180,Tryz.ntmps180
  go_upto_region 1 with fail
  generalize w.alloc (.cells t.cells 26)=w1 at *
  obtain ⟨x0,x1,x2,x3,x4,x5,x6,x7,x8,x9,x10,x11⟩:=HT.out.1.tabG
  refine wp_region_quiet_below (by kernel_rfl) (by kernel_rfl) ?_
  repeat (go_big_quiet_step (fail))
  refine wpQuiet_nil ?_
  rintro _ ⟨⟨dq,osq⟩,rfl⟩
  have HBQ:=Lib.hid (below_next HB0.out (below_regrown w1 dq osq))
  clear x0 x1 x2 x3 x4 x5 x6 x7 x8 x9 x10 x11
  go_wp2_with fail
  go_ret
  exact ⟨⟨_,rfl⟩,HBQ.out⟩
 have y1:decide ((0:Int) ≤ i)=true:=decide_eq_true h0
 by_cases h1:i < (xs.length:Int)
 case neg =>
  have y2:decide (i < (xs.length:Int))=false:=decide_eq_false h1
  go_enter Tryz.func180,Tryz.ntmps180
  go_upto_region 1 with fail
  generalize w.alloc (.cells t.cells 26)=w1 at *
  obtain ⟨x0,x1,x2,x3,x4,x5,x6,x7,x8,x9,x10,x11⟩:=HT.out.1.tabG
  refine wp_region_quiet_below (by kernel_rfl) (by kernel_rfl) ?_
  repeat (go_big_quiet_step (fail))
  refine wpQuiet_nil ?_
  rintro _ ⟨⟨dq,osq⟩,rfl⟩
  have HBQ:=Lib.hid (below_next HB0.out (below_regrown w1 dq osq))
  clear x0 x1 x2 x3 x4 x5 x6 x7 x8 x9 x10 x11
  go_wp2_with fail
  go_ret
  exact ⟨⟨_,rfl⟩,HBQ.out⟩
 have y2:decide (i < (xs.length:Int))=true:=decide_eq_true h1
 obtain ⟨k,rfl⟩:∃ k:Nat,i=(k:Int):=⟨i.toNat,by omega⟩
 obtain ⟨x,hxk,_⟩:=get_of (show k < xs.length by omega)
 obtain ⟨ad,rfl,hb1,hce⟩:=HC.out k x hxk
 clear hxk hb1
 go_enter Tryz.func180,Tryz.ntmps180
 go_upto_region 1 with fail
 generalize w.alloc (.cells t.cells 26)=w1 at *
 have hce2:=cell_regrown hce
 clear hce
 have HV:Hid (∀ V,Below w1.heap.size w1 V → Calls Tryz.prog 203 #[.agg #[t.c0,t.c1,t.c2,t.c3,t.c4,t.c5,t.c6,t.c7,t.c8,t.c9,t.c10,t.c11],.int .i64 x] V fun e V' => e=.returned (.int .i64 (T.scriptOf x)) ∧ Below V.heap.size V V'):=Lib.hid fun V hV => HS.out x V (HT.out.later hV).2
 generalize T.scriptOf x=sx at *
 obtain ⟨x0,x1,x2,x3,x4,x5,x6,x7,x8,x9,x10,x11⟩:=HT.out.1.tabG
 refine wp_region_quiet_below (by kernel_rfl) (by kernel_rfl) ?_
 repeat (go_big_quiet_step ((go_at_call 203;with_reducible exact quiet_t HV.out)))
 refine wpQuiet_nil ?_
 rintro _ ⟨⟨dq,osq⟩,rfl⟩
 have HBQ:=Lib.hid (below_next HB0.out (below_regrown w1 dq osq))
 clear x0 x1 x2 x3 x4 x5 x6 x7 x8 x9 x10 x11 hce2
 go_wp2_with fail
 go_ret
 exact ⟨⟨_,rfl⟩,HBQ.out⟩
def plainC (c:Int):Prop:=c ≠ 183 ∧ c ≠ 885 ∧ c ≠ 1523 ∧ c ≠ 1524 ∧ c ≠ 12539 ∧ ¬ (1632 ≤ c ∧ c ≤ 1641) ∧ ¬ (1776 ≤ c ∧ c ≤ 1785)
def RetBP (w:World) (good:Prop) (e:Ending) (w':World):Prop:=∃ b:Bool,e=.returned (.bool b) ∧ (good → b=true) ∧ Below w.heap.size w w'
theorem cperm_any (t:Tv) (T:Tab) (v:Value) (xs:List Int) (k:Nat) (x:Int) (w:World) (ht:TabR w w.heap.size t T) (hck:T.check=0) (hv:Ints w w.heap.size .i64 v xs) (hx:xs[k]?=some x) :
  Calls Tryz.prog 149 #[t.val,v,.int .i64 k] w (RetBP w (plainC x)):=by
 have HB0:Hid (Below w.heap.size w (w.alloc (.cells t.cells 26))):=Lib.hid ((Below.refl _ _).alloc (Nat.le_refl _) _)
 have HT:Hid (Tbl (w.alloc (.cells t.cells 26)) w.heap.size t T):=Lib.hid ⟨Blk.new _ _ _,ht.later HB0.out⟩
 have hv1:=hv.later HB0.out
 have HVI:=Lib.hid hv1
 obtain ⟨A,c,rfl,hc1,hc2,_,hcell⟩:=hv1
 have HC:=Lib.hid hcell
 have hl:xs.length ≤ 9223372036854775807:=by unfold maxLen at hc2;omega
 have hk:k < xs.length:=(List.getElem?_eq_some_iff.1 hx).1
 have HHA:=Lib.hid (fun (i s:Int) W (h:TabR W W.heap.size t T) (hu:Ints W W.heap.size .i64 (.slice A xs.length c) xs) => has_any t T _ xs i s W h hck hu)
 have HJC:=Lib.hid (fun W q (h:Tbl W q t T) => japClos t T W q h hck)
 have HAR:Hid (∀ W,SaysB Tryz.prog W 183 #[]):=Lib.hid fun W V y hV => (arabic_any y V).mono (by rintro e w' ⟨rfl,rfl⟩;exact ⟨⟨_,rfl⟩,Below.refl _ _⟩)
 have HEX:Hid (∀ W,SaysB Tryz.prog W 184 #[]):=Lib.hid fun W V y hV => (extended_any y V).mono (by rintro e w' ⟨rfl,rfl⟩;exact ⟨⟨_,rfl⟩,Below.refl _ _⟩)
 clear ht hv hcell hc1 hc2 hck
 obtain ⟨ad,rfl,hb1,hce⟩:=HC.out k x hx
 have k0:(0:Int) ≤ (k:Int):=by omega
 have k1:(k:Int) < (xs.length:Int):=by omega
 clear hb1
 obtain ⟨P,hP⟩:∃ P,P=plainC x:=⟨_,rfl⟩
 have HP:=Lib.hid hP
 rw [← hP]
 clear hP
 unfold plainC at HP
 go_enter Tryz.func149,Tryz.ntmps149
 go_upto_region 1 with fail
 generalize w.alloc (.cells t.cells 26)=w1 at *
 obtain ⟨x0,x1,x2,x3,x4,x5,x6,x7,x8,x9,x10,x11⟩:=HT.out.1.tab
 by_cases h183:x=183
 case pos =>
  have y1:(x == 183)=true:=by simp [h183]
  have HN:Hid (¬ P):=Lib.hid (by rw [HP.out];intro h;exact h.1 h183)
  by_cases hk0:0 < k
  case neg =>
   have z1:decide ((0:Int) < (k:Int))=false:=decide_eq_false (by omega)
   go_wp2_with fail
   go_ret
   exact ⟨_,rfl,fun h => absurd h HN.out,HB0.out⟩
  have z1:decide ((0:Int) < (k:Int))=true:=decide_eq_true (by omega)
  by_cases hk1:k + 1 < xs.length
  case neg =>
   have z2:decide ((k:Int) < (xs.length:Int) - 1)=false:=decide_eq_false (by omega)
   go_wp2_with fail
   go_ret
   exact ⟨_,rfl,fun h => absurd h HN.out,HB0.out⟩
  have z2:decide ((k:Int) < (xs.length:Int) - 1)=true:=decide_eq_true (by omega)
  obtain ⟨xa,hxa,_⟩:=get_of (show k - 1 < xs.length by omega)
  obtain ⟨ada,hA,hba,hca⟩:=HC.out (k - 1) xa hxa
  cases hA
  obtain ⟨xb,hxb,_⟩:=get_of hk1
  obtain ⟨adb,hA,hbb,hcb⟩:=HC.out (k + 1) xb hxb
  cases hA
  clear hxa hxb hba hbb hx
  have q1:(0:Int) ≤ (k:Int) - 1:=by omega
  have q2:(k:Int) - 1 < (xs.length:Int):=by omega
  have q3:(0:Int) ≤ (k:Int) + 1:=by omega
  have q4:(k:Int) + 1 < (xs.length:Int):=by omega
  have q5:((k:Int) - 1).toNat=k - 1:=by omega
  have q6:((k:Int) + 1).toNat=k + 1:=by omega
  have hcb3:w1.cell? ⟨ad.block,ad.off + (k + 1),none⟩=some (.int .i64 xb):=by
   rw [← hcb]
   unfold Addr.add
   rw [if_neg (by omega)]
  cases hca2:xa == 108 <;> cases hcb2:xb == 108
  all_goals
   go_wp2_with fail
   go_ret
   exact ⟨_,rfl,fun h => absurd h HN.out,HB0.out⟩
 have y1:(x == 183)=false:=by simpa using h183
 by_cases h885:x=885
 case pos =>
  have y2:(x == 885)=true:=by simp [h885]
  have HN:Hid (¬ P):=Lib.hid (by rw [HP.out];intro h;exact h.2.1 h885)
  have HH:=Lib.hid (HHA.out ((k:Int) + 1) 4 w1 HT.out.2 HVI.out)
  go_wp2_with (go_at_call 180;refine HH.out.mono ?_;rintro e w2 ⟨⟨b,rfl⟩,b2⟩)
  go_ret
  exact ⟨_,rfl,fun h => absurd h HN.out,below_next HB0.out b2⟩
 have y2:(x == 885)=false:=by simpa using h885
 by_cases hge:x=1523 ∨ x=1524
 case pos =>
  have HN:Hid (¬ P):=Lib.hid (by rw [HP.out];intro h;rcases hge with e | e;exact h.2.2.1 e;exact h.2.2.2.1 e)
  have HH:=Lib.hid (HHA.out ((k:Int) - 1) 11 w1 HT.out.2 HVI.out)
  have y3:(x == 1523)=true ∨ ((x == 1523)=false ∧ (x == 1524)=true):=by
   by_cases h:x=1523
   ·exact .inl (by simp [h])
   ·exact .inr ⟨by simpa using h,by simp;omega⟩
  rcases y3 with y3 | ⟨y3,y4⟩
  all_goals
   go_wp2_with (go_at_call 180;refine HH.out.mono ?_;rintro e w2 ⟨⟨b,rfl⟩,b2⟩)
   go_ret
   exact ⟨_,rfl,fun h => absurd h HN.out,below_next HB0.out b2⟩
 have y3:(x == 1523)=false:=by simp;omega
 have y4:(x == 1524)=false:=by simp;omega
 by_cases hkt:x=12539
 case pos =>
  have y5:(x == 12539)=true:=by simp [hkt]
  have HN:Hid (¬ P):=Lib.hid (by rw [HP.out];intro h;exact h.2.2.2.2.1 hkt)
  have HH:=Lib.hid (containsFunc_any 181 #[.pointer (some ⟨w.heap.size,0,none⟩)] _ xs w1 (enters_of Tryz.func181 (by kernel_rfl) rfl) (HJC.out _ _ HT.out) HVI.out)
  go_wp2_with (go_at_call 127;refine HH.out.mono ?_;rintro e w2 ⟨⟨b,rfl⟩,b2⟩)
  go_ret
  exact ⟨_,rfl,fun h => absurd h HN.out,below_next HB0.out b2⟩
 have y5:(x == 12539)=false:=by simpa using hkt
 have HA:=Lib.hid (arabic_any x w1)
 have HE:=Lib.hid (extended_any x w1)
 by_cases har:1632 ≤ x ∧ x ≤ 1641
 case pos =>
  rw [decide_eq_true har] at HA
  have HN:Hid (¬ P):=Lib.hid (by rw [HP.out];intro h;exact h.2.2.2.2.2.1 har)
  have HH:=Lib.hid (containsFunc_any 184 #[] _ xs w1 (enters_of Tryz.func184 (by kernel_rfl) rfl) (HEX.out _) HVI.out)
  go_wp2_with (first | (go_at_call 183;refine HA.out.mono ?_;rintro e w3 ⟨rfl,rfl⟩) | (go_at_call 127;refine HH.out.mono ?_;rintro e w2 ⟨⟨b,rfl⟩,b2⟩))
  go_ret
  exact ⟨_,rfl,fun h => absurd h HN.out,below_next HB0.out b2⟩
 rw [decide_eq_false har] at HA
 by_cases hex:1776 ≤ x ∧ x ≤ 1785
 case pos =>
  rw [decide_eq_true hex] at HE
  have HN:Hid (¬ P):=Lib.hid (by rw [HP.out];intro h;exact h.2.2.2.2.2.2 hex)
  have HH:=Lib.hid (containsFunc_any 183 #[] _ xs w1 (enters_of Tryz.func183 (by kernel_rfl) rfl) (HAR.out _) HVI.out)
  go_wp2_with (first | (go_at_call 183;refine HA.out.mono ?_;rintro e w3 ⟨rfl,rfl⟩) | (go_at_call 184;refine HE.out.mono ?_;rintro e w3 ⟨rfl,rfl⟩) | (go_at_call 127;refine HH.out.mono ?_;rintro e w2 ⟨⟨b,rfl⟩,b2⟩))
  go_ret
  exact ⟨_,rfl,fun h => absurd h HN.out,below_next HB0.out b2⟩
 rw [decide_eq_false hex] at HE
 go_wp2_with (first | (go_at_call 183;refine HA.out.mono ?_;rintro e w3 ⟨rfl,rfl⟩) | (go_at_call 184;refine HE.out.mono ?_;rintro e w3 ⟨rfl,rfl⟩))
 go_ret
 exact ⟨_,rfl,fun _ => rfl,HB0.out⟩
theorem ccheck_any (t:Tv) (T:Tab) (v:Value) (xs:List Int) (w:World) (ht:TabR w w.heap.size t T) (hg:Glob w) (hv:Ints w w.heap.size .i64 v xs) :
  Calls Tryz.prog 109 #[t.val,v] w (RetIE w (accE T xs=0 ∧ ∀ x ∈ xs,plainC x)):=by
 have HB0:Hid (Below w.heap.size w (w.alloc (.cells t.cells 26))):=Lib.hid ((Below.refl _ _).alloc (Nat.le_refl _) _)
 have HT:Hid (Tbl (w.alloc (.cells t.cells 26)) w.heap.size t T):=Lib.hid ⟨Blk.new _ _ _,ht.later HB0.out⟩
 have hv1:=hv.later HB0.out
 have HVI:=Lib.hid hv1
 obtain ⟨A,c,rfl,hc1,hc2,_,hcell⟩:=hv1
 have hl:xs.length ≤ 9223372036854775807:=by unfold maxLen at hc2;omega
 have HO:=Lib.hid (order_any t T _ xs _ HT.out.2 (hg.later HB0.out) HVI.out)
 clear ht hv hg hcell hc1 hc2
 obtain ⟨er,her⟩:∃ er,er=accE T xs:=⟨_,rfl⟩
 rw [← her] at HO ⊢
 by_cases h0:er=0
 case neg =>
  have hb:(er != 0)=true:=by simpa using h0
  have HN:=Lib.hid h0
  go_enter Tryz.func109,Tryz.ntmps109
  go_upto_region 1 with fail
  generalize w.alloc (.cells t.cells 26)=w1 at *
  obtain ⟨x0,x1,x2,x3,x4,x5,x6,x7,x8,x9,x10,x11⟩:=HT.out.1.tab
  go_wp2_with (go_at_call 37;refine HO.out.mono ?_;rintro e w2 ⟨u2,rfl,ho2,b2⟩)
  go_ret2
  exact ⟨_,_,rfl,fun h => absurd h.1 HN.out,below_next HB0.out b2⟩
 have hck:T.check=0:=(accE_zero (her.symm.trans h0)).1
 have hb:(er != 0)=false:=by simp [h0]
 have HP:=Lib.hid (fun (k:Nat) x W (h:TabR W W.heap.size t T) (hu:Ints W W.heap.size .i64 (.slice A xs.length c) xs) (hk:xs[k]?=some x) => cperm_any t T _ xs k x W h hck hu hk)
 clear hck her
 go_enter Tryz.func109,Tryz.ntmps109
 go_upto_region 1 with fail
 generalize w.alloc (.cells t.cells 26)=w1 at *
 obtain ⟨x0,x1,x2,x3,x4,x5,x6,x7,x8,x9,x10,x11⟩:=HT.out.1.tab
 go_upto_region 4 with (go_at_call 37;refine HO.out.mono ?_;rintro e w2 ⟨u2,rfl,ho2,b2⟩)
 clear x0 x1 x2 x3 x4 x5 x6 x7 x8 x9 x10 x11 ho2 HO
 go_wp2_with fail
 go_loopw [20] (fun ii wr => ∃ k:Nat,k ≤ xs.length ∧ ii=.int .i64 k ∧ Below w1.heap.size w1 wr) (fun ii _ => xs.length - (intOf ii).toNat)
 case atStart => exact ⟨0,by omega,rfl,b2⟩
 case round =>
  obtain ⟨k,hk,rfl,hbel⟩:=hrel
  have HB:=Lib.hid (below_next HB0.out hbel)
  by_cases hlt:k < xs.length
  ·obtain ⟨x,hxk,hxm⟩:=get_of hlt
   have HXI:=Lib.hid hxm
   have HC:=Lib.hid (HP.out k x wr (HT.out.later hbel).2 (HVI.out.later hbel) hxk)
   clear hxk hxm
   obtain ⟨x0,x1,x2,x3,x4,x5,x6,x7,x8,x9,x10,x11⟩:=(HT.out.later hbel).1.tab
   go_upto_region 8 with (go_at_call 149;refine HC.out.mono ?_;rintro e w3 ⟨r,rfl,HR,b3⟩;cases r)
   ·go_wp2_with fail
    go_ret2
    exact ⟨_,_,rfl,fun h => Bool.noConfusion (HR (h.2 x HXI.out)),below_next HB.out b3⟩
   ·go_wp2_with fail
    have hb3:=below_next hbel b3
    go_roundw
    case rel => exact ⟨k + 1,by omega,by go_num,hb3⟩
    case measure => simp [intOf];omega
  ·go_wp2_with fail
   go_ret2
   exact ⟨_,_,rfl,fun _ => rfl,HB.out⟩
end Go.Proofs.YtjafpikjpipbkaaGreatDoor
namespace Go.Proofs.YtjafpikjpipbkaaGreatDoor
open Go.RowKit ND
theorem cell_zero {w:World} {ad:Addr} {u:Value} (h:w.cell? (ad.add 0)=some u):w.cell? ad=some u:=by
 unfold Addr.add at h;rwa [if_pos rfl] at h
theorem cell_pos {w:World} {ad:Addr} {u:Value} {n:Nat} (hn:n ≠ 0) (h:w.cell? (ad.add n)=some u):w.cell? ⟨ad.block,ad.off + n,none⟩=some u:=by
 unfold Addr.add at h;rwa [if_neg hn] at h
theorem hyphens_any (v:Value) (xs:List Int) (w:World) (hv:Ints w w.heap.size .i64 v xs) :
  Calls Tryz.prog 106 #[v] w (RetBP w (∀ x ∈ xs,x ≠ 45)):=by
 obtain ⟨A,c,rfl,hc1,hc2,_,hcell⟩:=hv
 have HC:=Lib.hid hcell
 have hl:xs.length ≤ 9223372036854775807:=by unfold maxLen at hc2;omega
 clear hcell hc1 hc2
 obtain ⟨P,hP⟩:∃ P,P=(∀ x ∈ xs,x ≠ 45):=⟨_,rfl⟩
 have HP:=Lib.hid hP
 rw [← hP]
 clear hP
 by_cases h0:xs.length=0
 case pos =>
  have z1:((xs.length:Int) == 0)=true:=beq_iff_eq.2 (by omega)
  go_enter Tryz.func106,Tryz.ntmps106
  go_wp2_with fail
  go_ret
  exact ⟨_,rfl,fun _ => rfl,Below.refl _ _⟩
 have z1:((xs.length:Int) == 0)=false:=beq_eq_false_iff_ne.2 (by omega)
 obtain ⟨xa,hxa,hma⟩:=get_of (show 0 < xs.length by omega)
 obtain ⟨ad,rfl,hba,hca⟩:=HC.out 0 xa hxa
 obtain ⟨xb,hxb,hmb⟩:=get_of (show xs.length - 1 < xs.length by omega)
 obtain ⟨adb,hA,hbb,hcb⟩:=HC.out (xs.length - 1) xb hxb
 cases hA
 have hca0:=cell_zero hca
 have q1:(0:Int) < (xs.length:Int):=by omega
 have q2:(0:Int) ≤ (xs.length:Int) - 1:=by omega
 have q3:(xs.length:Int) - 1 < (xs.length:Int):=by omega
 have q4:((xs.length:Int) - 1).toNat=xs.length - 1:=by omega
 have q5:0 < xs.length:=by omega
 have HNA:Hid ((xa != 45)=false → ¬ P):=Lib.hid (fun h => by rw [HP.out];intro h2;have:=h2 xa hma;simp at h;exact this h)
 have HNB:Hid ((xb != 45)=false → ¬ P):=Lib.hid (fun h => by rw [HP.out];intro h2;have:=h2 xb hmb;simp at h;exact this h)
 clear hxa hxb hma hmb hba hbb
 by_cases h4:xs.length < 4
 case pos =>
  have z2:decide ((xs.length:Int) < 4)=true:=decide_eq_true (by omega)
  cases ha:xa != 45 <;> cases hb:xb != 45
  all_goals
   go_enter Tryz.func106,Tryz.ntmps106
   go_wp2_with fail
   go_ret
   refine ⟨_,rfl,fun h => ?_,Below.refl _ _⟩
   first
    | rfl
    | exact absurd h (HNA.out ha)
    | exact absurd h (HNB.out hb)
 have z2:decide ((xs.length:Int) < 4)=false:=decide_eq_false (by omega)
 obtain ⟨xd,hxd,hmd⟩:=get_of (show 2 < xs.length by omega)
 obtain ⟨add,hA,hbd,hcd⟩:=HC.out 2 xd hxd
 cases hA
 obtain ⟨xe,hxe,hme⟩:=get_of (show 3 < xs.length by omega)
 obtain ⟨ade,hA,hbe,hce⟩:=HC.out 3 xe hxe
 cases hA
 have hcd2:=cell_pos (by omega) hcd
 have hce2:=cell_pos (by omega) hce
 have q6:(2:Int) < (xs.length:Int):=by omega
 have q7:(3:Int) < (xs.length:Int):=by omega
 have q8:2 < xs.length:=by omega
 have q9:3 < xs.length:=by omega
 have HND:Hid ((xd != 45)=false → ¬ P):=Lib.hid (fun h => by rw [HP.out];intro h2;have:=h2 xd hmd;simp at h;exact this h)
 have HNE:Hid ((xe != 45)=false → ¬ P):=Lib.hid (fun h => by rw [HP.out];intro h2;have:=h2 xe hme;simp at h;exact this h)
 clear hxd hxe hmd hme hbd hbe
 cases ha:xa != 45 <;> cases hb:xb != 45 <;> cases hd:xd != 45 <;> cases he:xe != 45
 all_goals
  go_enter Tryz.func106,Tryz.ntmps106
  go_wp2_with fail
  go_ret
  refine ⟨_,rfl,fun h => ?_,Below.refl _ _⟩
  first
   | rfl
   | exact absurd h (HNA.out ha)
   | exact absurd h (HNB.out hb)
   | exact absurd h (HND.out hd)
   | exact absurd h (HNE.out he)
end Go.Proofs.YtjafpikjpipbkaaGreatDoor
namespace Go.Proofs.YtjafpikjpipbkaaGreatDoor
open Go.RowKit ND
def RetOpt (w:World) (r:Option Int) (e:Ending) (w':World):Prop:=e=.returned (.tuple #[.int .i64 (r.getD 0),.bool r.isSome]) ∧ w=w'
theorem hcomp_any (a b:Int) (w:World):Calls Tryz.prog 135 #[.int .i64 a,.int .i64 b] w (RetOpt w (hcomp a b)):=by
 have HA:=Lib.hid (kind_any a)
 have HB:=Lib.hid (kind_any b)
 obtain ⟨ka1,_,_,ka4⟩:=kind_inv a
 obtain ⟨_,kb2,kb3,_⟩:=kind_inv b
 have HC:Hid ((kindZ a=1 ∧ kindZ b=2 ∧ (4352 ≤ a ∧ a ≤ 4370) ∧ 4449 ≤ b ∧ b ≤ 4469 ∧ hcomp a b=some (44032 + ((a - 4352) * 21 + b - 4449) * 28)) ∨ (kindZ a=1 ∧ kindZ b ≠ 2 ∧ hcomp a b=none) ∨
   (kindZ a=4 ∧ kindZ b=3 ∧ (44032 ≤ a ∧ a ≤ 55203) ∧ 4520 ≤ b ∧ b ≤ 4546 ∧ hcomp a b=some (a + b - 4519)) ∨ (kindZ a=4 ∧ kindZ b ≠ 3 ∧ hcomp a b=none) ∨ (kindZ a ≠ 1 ∧ kindZ a ≠ 4 ∧ hcomp a b=none)):=Lib.hid (by
  by_cases h1:kindZ a=1
  ·have h1':=ka1.1 h1
   by_cases h2:kindZ b=2
   ·have h2':=kb2.1 h2
    refine .inl ⟨h1,h2,h1',h2'.1,h2'.2,?_⟩
    unfold hcomp
    rw [if_pos ⟨h1',h2'⟩]
   ·refine .inr (.inl ⟨h1,h2,?_⟩)
    unfold hcomp
    rw [if_neg (fun h => h2 (kb2.2 h.2)),if_neg (by omega)]
  ·by_cases h4:kindZ a=4
   ·have h4':=ka4.1 h4
    by_cases h3:kindZ b=3
    ·have h3':=kb3.1 h3
     refine .inr (.inr (.inl ⟨h4,h3,⟨h4'.1,h4'.2.1⟩,h3'.1,h3'.2,?_⟩))
     unfold hcomp
     rw [if_neg (by omega),if_pos ⟨h4',h3'⟩]
    ·refine .inr (.inr (.inr (.inl ⟨h4,h3,?_⟩)))
     unfold hcomp
     rw [if_neg (by omega),if_neg (fun h => h3 (kb3.2 h.2))]
   ·refine .inr (.inr (.inr (.inr ⟨h1,h4,?_⟩)))
    unfold hcomp
    rw [if_neg (fun h => h1 (ka1.2 h.1)),if_neg (fun h => h4 (ka4.2 h.1))])
 clear ka1 ka4 kb2 kb3
 generalize hcomp a b=r at *
 generalize kindZ a=ka at *
 generalize kindZ b=kb at *
 unfold RetOpt
 rcases HC.out with ⟨h1,h2,⟨g1,g2⟩,g3,g4,hr⟩ | ⟨h1,h2,hr⟩ | ⟨h1,h2,⟨g1,g2⟩,g3,g4,hr⟩ | ⟨h1,h2,hr⟩ | ⟨h1,h2,hr⟩
 ·subst hr
  have m0:0 ≤ (a - 4352) * 21 ∧ (a - 4352) * 21 ≤ 378:=by omega
  have m1:0 ≤ (a - 4352) * 21 + b - 4449 ∧ (a - 4352) * 21 + b - 4449 ≤ 398:=by omega
  have x1:(ka == 1)=true:=beq_iff_eq.2 h1
  have x2:(kb == 2)=true:=beq_iff_eq.2 h2
  clear h1 h2
  clear HC
  go_enter Tryz.func135,Tryz.ntmps135
  go_wp2_with (first | (go_at_call_of 170 a;refine (HA.out _).mono ?_;rintro e w2 ⟨rfl,rfl⟩) | (go_at_call_of 170 b;refine (HB.out _).mono ?_;rintro e w2 ⟨rfl,rfl⟩))
  go_ret2
  exact ⟨rfl,rfl⟩
 ·subst hr
  have x1:(ka == 1)=true:=beq_iff_eq.2 h1
  have x2:(kb == 2)=false:=beq_eq_false_iff_ne.2 h2
  have x3:(ka == 4)=false:=beq_eq_false_iff_ne.2 (by omega)
  clear h1 h2
  clear HC
  go_enter Tryz.func135,Tryz.ntmps135
  go_wp2_with (first | (go_at_call_of 170 a;refine (HA.out _).mono ?_;rintro e w2 ⟨rfl,rfl⟩) | (go_at_call_of 170 b;refine (HB.out _).mono ?_;rintro e w2 ⟨rfl,rfl⟩))
  go_ret2
  exact ⟨rfl,rfl⟩
 ·subst hr
  have x1:(ka == 1)=false:=beq_eq_false_iff_ne.2 (by omega)
  have x2:(kb == 3)=true:=beq_iff_eq.2 h2
  have x3:(ka == 4)=true:=beq_iff_eq.2 h1
  clear h1 h2
  clear HC
  go_enter Tryz.func135,Tryz.ntmps135
  go_wp2_with (first | (go_at_call_of 170 a;refine (HA.out _).mono ?_;rintro e w2 ⟨rfl,rfl⟩) | (go_at_call_of 170 b;refine (HB.out _).mono ?_;rintro e w2 ⟨rfl,rfl⟩))
  go_ret2
  exact ⟨rfl,rfl⟩
 ·subst hr
  have x1:(ka == 1)=false:=beq_eq_false_iff_ne.2 (by omega)
  have x2:(kb == 3)=false:=beq_eq_false_iff_ne.2 h2
  have x3:(ka == 4)=true:=beq_iff_eq.2 h1
  clear h1 h2
  clear HC
  go_enter Tryz.func135,Tryz.ntmps135
  go_wp2_with (first | (go_at_call_of 170 a;refine (HA.out _).mono ?_;rintro e w2 ⟨rfl,rfl⟩) | (go_at_call_of 170 b;refine (HB.out _).mono ?_;rintro e w2 ⟨rfl,rfl⟩))
  go_ret2
  exact ⟨rfl,rfl⟩
 ·subst hr
  have x1:(ka == 1)=false:=beq_eq_false_iff_ne.2 h1
  have x3:(ka == 4)=false:=beq_eq_false_iff_ne.2 h2
  clear h1 h2
  clear HC
  go_enter Tryz.func135,Tryz.ntmps135
  go_wp2_with (first | (go_at_call_of 170 a;refine (HA.out _).mono ?_;rintro e w2 ⟨rfl,rfl⟩) | (go_at_call_of 170 b;refine (HB.out _).mono ?_;rintro e w2 ⟨rfl,rfl⟩))
  go_ret2
  exact ⟨rfl,rfl⟩
end Go.Proofs.YtjafpikjpipbkaaGreatDoor
