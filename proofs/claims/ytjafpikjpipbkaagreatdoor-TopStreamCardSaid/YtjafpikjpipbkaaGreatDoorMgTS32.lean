/-
  Merged texts: lemmas and walks that the last text of this claim leans on.
-/
import Derived.Test.YtjafpikjpipbkaaGreatDoorMgTS31
import Derived.Test.YtjafpikjpipbkaaGreatDoorMgTS28
import Derived.Test.YtjafpikjpipbkaaGreatDoorMgTS30
import Derived.Test.YtjafpikjpipbkaaGreatDoorMgTS23
import Derived.Test.YtjafpikjpipbkaaGreatDoorMgTS18
import Derived.Test.YtjafpikjpipbkaaGreatDoorMgTS25
import Derived.Test.YtjafpikjpipbkaaGreatDoorMgTS15
import Derived.Test.YtjafpikjpipbkaaGreatDoorMgTS20
import Derived.Test.YtjafpikjpipbkaaGreatDoorMgTS26
import Derived.Test.YtjafpikjpipbkaaGreatDoorMgTS27
set_option maxRecDepth 100000
set_option maxHeartbeats 40000000
namespace Go.Proofs.YtjafpikjpipbkaaGreatDoor
open Go.RowKit ND
def AwakeH:Prop:=∀ V,Glob V → Calls Tryz.prog 7 #[] V fun e w' => e=.returned (.bool true) ∧ Below V.heap.size V w'
theorem TopStream_go (HAW:AwakeH) (W:World) (hg:Glob W) (v:Value) (xs:List Int) (hv:Ints W W.heap.size .i64 v xs) (u:Value) (ms:List Int) (hu:Ints W W.heap.size .i64 u ms) :
  Calls Tryz.prog 3 #[v,u] W fun e W' => e=.returned (.bool true) ∧ Below W.heap.size W W':=by
 have HG:=Lib.hid hg
 have HV:=Lib.hid hv
 have HA:=Lib.hid (fun V (hb:Below W.heap.size W V) => HAW V (hg.later hb))
 obtain ⟨Ax,cx,rfl,_⟩:=id hv
 obtain ⟨Am,cm,rfl,_⟩:=id hu
 have HT:=Lib.hid (keepTables_any W _ ms hu)
 clear hv hg hu HAW
 go_enter Tryz.func3,Tryz.ntmps3
 go_upto_region 2 with (go_at_call 4;refine HT.out.mono ?_;rintro e w1 ⟨t,T,rfl,ht1,hm1,hb1⟩;obtain ⟨A0,A1,A2,A3,A4,A5,A6,A7,A8,A9,A10,A11,k0,k1,k2,k3,k4,k5,k6,k7,k8,k9,k10,k11,rfl⟩:=ht1.shape;have HT1:=Lib.hid ht1;have HM1:=Lib.hid hm1;have HB1:=Lib.hid hb1;clear ht1 hm1 hb1)
 obtain ⟨t,ht,htb⟩:=Tbl.new HT1.out
 have HT2:=Lib.hid htb
 have HB2:=Lib.hid (HB1.out.alloc HB1.out.size (.cells #[.slice A0 T.category.length k0,.slice A1 T.cls.length k1,.slice A2 T.joining.length k2,.slice A3 T.bidi.length k3,.slice A4 T.script.length k4,.slice A5 T.status.length k5,.slice A6 T.ignorable.length k6,.slice A7 T.extensions.length k7,.slice A8 T.maps.length k8,.slice A9 T.decomps.length k9,.slice A10 T.excluded.length k10,.slice A11 T.prototypes.length k11] 26))
 clear htb HT1 HT
 generalize w1.alloc (.cells #[.slice A0 T.category.length k0,.slice A1 T.cls.length k1,.slice A2 T.joining.length k2,.slice A3 T.bidi.length k3,.slice A4 T.script.length k4,.slice A5 T.status.length k5,.slice A6 T.ignorable.length k6,.slice A7 T.extensions.length k7,.slice A8 T.maps.length k8,.slice A9 T.decomps.length k9,.slice A10 T.excluded.length k10,.slice A11 T.prototypes.length k11] 26)=w2 at *
 generalize w1.heap.size=tb at *
 clear ht HB1
 have HCK:=Lib.hid HM1.out.check
 have HRW:=Lib.hid (raw_any _ xs w2 (HV.out.later HB2.out))
 clear HV
 go_upto_region 3 with (go_at_call 5;refine HRW.out.mono ?_;rintro e w3 ⟨s,rfl,b3⟩;have HB3:=Lib.hid (below_next HB2.out b3);have HT3:=Lib.hid (HT2.out.later b3);clear b3)
 clear HRW HT2 HB2
 have HPR:=Lib.hid (process_any t T s w3 HT3.out.2 (HG.out.later HB3.out))
 obtain ⟨x0,x1,x2,x3,x4,x5,x6,x7,x8,x9,x10,x11⟩:=HT3.out.1.tab
 go_upto_region 4 with (go_at_call 6;refine HPR.out.mono ?_;rintro e w4 ⟨lv,a,k,rfl,b4,hok,_⟩;have HB4:=Lib.hid (below_next HB3.out b4);have HT4:=Lib.hid (HT3.out.later b4);have HOK:=Lib.hid hok;clear b4 hok)
 clear x0 x1 x2 x3 x4 x5 x6 x7 x8 x9 x10 x11 HPR HT3 HB3
 have HA4:=Lib.hid (HA.out w4 HB4.out)
 by_cases hk:k=0
 case neg =>
  have z1:(k == 0)=false:=beq_eq_false_iff_ne.2 hk
  go_wp2_with (go_at_call 7;refine HA4.out.mono ?_;rintro e w5 ⟨rfl,b5⟩)
  go_ret
  exact ⟨rfl,below_next HB4.out b5⟩
 case pos =>
 subst hk
 obtain ⟨p,q,n,ls,hokp,hls,hsp⟩:=HOK.out rfl
 obtain ⟨hchk,_,⟨a1,hdec⟩,⟨a2,hmap⟩,hnfc⟩:=hokp
 have HLS:=Lib.hid hls
 have HSP:=Lib.hid hsp
 have HNF:=Lib.hid hnfc
 have HMP:=Lib.hid hmap
 have HDC:=Lib.hid (dec_any s w4)
 rw [hdec] at HDC
 have hql:=(topMap HM1.out hmap).2.2
 have hnl:=nfcR_len hnfc
 have HQS:=Lib.hid (topMap HM1.out hmap).1
 have HQL:=Lib.hid (topMap HM1.out hmap).2.1
 clear hls hsp HOK hdec hchk HA4
 go_upto_region 6 with fail
 go_upto_region 7 with (go_at_call 8;refine HDC.out.mono ?_;rintro e w5 ⟨pv,rfl,hip,b5⟩;obtain ⟨Ap,cp,rfl,_⟩:=id hip;have HB5:=Lib.hid (below_next HB4.out b5);have HT5:=Lib.hid (HT4.out.later b5);have HLS5:=Lib.hid (HLS.out.later b5);have HIP:=Lib.hid hip;clear b5 hip)
 clear HDC HT4 HB4 HLS
 clear hmap hnfc
 have HM7:=Lib.hid (map_any t T (.slice Ap p.length cp) p w5 HT5.out.2 (HG.out.later HB5.out) HIP.out)
 rw [HMP.out] at HM7
 obtain ⟨x0,x1,x2,x3,x4,x5,x6,x7,x8,x9,x10,x11⟩:=HT5.out.1.tab
 go_upto_region 8 with (go_at_call 9;refine HM7.out.mono ?_;rintro e w6 ⟨qv,rfl,hiq,b6⟩;obtain ⟨Aq,cq,rfl⟩:=ownsRow_shape hiq;have HB6:=Lib.hid (below_next HB5.out b6);have HT6:=Lib.hid (HT5.out.later b6);have HLS6:=Lib.hid (HLS5.out.later b6);have HIQ:=Lib.hid (Ints.of_own hiq);clear b6 hiq)
 clear x0 x1 x2 x3 x4 x5 x6 x7 x8 x9 x10 x11 HM7 HT5 HB5 HLS5 HIP
 have HM8:=Lib.hid (nfc8_any t T (.slice Aq q.length cq) q w6 HT6.out.2 (HG.out.later HB6.out) HIQ.out)
 rw [HNF.out] at HM8
 obtain ⟨x0,x1,x2,x3,x4,x5,x6,x7,x8,x9,x10,x11⟩:=HT6.out.1.tab
 go_upto_region 9 with (go_at_call 10;refine HM8.out.mono ?_;rintro e w7 ⟨nv,rfl,hin,b7⟩;obtain ⟨An,cn,rfl⟩:=ownsRow_shape hin;have HB7:=Lib.hid (below_next HB6.out b7);have HT7:=Lib.hid (HT6.out.later b7);have HLS7:=Lib.hid (HLS6.out.later b7);have HIQ7:=Lib.hid (HIQ.out.later b7);have HIN7:=Lib.hid (Ints.of_own hin);clear b7 hin)
 clear x0 x1 x2 x3 x4 x5 x6 x7 x8 x9 x10 x11 HM8 HT6 HB6 HLS6 HIQ
 have HM9:=Lib.hid (strNew_any t T w7 HT7.out.2 (HG.out.later HB7.out) HCK.out)
 obtain ⟨x0,x1,x2,x3,x4,x5,x6,x7,x8,x9,x10,x11⟩:=HT7.out.1.tab
 go_upto_region 10 with (go_at_call 11;refine HM9.out.mono ?_;rintro e w8 ⟨gb,t',rfl,hgb,hst,b8⟩;have HT8:=Lib.hid (TopS.start (B:=w7.heap.size) (w8:=w7) hst b8);clear b8 hst)
 clear x0 x1 x2 x3 x4 x5 x6 x7 x8 x9 x10 x11 HM9 HT7
 have HPU:=Lib.hid (fun (W:World) (hv:Value) (ys:List Int) (c:Int) (h:StrR W gb t' T hv ys) (hb:Below w7.heap.size w7 W) (hsc:scalarB c=true) (hyl:ys.length ≤ 5000) => push_any t' T gb hv ys c W h (HG.out.later (below_next HB7.out hb)) HCK.out hsc hyl)
 have HEN:=Lib.hid (fun (W:World) (hv:Value) (ys:List Int) (h:StrR W gb t' T hv ys) (hb:Below w7.heap.size w7 W) => end_any t' T gb hv ys W h (HG.out.later (below_next HB7.out hb)))
 have HAK:=Lib.hid (fun (W:World) (hb:Below w7.heap.size w7 W) => HA.out W (below_next HB7.out hb))
 obtain ⟨i1,hi1,hi10,hi11,hi12⟩:=info_parts Tryz.infoInt
 go_wp2_with fail
 go_loopw [20,86] (fun o ii wr => ∃ (k:Nat) (acc ys:List Int) (hv:Value),k ≤ q.length ∧ ii=.int .i64 k ∧ ys.length ≤ 32 ∧ Hid (TopS w7.heap.size w7 gb t' T o acc hv ys wr) ∧ Hid (StrInv T (q.take k) acc ys) ∧ Hid (ys.all scalarB=true)) (fun _ ii _ => q.length - (intOf ii).toNat)
 case atStart => exact ⟨0,[],[],_,by omega,rfl,Nat.zero_le _,HT8,Lib.hid (StrInv.start T),Lib.hid rfl⟩
 case round =>
  obtain ⟨k,acc,ys,hv,hk,rfl,hyl,HS,HI,HY⟩:=hrel
  by_cases hlt:k < q.length
  ·obtain ⟨x,hxk,hxm⟩:=get_of hlt
   have hsx:scalarB x=true:=List.all_eq_true.1 HQS.out x hxm
   obtain ⟨_,_,hqe,_,_,_,hqc⟩:=HIQ7.out
   cases hqe
   obtain ⟨ad,rfl,hadb,had⟩:=hqc k x hxk
   have hce:=(HS.out.bel.cell (p:=ad.add k) (by rw [block_of_add];exact hadb)).trans had
   have HIN:=Lib.hid (HI.out)
   have HXK:=Lib.hid hxk
   have hal:=top_len HCK.out HI.out (by simp;omega)
   have HP:=Lib.hid (HPU.out wr hv ys x HS.out.str HS.out.bel hsx (by omega))
   have HYC:Hid ((ys ++ [x]).all scalarB=true):=Lib.hid (by rw [List.all_append,HY.out];simp [hsx])
   have HSX:=Lib.hid hsx
   obtain ⟨Ao,mo,rfl⟩:=ownsRow_shape HS.out.row
   clear hqc had hadb hxk hxm hsx
   cases hbt:bndR T x
   case true =>
    have HBT:=Lib.hid hbt
    have HNZ:=Lib.hid (topNfc (ys:=ys) HCK.out HY.out (by omega))
    have hnyl:(nfcP T ys).length ≤ 1000:=by
     have h1:=nfcP_len (T:=T) ys
     have h2:=(flatD_len (decOk_of HCK.out) ys).2
     omega
    clear hbt
    go_upto_region 17 with (go_at_call 12;refine HP.out.mono ?_;rintro e w9 h9;obtain ⟨v9,hv9,rfl,hr9,hs9,hn9,ho9⟩:=push_yes HBT.out h9;have HR9:Hid (Ints w9 w9.heap.size .i64 v9 (nfcP T ys)):=Lib.hid (by rw [HNZ.out] at hr9;exact Ints.of_own hr9);have HS9:=Lib.hid (HS.out.flush hgb hs9 hn9 ho9);obtain ⟨A9,c9,rfl,_⟩:=id HR9.out;clear h9 hr9 hs9 hn9 ho9)
    clear HS HP
    have HI9:Hid (StrInv T (q.take (k + 1)) (acc ++ nfcP T ys) [x]):=Lib.hid (by rw [ND.take_snoc_get HXK.out];exact HI.out.flush HCK.out (by rw [← bndR_scal HSX.out HCK.out];exact HBT.out))
    go_wp2_with (at_builtin;refine wpList_append_gr (by rfl) (.tmp 103) (.tmp 104) rfl Tryz.underlying22 hi1 hi10 hi11 hi12 w9.heap.size (gb + 1) (.slice Ao acc.length mo) acc (.slice A9 (nfcP T ys).length c9) (nfcP T ys) rfl HS9.out.row rfl HR9.out (by omega) (by have:=HS9.out.str.blk.lt;omega) ?_;rintro o8 w10 ho8 hg8;have HS10:=Lib.hid (HS9.out.append hgb ho8 hg8);obtain ⟨A8,c8,rfl⟩:=ownsRow_shape ho8;clear ho8 hg8)
    go_roundw
    case rel =>
     rw [List.length_append] at HS10
     exact ⟨k + 1,_,[x],_,by omega,by go_num,by simp,HS10,HI9,Lib.hid (by simp [HSX.out])⟩
    case measure => simp [intOf];omega
   case false =>
    have HBT:=Lib.hid hbt
    clear hbt
    by_cases hfl:32 ≤ ys.length
    ·go_upto_region 17 with (go_at_call 12;refine HP.out.mono ?_;rintro e w9 h9;obtain ⟨rfl,hs9,ho9⟩:=push_full HBT.out hfl h9;have HB9:Hid (Below w7.heap.size w7 w9):=Lib.hid (HS.out.bel.trans (ho9.below (fun x hx => by rw [List.mem_singleton] at hx;omega) HS.out.bel.size));clear h9 hs9 ho9)
     have HA9:=Lib.hid (HAK.out w9 HB9.out)
     go_wp2_with (go_at_call 7;refine HA9.out.mono ?_;rintro e w10 ⟨rfl,b10⟩)
     go_ret
     exact ⟨rfl,below_next (below_next HB7.out HB9.out) b10⟩
    ·have hfl2:ys.length < 32:=by omega
     go_upto_region 17 with (go_at_call 12;refine HP.out.mono ?_;rintro e w9 h9;obtain ⟨hv9,rfl,hs9,hn9,ho9⟩:=push_more HBT.out hfl2 h9;have HS9:=Lib.hid (HS.out.hold hgb hs9 hn9 ho9);clear h9 hs9 hn9 ho9)
     clear HS HP
     have HI9:Hid (StrInv T (q.take (k + 1)) (acc ++ []) (ys ++ [x])):=Lib.hid (by rw [ND.take_snoc_get HXK.out,List.append_nil];exact HI.out.hold)
     go_wp2_with (at_builtin;refine wpList_append_gr (by rfl) (.tmp 103) (.tmp 104) rfl Tryz.underlying22 hi1 hi10 hi11 hi12 w9.heap.size (gb + 1) (.slice Ao acc.length mo) acc (.slice none 0 0) [] rfl HS9.out.row rfl Ints.none_ (by simp;omega) (by have:=HS9.out.str.blk.lt;omega) ?_;rintro o8 w10 ho8 hg8;have HS10:=Lib.hid (HS9.out.append hgb ho8 hg8);obtain ⟨A8,c8,rfl⟩:=ownsRow_shape ho8;clear ho8 hg8)
     go_roundw
     case rel =>
      rw [show (acc ++ ([]:List Int)).length=acc.length by simp] at HS10
      exact ⟨k + 1,_,ys ++ [x],_,by omega,by go_num,by simp;omega,HS10,HI9,HYC⟩
     case measure => simp [intOf];omega
  ·have hkq:k=q.length:=by omega
   have hal:=top_len HCK.out HI.out (by simp;omega)
   have HNZ:=Lib.hid (topNfc (ys:=ys) HCK.out HY.out (by omega))
   have hnyl:(nfcP T ys).length ≤ 1000:=by
    have h1:=nfcP_len (T:=T) ys
    have h2:=(flatD_len (decOk_of HCK.out) ys).2
    omega
   have HNE:Hid (acc ++ nfcP T ys=n):=Lib.hid (by
    have h1:=HI.out.done
    rw [hkq,List.take_length] at h1
    have h2:=HNF.out
    unfold nfcR at h2
    split at h2
    ·injection h2 with h3 _
     rw [← h1];exact h3
    ·rename_i hne
     injection h2 with h3 h4
     exact absurd h4 hne)
   have HP:=Lib.hid (HEN.out wr hv ys HS.out.str HS.out.bel)
   obtain ⟨Ao,mo,rfl⟩:=ownsRow_shape HS.out.row
   clear hkq
   have kk:decide ((k:Int) < (q.length:Int))=false:=decide_eq_false (by omega)
   go_wp2_with (first | (go_at_call 13;refine HP.out.mono ?_;rintro e w9 ⟨v9,rfl,hr9,hs9,ho9⟩;have HR9:Hid (Ints w9 w9.heap.size .i64 v9 (nfcP T ys)):=Lib.hid (by rw [HNZ.out] at hr9;exact Ints.of_own hr9);have HS9:=Lib.hid (HS.out.flush hgb hs9 (fun b hb => by cases hb) ho9);obtain ⟨A9,c9,rfl,_⟩:=id HR9.out;clear hr9 hs9 ho9) | (at_builtin;refine wpList_append_gr (by rfl) (.tmp 107) (.tmp 109) rfl Tryz.underlying22 hi1 hi10 hi11 hi12 w9.heap.size (gb + 1) (.slice Ao acc.length mo) acc (.slice A9 (nfcP T ys).length c9) (nfcP T ys) rfl HS9.out.row rfl HR9.out (by omega) (by have:=HS9.out.str.blk.lt;omega) ?_;rintro o8 w10 ho8 hg8;have HS10:=Lib.hid (HS9.out.append hgb ho8 hg8);obtain ⟨A8,c8,rfl⟩:=ownsRow_shape ho8;clear ho8 hg8))
   have hnl2:acc.length + (nfcP T ys).length=n.length:=by rw [← HNE.out,List.length_append]
   have HIO:Hid (Ints w10 w10.heap.size .i64 (.slice A8 n.length c8) n):=Lib.hid (by
    have h1:=Ints.of_own HS10.out.row
    rw [HNE.out] at h1
    exact h1)
   have HB10:=Lib.hid HS10.out.bel
   have HIN10:=Lib.hid (HIN7.out.later HB10.out)
   have HLS10:=Lib.hid (HLS7.out.later HB10.out)
   rw [hnl2]
   have HSA:=Lib.hid (same_any _ _ n n w10 HIO.out HIN10.out)
   rw [decide_eq_true rfl] at HSA
   clear HS10 HR9 HS9 HS HP hnl2 HNE HI HY hal HIN7 HLS7 HT8 HPU HEN HIN10
   refine HSA.out.mono ?_
   rintro e w11 ⟨rfl,b11⟩
   have HIO11:=Lib.hid (HIO.out.later b11)
   have HLS11:=Lib.hid (HLS10.out.later b11)
   have HB11:=Lib.hid (below_next HB10.out b11)
   have HLA:=Lib.hid (labels_any _ n w11 HIO11.out (by omega))
   clear HIO HLS10 HB10 b11 HSA
   go_wp2_with (go_at_call 15;refine HLA.out.mono ?_;rintro e w12 ⟨pv,rfl,hlr,b12⟩;have HLR:=Lib.hid hlr;have HIO12:=Lib.hid (HIO11.out.later b12);have HLS12:=Lib.hid (HLS11.out.later b12);have HB12:=Lib.hid (below_next HB11.out b12);obtain ⟨Apv,cpv,rfl⟩:=hlr.shape;clear hlr b12)
   clear HIO11 HLS11 HB11 HLA
   have HLI:=Lib.hid HLR.out.lists
   have hsl:(splitL n).length ≤ 5000:=by have h1:(splitL n).length ≤ 1 + n.length:=split_len n [[]];omega
   clear HLR
   go_loopw [119] (fun ii wr => ∃ (k2:Nat),k2 ≤ (splitL n).length ∧ ii=.int .i64 k2 ∧ w12=wr ∧ Hid (∀ y ∈ (splitL n).take k2,xnB y=false)) (fun ii _ => (splitL n).length - (intOf ii).toNat)
   case atStart => exact ⟨0,by omega,rfl,rfl,Lib.hid (by simp)⟩
   case round =>
    obtain ⟨k2,hk2,rfl,rfl,HX⟩:=hrel
    by_cases hl2:k2 < (splitL n).length
    ·obtain ⟨y,hy⟩:∃ y,(splitL n)[k2]?=some y:=⟨_,List.getElem?_eq_getElem hl2⟩
     obtain ⟨_,_,adp,Ay,cy,hpe,rfl,hadb,hpc,hiy⟩:=HLI.out.at_ hy
     have HYK:=Lib.hid hy
     have HIY:=Lib.hid hiy
     cases hpe
     have k20:(0:Int) ≤ (k2:Int):=by omega
     have k21:(k2:Int) < ((splitL n).length:Int):=by omega
     clear hy hiy hadb
     by_cases h4:4 ≤ y.length
     ·obtain ⟨a0,b0,c0,d0,r0,rfl⟩:∃ a b c d r,y=a :: b :: c :: d :: r:=by
       match y,h4 with
       | a :: b :: c :: d :: r,_ => exact ⟨a,b,c,d,r,rfl⟩
      obtain ⟨_,_,hye,_,_,_,hyc⟩:=HIY.out
      cases hye
      obtain ⟨ady,rfl,_,y0⟩:=hyc 0 a0 rfl
      obtain ⟨_,he1,_,y1⟩:=hyc 1 b0 rfl
      obtain ⟨_,he2,_,y2⟩:=hyc 2 c0 rfl
      obtain ⟨_,he3,_,y3⟩:=hyc 3 d0 rfl
      cases he1;cases he2;cases he3
      have y0:=cell_zero y0
      have y1:=cell_pos (by decide) y1
      have y2:=cell_pos (by decide) y2
      have y3:=cell_pos (by decide) y3
      obtain ⟨m,hm⟩:∃ m,m=(a0 :: b0 :: c0 :: d0 :: r0).length:=⟨_,rfl⟩
      rw [← hm] at hpc h4
      have q4:(4:Int) ≤ (m:Int):=by omega
      clear hm hyc
      by_cases h0:a0=120
      case neg =>
       have e0:(a0 == 120)=false:=beq_eq_false_iff_ne.2 h0
       go_wp2_with fail
       go_roundw
       case rel => exact ⟨k2 + 1,by omega,by go_num,trivial,Lib.hid (all_take_next HX.out HYK.out (xnB_no (by first | exact .inl h0 | exact .inr (.inl h1) | exact .inr (.inr (.inl h2)) | exact .inr (.inr (.inr h3)))))⟩
       case measure => simp [intOf];omega
      case pos =>
      subst h0
      by_cases h1:b0=110
      case neg =>
       have e1:(b0 == 110)=false:=beq_eq_false_iff_ne.2 h1
       go_wp2_with fail
       go_roundw
       case rel => exact ⟨k2 + 1,by omega,by go_num,trivial,Lib.hid (all_take_next HX.out HYK.out (xnB_no (by first | exact .inl h0 | exact .inr (.inl h1) | exact .inr (.inr (.inl h2)) | exact .inr (.inr (.inr h3)))))⟩
       case measure => simp [intOf];omega
      case pos =>
      subst h1
      by_cases h2:c0=45
      case neg =>
       have e2:(c0 == 45)=false:=beq_eq_false_iff_ne.2 h2
       go_wp2_with fail
       go_roundw
       case rel => exact ⟨k2 + 1,by omega,by go_num,trivial,Lib.hid (all_take_next HX.out HYK.out (xnB_no (by first | exact .inl h0 | exact .inr (.inl h1) | exact .inr (.inr (.inl h2)) | exact .inr (.inr (.inr h3)))))⟩
       case measure => simp [intOf];omega
      case pos =>
      subst h2
      by_cases h3:d0=45
      case neg =>
       have e3:(d0 == 45)=false:=beq_eq_false_iff_ne.2 h3
       go_wp2_with fail
       go_roundw
       case rel => exact ⟨k2 + 1,by omega,by go_num,trivial,Lib.hid (all_take_next HX.out HYK.out (xnB_no (by first | exact .inl h0 | exact .inr (.inl h1) | exact .inr (.inr (.inl h2)) | exact .inr (.inr (.inr h3)))))⟩
       case measure => simp [intOf];omega
      case pos =>
      subst h3
      have HA9:=Lib.hid (HAK.out w12 HB12.out)
      go_wp2_with (go_at_call 7;refine HA9.out.mono ?_;rintro e w13 ⟨rfl,b13⟩)
      go_ret
      exact ⟨rfl,below_next (below_next HB7.out HB12.out) b13⟩
     ·obtain ⟨m,hm⟩:∃ m,m=y.length:=⟨_,rfl⟩
      rw [← hm] at hpc h4
      have q4:decide ((4:Int) ≤ (m:Int))=false:=decide_eq_false (by omega)
      go_wp2_with fail
      go_roundw
      case rel => exact ⟨k2 + 1,by omega,by go_num,trivial,Lib.hid (all_take_next HX.out HYK.out (beq_eq_false_iff_ne.2 (fun e => by have:=congrArg List.length e;simp at this;omega)))⟩
      case measure => simp [intOf];omega
    ·have hk2e:k2=(splitL n).length:=by omega
     have HXA:Hid (∀ y ∈ splitL n,xnB y=false):=Lib.hid (by have:=HX.out;rw [hk2e,List.take_length] at this;exact this)
     have hlse:ls=splitL n:=HSP.out fun y hy => by
      cases hb:labI y
      ·rfl
      ·have hlow:=splitL_all (low_nfc HM1.out HQL.out)
       have hn1:nfcP T q=n:=by
        have h2:=HNF.out
        unfold nfcR at h2
        split at h2
        ·injection h2
        ·rename_i hne
         injection h2 with h3 h4
         exact absurd h4 hne
       rw [hn1] at hlow
       have:=lab_xn (hlow y hy) hb
       rw [HXA.out y hy] at this
       cases this
     clear hk2e
     have kk2:decide ((k2:Int) < ((splitL n).length:Int))=false:=decide_eq_false (by omega)
     have HA9:=Lib.hid (HAK.out w12 HB12.out)
     have HJ:=Lib.hid (fun V (hb:Below w12.heap.size w12 V) => join_any lv ls V (HLS12.out.later hb) (by rw [hlse,join_split];omega))
     have hje:joinL ls=n:=by rw [hlse,join_split]
     rw [hje] at HJ
     clear hje hlse
     go_wp2_with (first | (go_at_call 7;refine HA9.out.mono ?_;rintro e w13 ⟨rfl,b13⟩;have HB13:=Lib.hid b13;clear b13) | (go_at_call 16;refine (HJ.out w13 HB13.out).mono ?_;rintro e w14 ⟨jv,rfl,hj,b14⟩;have HJI:=Lib.hid (Ints.of_own hj);have HB14:=Lib.hid (below_next HB13.out b14);have HSJ:=Lib.hid (same_any _ _ n n w14 HJI.out (HIO12.out.later HB14.out));clear hj b14) | (go_at_call 14;refine HSJ.out.mono ?_;rintro e w15 ⟨rfl,b15⟩;have HB15:=Lib.hid (below_next HB14.out b15);clear b15))
     go_ret
     exact ⟨by simp,below_next (below_next HB7.out HB12.out) HB15.out⟩
end Go.Proofs.YtjafpikjpipbkaaGreatDoor
namespace Go.Proofs.YtjafpikjpipbkaaGreatDoor
open Go.RowKit ND
def homeK (key:ByteArray) (n:Nat):Nat:=sumL key.data.toList % n
theorem homeK_lt (key:ByteArray) {n:Nat} (h:0 < n):homeK key n < n:=Nat.mod_lt _ h
theorem home_any (key:ByteArray) (n:Nat) (w:World) (h0:0 < n) (h1:n ≤ 4096) (hk:key.size ≤ 1000000) :
  Calls Tryz.prog 213 #[.string key,.int .i64 n] w fun e w' => e=.returned (.int .i64 (homeK key n:Nat)) ∧ Below w.heap.size w w':=by
 have HS:=Lib.hid (sum_any key w (by unfold maxLen;omega))
 obtain ⟨q,hq⟩:∃ q,q=sumL key.data.toList:=⟨_,rfl⟩
 have hq2:q < 4294967296:=by rw [hq];exact sumL_lt _
 have hh:homeK key n=q % n:=by unfold homeK;rw [hq]
 rw [← hq] at HS
 have z1:decide ((n:Int) < 1)=false:=decide_eq_false (by omega)
 have z2:((n:Int) == 0)=false:=beq_eq_false_iff_ne.2 (by omega)
 rw [hh]
 clear hq hh
 go_enter Tryz.func213,Tryz.ntmps213
 go_wp2_with (go_at_call 230;refine HS.out.mono ?_;rintro e w1 ⟨rfl,b1⟩)
 go_ret
 exact ⟨by simp,b1⟩
def Slots (w:World) (b n:Nat) (o:Option (Nat × ByteArray)):Prop :=
 ∃ cs:Array Value,Blk w b 226 cs ∧ cs.size=n * 2 ∧ ∀ i,i < n → ∃ u s,cs[i * 2]?=some (.bool u) ∧ cs[i * 2 + 1]?=some (.string s) ∧ (∀ h k,o=some (h,k) → i=h → u=true ∧ s=k) ∧ ((∀ h k,o=some (h,k) → i ≠ h) → u=false)
theorem Slots.lt {w:World} {b n:Nat} {o:Option (Nat × ByteArray)} (h:Slots w b n o):b < w.heap.size:=by obtain ⟨cs,hb,_⟩:=h;exact hb.lt
theorem Slots.later {w w':World} {b n:Nat} {o:Option (Nat × ByteArray)} (h:Slots w b n o) (hb:Below w.heap.size w w'):Slots w' b n o:=by
 obtain ⟨cs,h1,h2⟩:=h;exact ⟨cs,h1.later hb,h2⟩
theorem Slots.only {S:List Nat} {w w':World} {b n:Nat} {o:Option (Nat × ByteArray)} (h:Slots w b n o) (hb:onlyIn S w w') (hS:b ∉ S):Slots w' b n o:=by
 obtain ⟨cs,h1,h2⟩:=h;exact ⟨cs,hb.blk h1 hS,h2⟩
theorem Slots.no {w:World} {b n i:Nat} {o:Option (Nat × ByteArray)} (h:Slots w b n o) (hi:i < n) (ho:∀ h k,o=some (h,k) → i ≠ h):w.cell? ⟨b,i * 2,none⟩=some (.bool false):=by
 obtain ⟨cs,h1,h2,h3⟩:=h
 obtain ⟨u,s,hu,hs,_,h5⟩:=h3 i hi
 rw [h5 ho] at hu
 exact h1.at_ hu
theorem Slots.yes {w:World} {b n i:Nat} {k:ByteArray} (h:Slots w b n (some (i,k))) (hi:i < n):w.cell? ⟨b,i * 2,none⟩=some (.bool true) ∧ w.cell? ⟨b,i * 2 + 1,none⟩=some (.string k):=by
 obtain ⟨cs,h1,h2,h3⟩:=h
 obtain ⟨u,s,hu,hs,h4,_⟩:=h3 i hi
 obtain ⟨rfl,rfl⟩:=h4 i k rfl rfl
 exact ⟨h1.at_ hu,h1.at_ hs⟩
theorem find_no (key:ByteArray) (b n:Nat) (w:World) (h0:0 < n) (h1:n ≤ 4096) (hk:key.size ≤ 1000000) (hs:Slots w b n none) :
  Calls Tryz.prog 188 #[.slice (some ⟨b,0,none⟩) n n,.string key] w fun e w' => e=.returned (.tuple #[.int .i64 (homeK key n:Nat),.bool false]) ∧ Below w.heap.size w w':=by
 have HH:=Lib.hid (home_any key n w h0 h1 hk)
 have HS:=Lib.hid hs
 have hl:=homeK_lt key h0
 obtain ⟨h,hh⟩:∃ h,h=homeK key n:=⟨_,rfl⟩
 rw [← hh] at HH hl ⊢
 clear hs hh
 go_enter Tryz.func188,Tryz.ntmps188
 go_upto_region 2 with (go_at_call 213;refine HH.out.mono ?_;rintro e w1 ⟨rfl,b1⟩)
 have x0:=(HS.out.later b1).no hl (by intro _ _ h;cases h)
 have hl0:(0:Int) ≤ (h:Int):=by omega
 have hl1:(h:Int) < (n:Int):=by omega
 go_loopw [6] (fun a wr => a=.int .i64 h ∧ w1=wr) (fun _ _ => 0)
 case atStart => exact ⟨rfl,rfl⟩
 case round =>
  obtain ⟨rfl,rfl⟩:=hrel
  go_wp2_with fail
  go_ret2
  exact ⟨rfl,b1⟩
theorem find_yes (key:ByteArray) (b n:Nat) (w:World) (h0:0 < n) (h1:n ≤ 4096) (hk:key.size ≤ 1000000) (hs:Slots w b n (some (homeK key n,key))) :
  Calls Tryz.prog 188 #[.slice (some ⟨b,0,none⟩) n n,.string key] w fun e w' => e=.returned (.tuple #[.int .i64 (homeK key n:Nat),.bool true]) ∧ Below w.heap.size w w':=by
 have HH:=Lib.hid (home_any key n w h0 h1 hk)
 have hl:=homeK_lt key h0
 obtain ⟨h,hh⟩:∃ h,h=homeK key n:=⟨_,rfl⟩
 rw [← hh] at HH hl hs ⊢
 have HS:=Lib.hid hs
 clear hs hh
 go_enter Tryz.func188,Tryz.ntmps188
 go_upto_region 2 with (go_at_call 213;refine HH.out.mono ?_;rintro e w1 ⟨rfl,b1⟩)
 obtain ⟨x0,x1⟩:=(HS.out.later b1).yes hl
 have hl0:(0:Int) ≤ (h:Int):=by omega
 have hl1:(h:Int) < (n:Int):=by omega
 go_loopw [6] (fun a wr => a=.int .i64 h ∧ w1=wr) (fun _ _ => 0)
 case atStart => exact ⟨rfl,rfl⟩
 case round =>
  obtain ⟨rfl,rfl⟩:=hrel
  go_wp2_with fail
  go_ret2
  exact ⟨rfl,b1⟩
end Go.Proofs.YtjafpikjpipbkaaGreatDoor
namespace Go.Proofs.YtjafpikjpipbkaaGreatDoor
open Go.RowKit ND
theorem Slots.set {w:World} {b n i:Nat} {o o':Option (Nat × ByteArray)} (h:Slots w b n o) (hi:i < n) (u:Bool) (s:ByteArray)
  (ho:∀ j h k,o=some (h,k) → j=h → j=i) (h1:∀ h k,o'=some (h,k) → h=i ∧ u=true ∧ k=s) (h2:o'=none → u=false) :
  Slots ((w.setCell ⟨b,i * 2,none⟩ (.bool u)).setCell ⟨b,i * 2 + 1,none⟩ (.string s)) b n o':=by
 obtain ⟨cs,hb,hsz,hc⟩:=h
 refine ⟨_,(hb.put _ _).put _ _,by simp [hsz],fun j hj => ?_⟩
 obtain ⟨uj,sj,a1,a2,a3,a4⟩:=hc j hj
 by_cases hji:j=i
 ·subst hji
  refine ⟨u,s,?_,?_,?_,?_⟩
  ·rw [Array.getElem?_setIfInBounds_ne (by omega),Array.getElem?_setIfInBounds_self_of_lt (by omega)]
  ·rw [Array.getElem?_setIfInBounds_self_of_lt (by simp;omega)]
  ·intro h k e _
   obtain ⟨_,h3,h4⟩:=h1 h k e
   exact ⟨h3,h4.symm⟩
  ·intro hn
   cases o' with
   | none => exact h2 rfl
   | some p => exact absurd (h1 p.1 p.2 rfl).1.symm (hn p.1 p.2 rfl)
 ·refine ⟨uj,sj,?_,?_,?_,?_⟩
  ·rw [Array.getElem?_setIfInBounds_ne (by omega),Array.getElem?_setIfInBounds_ne (by omega)];exact a1
  ·rw [Array.getElem?_setIfInBounds_ne (by omega),Array.getElem?_setIfInBounds_ne (by omega)];exact a2
  ·intro h k e he
   exact absurd (he.trans (h1 h k e).1) hji
  ·intro _
   exact a4 fun h k e he => hji (ho j h k e he)
theorem Slots.put {w:World} {b n i:Nat} (h:Slots w b n none) (hi:i < n) (s:ByteArray):Slots ((w.setCell ⟨b,i * 2,none⟩ (.bool true)).setCell ⟨b,i * 2 + 1,none⟩ (.string s)) b n (some (i,s)) :=
 h.set hi true s (fun _ _ _ e => by cases e) (fun h k e => by cases e;exact ⟨rfl,rfl,rfl⟩) (fun e => by cases e)
theorem Slots.del {w:World} {b n i:Nat} {k:ByteArray} (h:Slots w b n (some (i,k))) (hi:i < n) (s:ByteArray):Slots ((w.setCell ⟨b,i * 2,none⟩ (.bool false)).setCell ⟨b,i * 2 + 1,none⟩ (.string s)) b n none :=
 h.set hi false s (fun _ _ _ e he => by cases e;exact he) (fun h k e => by cases e) (fun _ => rfl)
theorem Slots.far {w:World} {b n:Nat} {o:Option (Nat × ByteArray)} (h:Slots w b n o) {p:Addr} (hp:b ≠ p.block) (u:Value):Slots (w.setCell p u) b n o:=by
 obtain ⟨cs,h1,h2⟩:=h;exact ⟨cs,h1.far hp u,h2⟩
def Ownr (w:World) (b n:Nat):Prop:=∃ cs:Array Value,Blk w b 3 cs ∧ cs.size=n ∧ ∀ i,i < n → cs[i]?=some (.int .i64 0)
theorem Ownr.at_ {w:World} {b n i:Nat} (h:Ownr w b n) (hi:i < n):w.cell? ⟨b,i,none⟩=some (.int .i64 0):=by
 obtain ⟨cs,h1,_,h3⟩:=h;exact h1.at_ (h3 i hi)
theorem Ownr.put {w:World} {b n i:Nat} (h:Ownr w b n) (hi:i < n):Ownr (w.setCell ⟨b,i,none⟩ (.int .i64 0)) b n:=by
 obtain ⟨cs,h1,h2,h3⟩:=h
 refine ⟨_,h1.put _ _,by simp [h2],fun j hj => ?_⟩
 by_cases hji:i=j
 ·subst hji;rw [Array.getElem?_setIfInBounds_self_of_lt (by omega)]
 ·rw [Array.getElem?_setIfInBounds_ne hji];exact h3 j hj
theorem Ownr.far {w:World} {b n:Nat} (h:Ownr w b n) {p:Addr} (hp:b ≠ p.block) (u:Value):Ownr (w.setCell p u) b n:=by
 obtain ⟨cs,h1,h2⟩:=h;exact ⟨cs,h1.far hp u,h2⟩
theorem Ownr.free {w:World} {b n:Nat} (h:Ownr w b n) (i:Nat):w.frozen? ⟨b,i,none⟩=false:=by obtain ⟨cs,h1,_⟩:=h;exact h1.free i
theorem Slots.free {w:World} {b n:Nat} {o:Option (Nat × ByteArray)} (h:Slots w b n o) (i:Nat):w.frozen? ⟨b,i,none⟩=false:=by obtain ⟨cs,h1,_⟩:=h;exact h1.free i
theorem Slots.any {w:World} {b n i:Nat} {o:Option (Nat × ByteArray)} (h:Slots w b n o) (hi:i < n):∃ u s,w.cell? ⟨b,i * 2,none⟩=some (.bool u) ∧ w.cell? ⟨b,i * 2 + 1,none⟩=some (.string s):=by
 obtain ⟨cs,h1,h2,h3⟩:=h
 obtain ⟨u,s,hu,hs,_⟩:=h3 i hi
 exact ⟨u,s,h1.at_ hu,h1.at_ hs⟩
theorem Ownr.later {w w':World} {b n:Nat} (h:Ownr w b n) (hb:Below w.heap.size w w'):Ownr w' b n:=by
 obtain ⟨cs,h1,h2⟩:=h;exact ⟨cs,h1.later hb,h2⟩
theorem Ownr.only {S:List Nat} {w w':World} {b n:Nat} (h:Ownr w b n) (hb:onlyIn S w w') (hS:b ∉ S):Ownr w' b n:=by
 obtain ⟨cs,h1,h2⟩:=h;exact ⟨cs,hb.blk h1 hS,h2⟩
theorem Ownr.lt {w:World} {b n:Nat} (h:Ownr w b n):b < w.heap.size:=by obtain ⟨cs,hb,_⟩:=h;exact hb.lt
def usedN:Option (Nat × ByteArray) → Int
 | none => 0
 | some _ => 1
structure LockS (w:World) (lk sl ow:Nat) (o:Option (Nat × ByteArray)):Prop where
 blk:Blk w lk 197 #[.slice (some ⟨sl,0,none⟩) 2048 2048,.slice (some ⟨ow,0,none⟩) 2048 2048,.int .i64 (usedN o)]
 slots:Slots w sl 2048 o
 own:Ownr w ow 2048
 n1:lk ≠ sl
 n2:lk ≠ ow
 n3:sl ≠ ow
theorem LockS.only {S:List Nat} {w w':World} {lk sl ow:Nat} {o:Option (Nat × ByteArray)} (h:LockS w lk sl ow o) (hb:onlyIn S w w') (h1:lk ∉ S) (h2:sl ∉ S) (h3:ow ∉ S):LockS w' lk sl ow o :=
 ⟨hb.blk h.blk h1,h.slots.only hb h2,h.own.only hb h3,h.n1,h.n2,h.n3⟩
theorem LockS.later {w w':World} {lk sl ow:Nat} {o:Option (Nat × ByteArray)} (h:LockS w lk sl ow o) (hb:Below w.heap.size w w'):LockS w' lk sl ow o :=
 ⟨h.blk.later hb,h.slots.later hb,h.own.later hb,h.n1,h.n2,h.n3⟩
theorem acquire_any (key:ByteArray) (lk sl ow:Nat) (w:World) (hk:key.size ≤ 1000000) (hs:LockS w lk sl ow none) :
  Calls Tryz.prog 155 #[.pointer (some ⟨lk,0,none⟩),.string key,.int .i64 0] w fun e w' => e=.returned (.int .i64 0) ∧ LockS w' lk sl ow (some (homeK key 2048,key)) ∧ onlyIn [lk,sl,ow] w w':=by
 have HF:=Lib.hid (find_no key sl 2048 w (by omega) (by omega) hk hs.slots)
 have hl:=homeK_lt key (n:=2048) (by omega)
 obtain ⟨h,hh⟩:∃ h,h=homeK key 2048:=⟨_,rfl⟩
 rw [← hh] at HF hl ⊢
 have HS:=Lib.hid hs
 have y0:w.cell? ⟨lk,0,none⟩=some (.slice (some ⟨sl,0,none⟩) 2048 2048):=hs.blk.at_ (i:=0) rfl
 have hl0:(0:Int) ≤ (h:Int):=by omega
 have hl1:(h:Int) < 2048:=by omega
 clear hs hh
 go_enter Tryz.func155,Tryz.ntmps155
 go_upto_region 4 with (first | (go_at_call 188;refine HF.out.mono ?_;rintro e w1 ⟨rfl,b1⟩) | go_in)
 have x0:w1.cell? ⟨lk,0,none⟩=some (.slice (some ⟨sl,0,none⟩) 2048 2048):=(HS.out.later b1).blk.at_ (i:=0) rfl
 have x2:w1.cell? ⟨lk,2,none⟩=some (.int .i64 0):=(HS.out.later b1).blk.at_ (i:=2) rfl
 go_wp2_with fail
 go_quiet (fail)
 have b2:=below_drewN b1 nq
 generalize w1.drewN nq=w2 at *
 have HS2:=Lib.hid (HS.out.later b2)
 have HB2:=Lib.hid b2
 clear x0 x2 y0 b1 b2
 have x0:w2.cell? ⟨lk,0,none⟩=some (.slice (some ⟨sl,0,none⟩) 2048 2048):=HS2.out.blk.at_ (i:=0) rfl
 have x1:w2.cell? ⟨lk,1,none⟩=some (.slice (some ⟨ow,0,none⟩) 2048 2048):=HS2.out.blk.at_ (i:=1) rfl
 obtain ⟨u,sh,c0,c1⟩:=HS2.out.slots.any hl
 have f0:=HS2.out.slots.free (h * 2)
 have f1:=HS2.out.slots.free (h * 2 + 1)
 have g0:=HS2.out.own.at_ hl
 have g1:=HS2.out.own.free h
 have n1:=HS2.out.n1
 have n2:=HS2.out.n2
 have n3:=HS2.out.n3
 go_wp2_with fail
 go_region
 have hsl3:Slots (((w2.setCell ⟨sl,h * 2,none⟩ (.bool true)).setCell ⟨sl,h * 2 + 1,none⟩ (.string key)).setCell ⟨ow,h,none⟩ (.int .i64 0)).drew sl 2048 (some (h,key)):=(HS2.out.slots.put hl key).far (p:=⟨ow,h,none⟩) n3 _
 have how3:Ownr (((w2.setCell ⟨sl,h * 2,none⟩ (.bool true)).setCell ⟨sl,h * 2 + 1,none⟩ (.string key)).setCell ⟨ow,h,none⟩ (.int .i64 0)).drew ow 2048:=((HS2.out.own.far (p:=⟨sl,h * 2,none⟩) (Ne.symm n3) _).far (p:=⟨sl,h * 2 + 1,none⟩) (Ne.symm n3) _).put hl
 have hbk3:Blk (((w2.setCell ⟨sl,h * 2,none⟩ (.bool true)).setCell ⟨sl,h * 2 + 1,none⟩ (.string key)).setCell ⟨ow,h,none⟩ (.int .i64 0)).drew lk 197 #[.slice (some ⟨sl,0,none⟩) 2048 2048,.slice (some ⟨ow,0,none⟩) 2048 2048,.int .i64 0]:=((HS2.out.blk.far (p:=⟨sl,h * 2,none⟩) n1 _).far (p:=⟨sl,h * 2 + 1,none⟩) n1 _).far (p:=⟨ow,h,none⟩) n2 _
 have ho3:onlyIn [lk,sl,ow] w (((w2.setCell ⟨sl,h * 2,none⟩ (.bool true)).setCell ⟨sl,h * 2 + 1,none⟩ (.string key)).setCell ⟨ow,h,none⟩ (.int .i64 0)).drew:=onlyIn_set (onlyIn_set (onlyIn_set (onlyIn.of_below HB2.out) (p:=⟨sl,h * 2,none⟩) (by simp) _) (p:=⟨sl,h * 2 + 1,none⟩) (by simp) _) (p:=⟨ow,h,none⟩) (by simp) _
 have HSL:=Lib.hid hsl3
 have HOW:=Lib.hid how3
 have HBK:=Lib.hid hbk3
 have HON:=Lib.hid ho3
 clear x0 x1 c0 c1 f0 f1 g0 g1 hsl3 how3 hbk3 ho3 HS2 HB2
 generalize (((w2.setCell ⟨sl,h * 2,none⟩ (.bool true)).setCell ⟨sl,h * 2 + 1,none⟩ (.string key)).setCell ⟨ow,h,none⟩ (.int .i64 0)).drew=w3 at *
 have x2:w3.cell? ⟨lk,2,none⟩=some (.int .i64 0):=HBK.out.at_ (i:=2) rfl
 have f2:=HBK.out.free 2
 go_wp2_with fail
 go_ret
 exact ⟨rfl,⟨by simpa [usedN] using HBK.out.put 2 (.int .i64 1),HSL.out.far (p:=⟨lk,2,none⟩) (Ne.symm n1) _,HOW.out.far (p:=⟨lk,2,none⟩) (Ne.symm n2) _,n1,n2,n3⟩,onlyIn_set HON.out (p:=⟨lk,2,none⟩) (by simp) _⟩
theorem remove_one (key:ByteArray) (b n h:Nat) (f:Value) (w:World) (h1:2 ≤ n) (h2:n ≤ 4096) (hl:h < n) (hs:Slots w b n (some (h,key))) :
  Calls Tryz.prog 192 #[.slice (some ⟨b,0,none⟩) n n,.int .i64 h,f] w fun e w' => e=.returned (.tuple #[]) ∧ Slots w' b n none ∧ onlyIn [b] w w':=by
 have HS:=Lib.hid hs
 obtain ⟨c0,c1⟩:=hs.yes hl
 have f0:=hs.free (h * 2)
 have f1:=hs.free (h * 2 + 1)
 have hl0:(0:Int) ≤ (h:Int):=by omega
 have hl1:(h:Int) < (n:Int):=by omega
 clear hs
 have hm:(h + 1) % n < n:=Nat.mod_lt _ (by omega)
 have em:((h:Int) + 1) % (n:Int)=(((h + 1) % n:Nat):Int):=by norm_cast
 have hm0:(0:Int) ≤ ((h:Int) + 1) % (n:Int):=by rw [em];exact Int.natCast_nonneg _
 have hm1:((h:Int) + 1) % (n:Int) < (n:Int):=by rw [em];exact Int.ofNat_lt.2 hm
 clear em
 go_enter Tryz.func192,Tryz.ntmps192
 go_wp2_with fail
 have HS2:Hid (Slots ((w.setCell ⟨b,h * 2,none⟩ (.bool false)).setCell ⟨b,h * 2 + 1,none⟩ (.string ⟨#[]⟩)) b n none):=Lib.hid (HS.out.del hl ⟨#[]⟩)
 have HO:Hid (onlyIn [b] w ((w.setCell ⟨b,h * 2,none⟩ (.bool false)).setCell ⟨b,h * 2 + 1,none⟩ (.string ⟨#[]⟩))):=Lib.hid (onlyIn_set (onlyIn_set (onlyIn.refl _ _) (p:=⟨b,h * 2,none⟩) (by simp) _) (p:=⟨b,h * 2 + 1,none⟩) (by simp) _)
 clear c0 c1 f0 f1 HS
 generalize (w.setCell ⟨b,h * 2,none⟩ (.bool false)).setCell ⟨b,h * 2 + 1,none⟩ (.string ⟨#[]⟩)=w2 at *
 have x0:=HS2.out.no hm (by intro _ _ e;cases e)
 refine wp_loop_rounds 1 ?_
 rw [rounds_succ]
 go_wp2_with fail
 go_end0
 exact ⟨rfl,HS2.out,HO.out⟩
theorem release_any (key:ByteArray) (lk sl ow:Nat) (w:World) (hk:key.size ≤ 1000000) (hs:LockS w lk sl ow (some (homeK key 2048,key))) :
  Calls Tryz.prog 161 #[.pointer (some ⟨lk,0,none⟩),.string key,.int .i64 0] w fun e w' => e=.returned (.int .i64 0) ∧ LockS w' lk sl ow none ∧ onlyIn [lk,sl,ow] w w':=by
 have hb0:Below w.heap.size w (w.alloc (.cells #[.pointer (some ⟨lk,0,none⟩)] 167)):=(Below.refl _ _).alloc (Nat.le_refl _) _
 have hk0:Blk (w.alloc (.cells #[.pointer (some ⟨lk,0,none⟩)] 167)) w.heap.size 167 #[.pointer (some ⟨lk,0,none⟩)]:=Blk.new _ _ _
 have HF:=Lib.hid (fun W h => find_yes key sl 2048 W (by omega) (by omega) hk h)
 have HR:=Lib.hid (fun f W h => remove_one key sl 2048 (homeK key 2048) f W (by omega) (by omega) (homeK_lt key (by omega)) h)
 have hl:=homeK_lt key (n:=2048) (by omega)
 obtain ⟨h,hh⟩:∃ h,h=homeK key 2048:=⟨_,rfl⟩
 rw [← hh] at HF HR hl hs
 have HS:=Lib.hid (hs.later hb0)
 have hslt:=hs.slots.lt
 have HK:=Lib.hid hk0
 have HB:=Lib.hid hb0
 have hl0:(0:Int) ≤ (h:Int):=by omega
 have hl1:(h:Int) < 2048:=by omega
 clear hh hs hb0 hk0
 go_enter Tryz.func161,Tryz.ntmps161
 go_upto_region 1 with fail
 generalize w.alloc (.cells #[.pointer (some ⟨lk,0,none⟩)] 167)=w1 at *
 have k0:w1.cell? ⟨w.heap.size,0,none⟩=some (.pointer (some ⟨lk,0,none⟩)):=HK.out.at_ (i:=0) rfl
 have y0:w1.cell? ⟨lk,0,none⟩=some (.slice (some ⟨sl,0,none⟩) 2048 2048):=HS.out.blk.at_ (i:=0) rfl
 go_upto_region 4 with (first | (go_at_call 188;refine (HF.out w1 HS.out.slots).mono ?_;rintro e w2 ⟨rfl,b2⟩) | go_in)
 have HK2:=Lib.hid (HK.out.later b2)
 have HS2:=Lib.hid (HS.out.later b2)
 have HB2:=Lib.hid (below_next HB.out b2)
 clear k0 y0 b2 HK HS HB
 have k0:w2.cell? ⟨w.heap.size,0,none⟩=some (.pointer (some ⟨lk,0,none⟩)):=HK2.out.at_ (i:=0) rfl
 have y0:w2.cell? ⟨lk,0,none⟩=some (.slice (some ⟨sl,0,none⟩) 2048 2048):=HS2.out.blk.at_ (i:=0) rfl
 have y1:w2.cell? ⟨lk,1,none⟩=some (.slice (some ⟨ow,0,none⟩) 2048 2048):=HS2.out.blk.at_ (i:=1) rfl
 have g0:=HS2.out.own.at_ hl
 go_upto_region 9 with (go_at_call 192;refine (HR.out _ w2 HS2.out.slots).mono ?_;rintro e w3 ⟨rfl,hs3,ho3⟩)
 have HS3:=Lib.hid hs3
 have HO3:=Lib.hid ho3
 have n1:=HS2.out.n1
 have n2:=HS2.out.n2
 have n3:=HS2.out.n3
 have HKB:=Lib.hid (ho3.blk HS2.out.blk (by simpa using n1))
 have HKW:=Lib.hid (ho3.blk HK2.out (by simp;omega))
 have HOW:=Lib.hid (HS2.out.own.only ho3 (by simpa using Ne.symm n3))
 have HON:=Lib.hid (((onlyIn.of_below HB2.out).trans (ho3.more (S':=[lk,sl,ow]) (by simp))))
 clear k0 y0 y1 g0 hs3 ho3 HS2 HK2 HB2
 have k0:w3.cell? ⟨w.heap.size,0,none⟩=some (.pointer (some ⟨lk,0,none⟩)):=HKW.out.at_ (i:=0) rfl
 have y2:w3.cell? ⟨lk,2,none⟩=some (.int .i64 1):=HKB.out.at_ (i:=2) rfl
 have f2:=HKB.out.free 2
 go_wp2_with fail
 go_ret
 exact ⟨rfl,⟨by simpa [usedN] using HKB.out.put 2 (.int .i64 0),HS3.out.far (p:=⟨lk,2,none⟩) (Ne.symm n1) _,HOW.out.far (p:=⟨lk,2,none⟩) (Ne.symm n2) _,n1,n2,n3⟩,onlyIn_set HON.out (p:=⟨lk,2,none⟩) (by simp) _⟩
theorem Tryz.infoSlot:(Tryz.prog.info? 226).map (fun i => (i.zero,i.size,i.bytes))=some (some (.agg #[.bool false,.string ⟨#[]⟩]),2,24):=by kernel_rfl
theorem madeCells_at (z:Array Value) (n i:Nat) (hi:i < n):(madeCells z n)[i]?=some z[i % z.size]!:=by
 simp [madeCells,hi]
theorem slots_made (w:World) (b n:Nat) (h:Blk w b 226 (madeCells (Value.agg #[.bool false,.string ⟨#[]⟩]).cells (n * 2))):Slots w b n none:=by
 refine ⟨_,h,size_madeCells _ _,fun i hi => ⟨false,⟨#[]⟩,?_,?_,fun _ _ e => by (cases e),fun _ => rfl⟩⟩
 ·rw [madeCells_at _ _ _ (by omega)]
  have:i * 2 % (Value.agg #[Value.bool false,Value.string ⟨#[]⟩]).cells.size=0:=by
   show i * 2 % 2=0;omega
  rw [this];rfl
 ·rw [madeCells_at _ _ _ (by omega)]
  have:(i * 2 + 1) % (Value.agg #[Value.bool false,Value.string ⟨#[]⟩]).cells.size=1:=by
   show (i * 2 + 1) % 2=1;omega
  rw [this];rfl
theorem ownr_made (w:World) (b n:Nat) (h:Blk w b 3 (madeCells (Value.int .i64 0).cells n)):Ownr w b n:=by
 refine ⟨_,h,size_madeCells _ _,fun i hi => ?_⟩
 rw [madeCells_at _ _ _ hi]
 have:i % (Value.int IntKind.i64 0).cells.size=0:=by show i % 1=0;omega
 rw [this];rfl
def RetLk (w:World) (e:Ending) (w':World):Prop :=
 ∃ lk sl ow,e=.returned (.tuple #[.pointer (some ⟨lk,0,none⟩),.int .i64 0]) ∧ LockS w' lk sl ow none ∧ w.heap.size ≤ sl ∧ w.heap.size ≤ ow ∧ w.heap.size ≤ lk ∧ Below w.heap.size w w'
theorem power2048 (w:World):Calls Tryz.prog 151 #[.int .i64 2048,.int .i64 2] w fun e w' => e=.returned (.bool true) ∧ w=w':=by
 have hb:bits .and .i64 2048 2047=0:=by kernel_rfl
 go_enter Tryz.func151,Tryz.ntmps151
 go_wp2_with fail
 go_ret
 exact ⟨rfl,rfl⟩
theorem lkNew_any (w:World):Calls Tryz.prog 116 #[.int .i64 2048] w (RetLk w):=by
 obtain ⟨i0,hi,hz0,hz1,hz2⟩:=info_parts Tryz.infoSlot
 obtain ⟨i1,hi1,hi10,hi11,hi12⟩:=info_parts Tryz.infoInt
 have m0:∀ W,(Instr.makeSlice 195 (.int .i64 2048) (.int .i64 2048)).run Tryz.prog W=.ok (.slice (some ⟨W.heap.size,0,none⟩) 2048 2048) (W.alloc (.cells (madeCells (Value.agg #[.bool false,.string ⟨#[]⟩]).cells (2048 * 2)) 226)):=fun W => by
  have:=run_make (P:=Tryz.prog) W 195 226 i0 _ Tryz.underlying195 hi hz0 .i64 .i64 2048 2048 (by omega) (by omega) (by rw [hz2];omega) (by omega)
  rw [hz1] at this
  exact this
 have m1:∀ W,(Instr.makeSlice 22 (.int .i64 2048) (.int .i64 2048)).run Tryz.prog W=.ok (.slice (some ⟨W.heap.size,0,none⟩) 2048 2048) (W.alloc (.cells (madeCells (Value.int .i64 0).cells (2048 * 1)) 3)):=fun W => by
  have:=run_make (P:=Tryz.prog) W 22 3 i1 _ Tryz.underlying22 hi1 hi10 .i64 .i64 2048 2048 (by omega) (by omega) (by rw [hi12];omega) (by omega)
  rw [hi11] at this
  exact this
 have HS:=Lib.hid (fun W b (h:Blk W b 226 (madeCells (Value.agg #[.bool false,.string ⟨#[]⟩]).cells (2048 * 2))) => slots_made W b 2048 h)
 have HO:=Lib.hid (fun W b (h:Blk W b 3 (madeCells (Value.int .i64 0).cells (2048 * 1))) => ownr_made W b 2048 h)
 generalize madeCells (Value.agg #[.bool false,.string ⟨#[]⟩]).cells (2048 * 2)=CS at *
 generalize madeCells (Value.int .i64 0).cells (2048 * 1)=CO at *
 clear hi hz0 hz1 hz2 hi1 hi10 hi11 hi12
 go_enter Tryz.func116,Tryz.ntmps116
 go_wp2_with (go_at_call 151;refine (power2048 _).mono ?_;rintro e w1 ⟨rfl,rfl⟩)
 go_region
 ·go_wp2_with fail
  go_ret2
  exact ⟨w.heap.size + 1 + 1,w.heap.size,w.heap.size + 1,rfl,(LockS.later (w:=((w.alloc (.cells CS 226)).alloc (.cells CO 3)).alloc (.cells #[.slice (some ⟨w.heap.size,0,none⟩) 2048 2048,.slice (some ⟨w.heap.size + 1,0,none⟩) 2048 2048,.int .i64 0] 197)) ⟨blk_new3 _ _ _ _ _,HS.out _ _ (((Blk.new w _ _).alloc _).alloc _),HO.out _ _ ((blk_new2 w _ _ _).alloc _),by omega,by omega,by omega⟩ ((Below.refl _ _).drew)),by omega,by omega,by omega,(below_new3 w _ _ _).drew⟩
 ·go_wp2_with fail
  go_ret2
  exact ⟨w.heap.size + 1 + 1,w.heap.size + 1,w.heap.size,rfl,(LockS.later (w:=((w.alloc (.cells CO 3)).alloc (.cells CS 226)).alloc (.cells #[.slice (some ⟨w.heap.size + 1,0,none⟩) 2048 2048,.slice (some ⟨w.heap.size,0,none⟩) 2048 2048,.int .i64 0] 197)) ⟨blk_new3 _ _ _ _ _,HS.out _ _ ((blk_new2 w _ _ _).alloc _),HO.out _ _ (((Blk.new w _ _).alloc _).alloc _),by omega,by omega,by omega⟩ ((Below.refl _ _).drew)),by omega,by omega,by omega,(below_new3 w _ _ _).drew⟩
end Go.Proofs.YtjafpikjpipbkaaGreatDoor
