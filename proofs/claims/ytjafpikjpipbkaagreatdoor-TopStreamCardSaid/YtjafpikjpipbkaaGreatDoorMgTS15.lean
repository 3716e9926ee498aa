/-
  Merged texts: lemmas and walks that the last text of this claim leans on.
-/
import Derived.Test.YtjafpikjpipbkaaGreatDoorMgTS12
import Derived.Test.YtjafpikjpipbkaaGreatDoorMgTS14
import Derived.Test.YtjafpikjpipbkaaGreatDoorMgTS9
import Derived.Test.YtjafpikjpipbkaaGreatDoorMgTS13
import Derived.Test.YtjafpikjpipbkaaGreatDoorMgTS1
import Derived.WalkSmall
set_option maxRecDepth 100000
set_option maxHeartbeats 40000000
namespace Go.Proofs.YtjafpikjpipbkaaGreatDoor
open Go.RowKit ND
theorem pair_any (T:Tab) (mb:Nat) (a b:Int) (w:World) (hq:OwnsQ w mb (compL T)):Calls Tryz.prog 83 #[.map (some mb),.int .i64 a,.int .i64 b] w (RetOpt w (pairP T a b)):=by
 have HH:=Lib.hid (hcomp_any a b w)
 obtain ⟨i0,hi,_,_,_⟩:=info_parts Tryz.infoInt'
 have hlk:(Instr.lookup 134 (.map (some mb)) (.agg #[.int .i64 a,.int .i64 b]) true).run Tryz.prog w=.ok (.tuple #[.int .i64 ((lookP (compL T) (a,b)).getD 0),.bool (lookP (compL T) (a,b)).isSome]) w :=
  hq.lookup Tryz.underlying134 (fun _ => by kernel_rfl) Tryz.underlying155 Tryz.underlying3 hi (by kernel_rfl) (by kernel_rfl) (a,b)
 unfold RetOpt pairP at *
 cases hh:hcomp a b with
 | some x =>
   rw [hh] at HH
   simp only [Option.getD_some,Option.isSome_some] at HH ⊢
   clear hlk hh hq
   go_enter Tryz.func83,Tryz.ntmps83
   go_wp2_with fail
   refine HH.out.mono ?_
   rintro e w2 ⟨rfl,rfl⟩
   go_wp2_with fail
   go_ret2
   exact ⟨rfl,rfl⟩
 | none =>
   rw [hh] at HH
   simp only [Option.getD_none,Option.isSome_none] at HH ⊢
   generalize lookP (compL T) (a,b)=r at *
   clear hh hq
   go_enter Tryz.func83,Tryz.ntmps83
   go_wp2_with fail
   refine HH.out.mono ?_
   rintro e w2 ⟨rfl,rfl⟩
   go_wp2_with fail
   go_ret2
   exact ⟨rfl,rfl⟩
end Go.Proofs.YtjafpikjpipbkaaGreatDoor
namespace Go.Proofs.YtjafpikjpipbkaaGreatDoor
open Go.RowKit ND
def stI:Option Nat → Int
 | none => -1
 | some i => i
theorem foldl_take {α β:Type} {f:β → α → β} {s:β} {l:List α} {k:Nat} {x:α} (h:l[k]?=some x):(l.take (k + 1)).foldl f s=f ((l.take k).foldl f s) x:=by
 rw [take_snoc_get h,List.foldl_append];rfl
theorem form8_any (t:Tv) (T:Tab) (v:Value) (xs:List Int) (w:World) (ht:TabR w w.heap.size t T) (hv:Ints w w.heap.size .i64 v xs) (hck:T.check=0) (hxl:xs.length ≤ 1000000) :
  Calls Tryz.prog 41 #[t.val,v] w (RetRow w (formL T.classOf (pairP T) xs)):=by
 obtain ⟨A,c,rfl,_⟩:=id hv
 have HB0:Hid (Below w.heap.size w (w.alloc (.cells t.cells 26))):=Lib.hid ((Below.refl _ _).alloc (Nat.le_refl _) _)
 have HT:Hid (Tbl (w.alloc (.cells t.cells 26)) w.heap.size t T):=Lib.hid ⟨Blk.new _ _ _,ht.later HB0.out⟩
 have HV:=Lib.hid (hv.later HB0.out)
 clear ht hv
 have H1:=Lib.hid (collect_any t T _ HT.out.2 hck)
 have HC:Hid (∀ (b:Nat) (W:World) (x:Int),Tbl W b t T → Calls Tryz.prog 82 #[.agg #[t.c0,t.c1,t.c2,t.c3,t.c4,t.c5,t.c6,t.c7,t.c8,t.c9,t.c10,t.c11],.int .i64 x] W fun e W' => e=.returned (.int .i64 (T.classOf x)) ∧ Below W.heap.size W W'):=Lib.hid (fun b W x h => class_any t T x 0 1114111 W h.2 (shape_of hck).c1.1 (shape_of hck).c1.2.1)
 have HP:=Lib.hid (fun mb a b W => pair_any T mb a b W)
 obtain ⟨f,HF⟩:∃ f,Hid (f=T.classOf):=⟨_,Lib.hid rfl⟩
 obtain ⟨pr,HPR⟩:∃ pr,Hid (pr=pairP T):=⟨_,Lib.hid rfl⟩
 have HFN:Hid (∀ x,0 ≤ f x):=Lib.hid (fun x => by rw [HF.out];exact (cls_range hck x).1)
 rw [← HF.out] at HC
 rw [← HF.out,← HPR.out]
 unfold RetOpt at HP
 rw [← HPR.out] at HP
 have HEND:Hid (∀ acc st,xs.foldl (stepF f pr) ([],none)=(acc,st) → formL f pr xs=acc):=Lib.hid (fun acc st h => by unfold formL;rw [h])
 clear hck
 go_enter Tryz.func41,Tryz.ntmps41
 go_upto_region 1 with fail
 generalize w.alloc (.cells t.cells 26)=w1 at *
 obtain ⟨x0,x1,x2,x3,x4,x5,x6,x7,x8,x9,x10,x11⟩:=HT.out.1.tab
 go_upto_region 2 with (go_at_call 81;refine H1.out.mono ?_;rintro e w2 ⟨mb,rfl,hmb,hoq,b2⟩)
 clear x0 x1 x2 x3 x4 x5 x6 x7 x8 x9 x10 x11
 obtain ⟨tb,htb⟩:∃ tb,w.heap.size=tb:=⟨_,rfl⟩
 have HT2:Hid (Tbl w2 tb t T):=Lib.hid (htb ▸ HT.out.later b2)
 have HV2:=Lib.hid (HV.out.later b2)
 have HQ2:=Lib.hid hoq
 have HB2:=Lib.hid (below_next HB0.out b2)
 simp only [htb]
 clear HT HV HB0 b2 H1 hmb hoq
 obtain ⟨i0,hi,hz0,hz1,hz2⟩:=info_parts Tryz.infoInt'
 go_wp2_with fail
 go_loopw [20,6,7] (fun si so ss wr => ∃ (k:Nat) (acc:List Int) (st:Option Nat) (A9:Option Addr) (c9:Nat),k ≤ xs.length ∧ si=.int .i64 k ∧ so=.slice A9 acc.length c9 ∧ ss=.int .i64 (stI st) ∧ acc.length ≤ k ∧ Hid ((xs.take k).foldl (stepF f pr) ([],none)=(acc,st) ∧ StOk (acc,st)) ∧ Hid (wr.ownsRow w2.heap.size 3 1 (.slice A9 acc.length c9) acc.length (acc.map (Value.int .i64))) ∧ Hid (Below w2.heap.size w2 wr)) (fun si _ _ _ => xs.length - (intOf si).toNat)
 case atStart => exact ⟨0,[],none,none,0,by omega,rfl,rfl,rfl,by simp,Lib.hid ⟨rfl,fun i h => by cases h⟩,Lib.hid (World.ownsRow_nil _ _ _ _),Lib.hid (Below.refl _ _)⟩
 case round =>
  obtain ⟨k,acc,st,A9,c9,hk,rfl,rfl,rfl,hal,HS,HOs,HBs⟩:=hrel
  by_cases hlt:k < xs.length
  ·obtain ⟨x,hxk,hxm⟩:=get_of hlt
   obtain ⟨_,_,hve,_,_,_,hcell⟩:=HV2.out
   cases hve
   obtain ⟨ad,rfl,ha,hce⟩:=hcell k x hxk
   have e1:=(HBs.out.cell (p:=ad.add k) (by rw [block_of_add];exact ha)).trans hce
   have HX:=Lib.hid hxk
   have HNX:Hid ((xs.take (k + 1)).foldl (stepF f pr) ([],none)=stepF f pr (acc,st) x ∧ StOk (stepF f pr (acc,st) x)):=Lib.hid ⟨by rw [foldl_take HX.out,HS.out.1],stOk_step x HS.out.2⟩
   have HST:=Lib.hid HS.out.2
   have k0:(0:Int) ≤ (k:Int):=by omega
   have k1:(k:Int) < (xs.length:Int):=by omega
   clear hcell hxk ha hce hxm HS
   have HTr:=Lib.hid (HT2.out.later HBs.out)
   have HQr:=Lib.hid (HQ2.out.later HBs.out)
   have HCx:=Lib.hid (HC.out tb wr x HTr.out)
   obtain ⟨fx,hfx⟩:∃ fx,fx=f x:=⟨_,rfl⟩
   rw [← hfx] at HCx
   have HFX:=Lib.hid hfx
   clear hfx
   have hfn:0 ≤ fx:=by rw [HFX.out];exact HFN.out x
   obtain ⟨x0,x1,x2,x3,x4,x5,x6,x7,x8,x9,x10,x11⟩:=HTr.out.1.tab
   go_wp2_with fail
   refine HCx.out.mono ?_
   rintro e w5 ⟨rfl,b5⟩
   have HO5:=Lib.hid (own_later HOs.out b5)
   have HB5:=Lib.hid (below_then HBs.out (Nat.le_refl _) b5)
   have HT5:=Lib.hid (HTr.out.later b5)
   have HQ5:=Lib.hid (HQr.out.later b5)
   clear x0 x1 x2 x3 x4 x5 x6 x7 x8 x9 x10 x11 e1 b5 HTr HQr HCx HOs HBs
   cases st with
   | none =>
     have HAP:Hid (stepF f pr (acc,none) x=appF f (acc,none) x):=Lib.hid rfl
     have hz:stI none=-1:=rfl
     rw [hz]
     clear hz
     by_cases h0:fx=0
     ·have z0:(fx == 0)=true:=beq_iff_eq.2 h0
      have HN:Hid (stepF f pr (acc,none) x=(acc ++ [x],some acc.length)):=Lib.hid (by rw [HAP.out];unfold appF;rw [if_pos (by rw [← HFX.out];exact h0)])
      clear h0
      go_wp2_with (at_builtin;refine wpList_append_ints (by rfl) (.tmp 73) (.tmp 75) rfl Tryz.underlying22 hi hz0 hz1 hz2 (w5.heap.size + 1) w2.heap.size (.slice A9 acc.length c9) acc (.slice (some ⟨w5.heap.size,0,none⟩) 1 1) [x] rfl (HO5.out.alloc _) rfl (by have h:=Ints.of_own (own_new w5 3 [x] (by simp));simpa using h) (by simp;omega) (by have:=HB5.out.size;simp;omega) ?_;intro v6 w6 ho6 hg6 _;obtain ⟨A6,c6,rfl,_⟩:=id (Ints.of_own ho6);have HO6:=Lib.hid ho6;have HB6:=Lib.hid ((HB5.out.alloc HB5.out.size (.cells #[.int .i64 x] 3)).grown hg6 (by have:=HB5.out.size;simp;omega) (fun q hq => (HO5.out.lt q hq).1));clear ho6 hg6)
      go_roundw
      case rel => exact ⟨k + 1,acc ++ [x],some acc.length,A6,c6,by omega,by go_num,(by first | (simp;done) | (simp;omega)),(by first | rfl | go_num | (simp [stI])),by simp;omega,Lib.hid ⟨by rw [HNX.out.1,HN.out],by have h:=HNX.out.2;rw [HN.out] at h;exact h⟩,HO6,HB6⟩
      case measure => simp [intOf];omega
     ·have z0:(fx == 0)=false:=beq_eq_false_iff_ne.2 h0
      have HN:Hid (stepF f pr (acc,none) x=(acc ++ [x],none)):=Lib.hid (by rw [HAP.out];unfold appF;rw [if_neg (by rw [← HFX.out];exact h0)])
      clear h0
      go_wp2_with (at_builtin;refine wpList_append_ints (by rfl) (.tmp 73) (.tmp 75) rfl Tryz.underlying22 hi hz0 hz1 hz2 (w5.heap.size + 1) w2.heap.size (.slice A9 acc.length c9) acc (.slice (some ⟨w5.heap.size,0,none⟩) 1 1) [x] rfl (HO5.out.alloc _) rfl (by have h:=Ints.of_own (own_new w5 3 [x] (by simp));simpa using h) (by simp;omega) (by have:=HB5.out.size;simp;omega) ?_;intro v6 w6 ho6 hg6 _;obtain ⟨A6,c6,rfl,_⟩:=id (Ints.of_own ho6);have HO6:=Lib.hid ho6;have HB6:=Lib.hid ((HB5.out.alloc HB5.out.size (.cells #[.int .i64 x] 3)).grown hg6 (by have:=HB5.out.size;simp;omega) (fun q hq => (HO5.out.lt q hq).1));clear ho6 hg6)
      go_roundw
      case rel => exact ⟨k + 1,acc ++ [x],none,A6,c6,by omega,by go_num,(by first | (simp;done) | (simp;omega)),rfl,by simp;omega,Lib.hid ⟨by rw [HNX.out.1,HN.out],by have h:=HNX.out.2;rw [HN.out] at h;exact h⟩,HO6,HB6⟩
      case measure => simp [intOf];omega
   | some i =>
     have hil:i < acc.length:=HST.out i rfl
     have hz:stI (some i)=(i:Int):=rfl
     rw [hz]
     clear hz
     obtain ⟨y,hy⟩:∃ y,acc[i]?=some y:=⟨_,List.getElem?_eq_getElem hil⟩
     have HY:=Lib.hid hy
     have HYD:Hid (acc.getD i 0=y):=Lib.hid (by rw [List.getD_eq_getElem?_getD,hy];rfl)
     obtain ⟨gb,cap9,hsh,hgb,_⟩:=HO5.out.form (by omega)
     cases hsh
     have HGB:=Lib.hid hgb
     clear hy hgb
     have i0':(0:Int) ≤ (i:Int):=by omega
     have i1:(i:Int) < (acc.length:Int):=by omega
     by_cases hpl:i + 1 < acc.length
     ·obtain ⟨q,hq⟩:∃ q,acc.length=q + 1:=⟨acc.length - 1,by omega⟩
      obtain ⟨r,hr⟩:∃ r,acc[q]?=some r:=⟨_,List.getElem?_eq_getElem (by omega)⟩
      have HRR:=Lib.hid hr
      have HLD:Hid (acc.getLastD 0=r):=Lib.hid (by rw [List.getLastD_eq_getLast?,List.getLast?_eq_getElem?,show acc.length - 1=q by omega,hr];rfl)
      have wq:(acc.length:Int) - 1=(q:Int):=by omega
      have q0:(0:Int) ≤ (q:Int):=by omega
      have q1:(q:Int) < (acc.length:Int):=by omega
      have q2:(i:Int) < (q:Int):=by omega
      have q3:i < q:=by omega
      have q4:q < acc.length:=by omega
      have eq:=cell_regrown ((HO5.out.cellAt q (by omega)).trans (by rw [List.getElem?_map,hr];rfl:(acc.map (Value.int .i64))[q]?=some (.int .i64 r)))
      obtain ⟨fr,hfr⟩:∃ fr,fr=f r:=⟨_,rfl⟩
      have HCr:Hid (∀ V,Below w5.heap.size w5 V → Calls Tryz.prog 82 #[.agg #[t.c0,t.c1,t.c2,t.c3,t.c4,t.c5,t.c6,t.c7,t.c8,t.c9,t.c10,t.c11],.int .i64 r] V fun e V' => e=.returned (.int .i64 fr) ∧ Below V.heap.size V V'):=Lib.hid fun V hV => by rw [hfr];exact HC.out tb V r (HT5.out.later hV)
      have HBK:Hid (blockedB f acc i x=((fr == 0) || decide (fx ≤ fr))):=Lib.hid (by
       unfold blockedB
       rw [if_pos hpl,HLD.out,← hfr,← HFX.out])
      clear hfr hr hq
      obtain ⟨x0,x1,x2,x3,x4,x5,x6,x7,x8,x9,x10,x11⟩:=HT5.out.1.tabG
      go_upto_region 11 with fail
      refine wp_region_quiet_below (by kernel_rfl) (by kernel_rfl) ?_
      repeat (go_big_quiet_step (first | (go_at_call 82;with_reducible exact quiet_t HCr.out)))
      refine wpQuiet_nil ?_
      rintro _ ⟨⟨dq,osq⟩,rfl⟩
      have bq:=below_regrown w5 dq osq
      have HO7:=Lib.hid (own_later HO5.out bq)
      have HB7:=Lib.hid (below_then HB5.out (Nat.le_refl _) bq)
      have HT7:=Lib.hid (HT5.out.later bq)
      have HQ7:=Lib.hid (HQ5.out.later bq)
      clear HO5 HB5 HT5 HQ5 bq
      generalize Go.Sort.grow (redrawn w5 dq) osq=w5 at *
      have HO5:=HO7
      have HB5:=HB7
      have HQ5:=HQ7
      clear HO7 HB7 HT7 HQ7 x0 x1 x2 x3 x4 x5 x6 x7 x8 x9 x10 x11 eq HCr
      by_cases hb:fr=0 ∨ fx ≤ fr
      ·have HAP:Hid (stepF f pr (acc,some i) x=appF f (acc,some i) x):=Lib.hid (stepF_blocked (by
        rw [HBK.out]
        rcases hb with h | h
        ·simp [h]
        ·simp [h]))
       have hb2:((fr == 0)=true) ∨ ((fr == 0)=false ∧ decide (fx ≤ fr)=true):=by
        rcases hb with h | h
        ·exact .inl (beq_iff_eq.2 h)
        ·by_cases h':fr=0
         ·exact .inl (beq_iff_eq.2 h')
         ·exact .inr ⟨beq_eq_false_iff_ne.2 h',decide_eq_true h⟩
       clear hb
       rcases hb2 with y1 | ⟨y1,y2⟩
       all_goals
        by_cases h0:fx=0
        ·have z0:(fx == 0)=true:=beq_iff_eq.2 h0
         have HN:Hid (stepF f pr (acc,some i) x=(acc ++ [x],some acc.length)):=Lib.hid (by rw [HAP.out];unfold appF;rw [if_pos (by rw [← HFX.out];exact h0)])
         clear h0
         go_wp2_with (at_builtin;refine wpList_append_ints (by rfl) (.tmp 73) (.tmp 75) rfl Tryz.underlying22 hi hz0 hz1 hz2 (w5.heap.size + 1) w2.heap.size (.slice (some ⟨gb,0,none⟩) acc.length c9) acc (.slice (some ⟨w5.heap.size,0,none⟩) 1 1) [x] rfl (HO5.out.alloc _) rfl (by have h:=Ints.of_own (own_new w5 3 [x] (by simp));simpa using h) (by simp;omega) (by have:=HB5.out.size;simp;omega) ?_;intro v6 w6 ho6 hg6 _;obtain ⟨A6,c6,rfl,_⟩:=id (Ints.of_own ho6);have HO6:=Lib.hid ho6;have HB6:=Lib.hid ((HB5.out.alloc HB5.out.size (.cells #[.int .i64 x] 3)).grown hg6 (by have:=HB5.out.size;simp;omega) (fun q hq => (HO5.out.lt q hq).1));clear ho6 hg6)
         go_roundw
         case rel => exact ⟨k + 1,acc ++ [x],some acc.length,A6,c6,by omega,by go_num,(by first | (simp;done) | (simp;omega)),(by first | rfl | go_num | (simp [stI])),by simp;omega,Lib.hid ⟨by rw [HNX.out.1,HN.out],by have h:=HNX.out.2;rw [HN.out] at h;exact h⟩,HO6,HB6⟩
         case measure => simp [intOf];omega
        ·have z0:(fx == 0)=false:=beq_eq_false_iff_ne.2 h0
         have HN:Hid (stepF f pr (acc,some i) x=(acc ++ [x],some i)):=Lib.hid (by rw [HAP.out];unfold appF;rw [if_neg (by rw [← HFX.out];exact h0)])
         clear h0
         go_wp2_with (at_builtin;refine wpList_append_ints (by rfl) (.tmp 73) (.tmp 75) rfl Tryz.underlying22 hi hz0 hz1 hz2 (w5.heap.size + 1) w2.heap.size (.slice (some ⟨gb,0,none⟩) acc.length c9) acc (.slice (some ⟨w5.heap.size,0,none⟩) 1 1) [x] rfl (HO5.out.alloc _) rfl (by have h:=Ints.of_own (own_new w5 3 [x] (by simp));simpa using h) (by simp;omega) (by have:=HB5.out.size;simp;omega) ?_;intro v6 w6 ho6 hg6 _;obtain ⟨A6,c6,rfl,_⟩:=id (Ints.of_own ho6);have HO6:=Lib.hid ho6;have HB6:=Lib.hid ((HB5.out.alloc HB5.out.size (.cells #[.int .i64 x] 3)).grown hg6 (by have:=HB5.out.size;simp;omega) (fun q hq => (HO5.out.lt q hq).1));clear ho6 hg6)
         go_roundw
         case rel => exact ⟨k + 1,acc ++ [x],some i,A6,c6,by omega,by go_num,(by first | (simp;done) | (simp;omega)),rfl,by simp;omega,Lib.hid ⟨by rw [HNX.out.1,HN.out],by have h:=HNX.out.2;rw [HN.out] at h;exact h⟩,HO6,HB6⟩
         case measure => simp [intOf];omega
      ·have HBF:Hid (blockedB f acc i x=false):=Lib.hid (by
        rw [HBK.out,Bool.or_eq_false_iff]
        exact ⟨beq_eq_false_iff_ne.2 (fun h => hb (.inl h)),decide_eq_false (fun h => hb (.inr h))⟩)
       have y1:(fr == 0)=false:=beq_eq_false_iff_ne.2 (fun h => hb (.inl h))
       have y2:decide (fx ≤ fr)=false:=decide_eq_false (fun h => hb (.inr h))
       clear hb
       obtain ⟨ro,HRO⟩:∃ ro,Hid (pr y x=ro):=⟨_,Lib.hid rfl⟩
       have HPx:Hid (∀ V,OwnsQ V mb (compL T) → Calls Tryz.prog 83 #[.map (some mb),.int .i64 y,.int .i64 x] V fun e V' => e=.returned (.tuple #[.int .i64 (ro.getD 0),.bool ro.isSome]) ∧ V=V'):=Lib.hid fun V hV => by
        have h:=HP.out mb y x V hV
        rw [HRO.out] at h;exact h
       have hcp:=(HO5.out.cellAt i (by omega)).trans (by rw [List.getElem?_map,HY.out];rfl:(acc.map (Value.int .i64))[i]?=some (.int .i64 y))
       have fp:=HO5.out.frozenAt i
       cases ro with
       | some z =>
         simp only [Option.getD_some,Option.isSome_some] at HPx
         have HN:Hid (stepF f pr (acc,some i) x=(acc.set i z,some i)):=Lib.hid (stepF_pair HBF.out (by rw [HYD.out];exact HRO.out))
         go_wp2_with fail
         refine (HPx.out _ HQ5.out).mono ?_
         rintro e w6 ⟨rfl,rfl⟩
         go_wp2_with fail
         have HO8:Hid ((w5.setCell ⟨gb,i,none⟩ (.int .i64 z)).ownsRow w2.heap.size 3 1 (.slice (some ⟨gb,0,none⟩) acc.length c9) (acc.set i z).length ((acc.set i z).map (Value.int .i64))):=by
          have h:=(HO5.out.stored i (.int .i64 z)).1
          rw [← List.map_set] at h
          rw [List.length_set]
          exact Lib.hid h
         have HB8:Hid (Below w2.heap.size w2 (w5.setCell ⟨gb,i,none⟩ (.int .i64 z))):=Lib.hid (HB5.out.setCell (p:=⟨gb,i,none⟩) HGB.out _)
         go_roundw
         case rel => exact ⟨k + 1,acc.set i z,some i,_,c9,by omega,by go_num,by rw [List.length_set],rfl,by rw [List.length_set];omega,Lib.hid ⟨by rw [HNX.out.1,HN.out],by have h:=HNX.out.2;rw [HN.out] at h;exact h⟩,(by rw [List.length_set] at HO8 ⊢;exact HO8),HB8⟩
         case measure => simp [intOf];omega
       | none =>
         simp only [Option.getD_none,Option.isSome_none] at HPx
         have HAP:Hid (stepF f pr (acc,some i) x=appF f (acc,some i) x):=Lib.hid (stepF_no HBF.out (by rw [HYD.out];exact HRO.out))
         go_wp2_with fail
         refine (HPx.out _ HQ5.out).mono ?_
         rintro e w6 ⟨rfl,rfl⟩
         clear hcp fp
         by_cases h0:fx=0
         ·have z0:(fx == 0)=true:=beq_iff_eq.2 h0
          have HN:Hid (stepF f pr (acc,some i) x=(acc ++ [x],some acc.length)):=Lib.hid (by rw [HAP.out];unfold appF;rw [if_pos (by rw [← HFX.out];exact h0)])
          clear h0
          go_wp2_with (at_builtin;refine wpList_append_ints (by rfl) (.tmp 73) (.tmp 75) rfl Tryz.underlying22 hi hz0 hz1 hz2 (w5.heap.size + 1) w2.heap.size (.slice (some ⟨gb,0,none⟩) acc.length c9) acc (.slice (some ⟨w5.heap.size,0,none⟩) 1 1) [x] rfl (HO5.out.alloc _) rfl (by have h:=Ints.of_own (own_new w5 3 [x] (by simp));simpa using h) (by simp;omega) (by have:=HB5.out.size;simp;omega) ?_;intro v6 w6 ho6 hg6 _;obtain ⟨A6,c6,rfl,_⟩:=id (Ints.of_own ho6);have HO6:=Lib.hid ho6;have HB6:=Lib.hid ((HB5.out.alloc HB5.out.size (.cells #[.int .i64 x] 3)).grown hg6 (by have:=HB5.out.size;simp;omega) (fun q hq => (HO5.out.lt q hq).1));clear ho6 hg6)
          go_roundw
          case rel => exact ⟨k + 1,acc ++ [x],some acc.length,A6,c6,by omega,by go_num,(by first | (simp;done) | (simp;omega)),(by first | rfl | go_num | (simp [stI])),by simp;omega,Lib.hid ⟨by rw [HNX.out.1,HN.out],by have h:=HNX.out.2;rw [HN.out] at h;exact h⟩,HO6,HB6⟩
          case measure => simp [intOf];omega
         ·have z0:(fx == 0)=false:=beq_eq_false_iff_ne.2 h0
          have HN:Hid (stepF f pr (acc,some i) x=(acc ++ [x],some i)):=Lib.hid (by rw [HAP.out];unfold appF;rw [if_neg (by rw [← HFX.out];exact h0)])
          clear h0
          go_wp2_with (at_builtin;refine wpList_append_ints (by rfl) (.tmp 73) (.tmp 75) rfl Tryz.underlying22 hi hz0 hz1 hz2 (w5.heap.size + 1) w2.heap.size (.slice (some ⟨gb,0,none⟩) acc.length c9) acc (.slice (some ⟨w5.heap.size,0,none⟩) 1 1) [x] rfl (HO5.out.alloc _) rfl (by have h:=Ints.of_own (own_new w5 3 [x] (by simp));simpa using h) (by simp;omega) (by have:=HB5.out.size;simp;omega) ?_;intro v6 w6 ho6 hg6 _;obtain ⟨A6,c6,rfl,_⟩:=id (Ints.of_own ho6);have HO6:=Lib.hid ho6;have HB6:=Lib.hid ((HB5.out.alloc HB5.out.size (.cells #[.int .i64 x] 3)).grown hg6 (by have:=HB5.out.size;simp;omega) (fun q hq => (HO5.out.lt q hq).1));clear ho6 hg6)
          go_roundw
          case rel => exact ⟨k + 1,acc ++ [x],some i,A6,c6,by omega,by go_num,(by first | (simp;done) | (simp;omega)),rfl,by simp;omega,Lib.hid ⟨by rw [HNX.out.1,HN.out],by have h:=HNX.out.2;rw [HN.out] at h;exact h⟩,HO6,HB6⟩
          case measure => simp [intOf];omega
     ·have HBF:Hid (blockedB f acc i x=false):=Lib.hid (by
       unfold blockedB
       rw [if_neg hpl])
      have wq:(acc.length:Int) - 1=(i:Int):=by omega
      have q3:¬ (i:Int) < (i:Int):=by omega
      obtain ⟨ro,HRO⟩:∃ ro,Hid (pr y x=ro):=⟨_,Lib.hid rfl⟩
      have HPx:Hid (∀ V,OwnsQ V mb (compL T) → Calls Tryz.prog 83 #[.map (some mb),.int .i64 y,.int .i64 x] V fun e V' => e=.returned (.tuple #[.int .i64 (ro.getD 0),.bool ro.isSome]) ∧ V=V'):=Lib.hid fun V hV => by
       have h:=HP.out mb y x V hV
       rw [HRO.out] at h;exact h
      have hcp:=(HO5.out.cellAt i (by omega)).trans (by rw [List.getElem?_map,HY.out];rfl:(acc.map (Value.int .i64))[i]?=some (.int .i64 y))
      have fp:=HO5.out.frozenAt i
      cases ro with
      | some z =>
        simp only [Option.getD_some,Option.isSome_some] at HPx
        have HN:Hid (stepF f pr (acc,some i) x=(acc.set i z,some i)):=Lib.hid (stepF_pair HBF.out (by rw [HYD.out];exact HRO.out))
        go_wp2_with fail
        refine (HPx.out _ HQ5.out).mono ?_
        rintro e w6 ⟨rfl,rfl⟩
        go_wp2_with fail
        have HO8:Hid ((w5.setCell ⟨gb,i,none⟩ (.int .i64 z)).ownsRow w2.heap.size 3 1 (.slice (some ⟨gb,0,none⟩) acc.length c9) (acc.set i z).length ((acc.set i z).map (Value.int .i64))):=by
         have h:=(HO5.out.stored i (.int .i64 z)).1
         rw [← List.map_set] at h
         rw [List.length_set]
         exact Lib.hid h
        have HB8:Hid (Below w2.heap.size w2 (w5.setCell ⟨gb,i,none⟩ (.int .i64 z))):=Lib.hid (HB5.out.setCell (p:=⟨gb,i,none⟩) HGB.out _)
        go_roundw
        case rel => exact ⟨k + 1,acc.set i z,some i,_,c9,by omega,by go_num,by rw [List.length_set],rfl,by rw [List.length_set];omega,Lib.hid ⟨by rw [HNX.out.1,HN.out],by have h:=HNX.out.2;rw [HN.out] at h;exact h⟩,(by rw [List.length_set] at HO8 ⊢;exact HO8),HB8⟩
        case measure => simp [intOf];omega
      | none =>
        simp only [Option.getD_none,Option.isSome_none] at HPx
        have HAP:Hid (stepF f pr (acc,some i) x=appF f (acc,some i) x):=Lib.hid (stepF_no HBF.out (by rw [HYD.out];exact HRO.out))
        go_wp2_with fail
        refine (HPx.out _ HQ5.out).mono ?_
        rintro e w6 ⟨rfl,rfl⟩
        clear hcp fp
        by_cases h0:fx=0
        ·have z0:(fx == 0)=true:=beq_iff_eq.2 h0
         have HN:Hid (stepF f pr (acc,some i) x=(acc ++ [x],some acc.length)):=Lib.hid (by rw [HAP.out];unfold appF;rw [if_pos (by rw [← HFX.out];exact h0)])
         clear h0
         go_wp2_with (at_builtin;refine wpList_append_ints (by rfl) (.tmp 73) (.tmp 75) rfl Tryz.underlying22 hi hz0 hz1 hz2 (w5.heap.size + 1) w2.heap.size (.slice (some ⟨gb,0,none⟩) acc.length c9) acc (.slice (some ⟨w5.heap.size,0,none⟩) 1 1) [x] rfl (HO5.out.alloc _) rfl (by have h:=Ints.of_own (own_new w5 3 [x] (by simp));simpa using h) (by simp;omega) (by have:=HB5.out.size;simp;omega) ?_;intro v6 w6 ho6 hg6 _;obtain ⟨A6,c6,rfl,_⟩:=id (Ints.of_own ho6);have HO6:=Lib.hid ho6;have HB6:=Lib.hid ((HB5.out.alloc HB5.out.size (.cells #[.int .i64 x] 3)).grown hg6 (by have:=HB5.out.size;simp;omega) (fun q hq => (HO5.out.lt q hq).1));clear ho6 hg6)
         go_roundw
         case rel => exact ⟨k + 1,acc ++ [x],some acc.length,A6,c6,by omega,by go_num,(by first | (simp;done) | (simp;omega)),(by first | rfl | go_num | (simp [stI])),by simp;omega,Lib.hid ⟨by rw [HNX.out.1,HN.out],by have h:=HNX.out.2;rw [HN.out] at h;exact h⟩,HO6,HB6⟩
         case measure => simp [intOf];omega
        ·have z0:(fx == 0)=false:=beq_eq_false_iff_ne.2 h0
         have HN:Hid (stepF f pr (acc,some i) x=(acc ++ [x],some i)):=Lib.hid (by rw [HAP.out];unfold appF;rw [if_neg (by rw [← HFX.out];exact h0)])
         clear h0
         go_wp2_with (at_builtin;refine wpList_append_ints (by rfl) (.tmp 73) (.tmp 75) rfl Tryz.underlying22 hi hz0 hz1 hz2 (w5.heap.size + 1) w2.heap.size (.slice (some ⟨gb,0,none⟩) acc.length c9) acc (.slice (some ⟨w5.heap.size,0,none⟩) 1 1) [x] rfl (HO5.out.alloc _) rfl (by have h:=Ints.of_own (own_new w5 3 [x] (by simp));simpa using h) (by simp;omega) (by have:=HB5.out.size;simp;omega) ?_;intro v6 w6 ho6 hg6 _;obtain ⟨A6,c6,rfl,_⟩:=id (Ints.of_own ho6);have HO6:=Lib.hid ho6;have HB6:=Lib.hid ((HB5.out.alloc HB5.out.size (.cells #[.int .i64 x] 3)).grown hg6 (by have:=HB5.out.size;simp;omega) (fun q hq => (HO5.out.lt q hq).1));clear ho6 hg6)
         go_roundw
         case rel => exact ⟨k + 1,acc ++ [x],some i,A6,c6,by omega,by go_num,(by first | (simp;done) | (simp;omega)),rfl,by simp;omega,Lib.hid ⟨by rw [HNX.out.1,HN.out],by have h:=HNX.out.2;rw [HN.out] at h;exact h⟩,HO6,HB6⟩
         case measure => simp [intOf];omega
  ·have HE:=Lib.hid (HEND.out acc st (by have h:=HS.out.1;rw [List.take_of_length_le (by omega)] at h;exact h))
   go_wp2_with fail
   go_ret
   rw [HE.out]
   exact ⟨_,rfl,row_le HOs.out (by have:=HB2.out.size;omega),below_next HB2.out HBs.out⟩
end Go.Proofs.YtjafpikjpipbkaaGreatDoor
namespace Go.Proofs.YtjafpikjpipbkaaGreatDoor
open Go.RowKit ND
theorem flatD_step {T:Tab} {xs:List Int} {k:Nat} {x:Int} (h:xs[k]?=some x):flatD T (xs.take (k + 1))=flatD T (xs.take k) ++ expandL T x:=by
 obtain ⟨h1,e⟩:=List.getElem?_eq_some_iff.1 h
 rw [List.take_succ_eq_append_getElem h1,flatD_app,e]
 simp [flatD]
theorem form7_any (t:Tv) (T:Tab) (v:Value) (xs:List Int) (w:World) (ht:TabR w w.heap.size t T) (hck:T.check=0) (hlen:xs.length ≤ 4096) (hv:Ints w w.heap.size .i64 v xs) :
  Calls Tryz.prog 80 #[t.val,v] w (RetRow w (nfdL T xs)):=by
 obtain ⟨A,c,rfl,_⟩:=id hv
 have HB0:Hid (Below w.heap.size w (w.alloc (.cells t.cells 26))):=Lib.hid ((Below.refl _ _).alloc (Nat.le_refl _) _)
 have HT:Hid (Tbl (w.alloc (.cells t.cells 26)) w.heap.size t T):=Lib.hid ⟨Blk.new _ _ _,ht.later HB0.out⟩
 have HV:=Lib.hid (hv.later HB0.out)
 clear ht hv
 have hD:=decOk_of hck
 have HE:=Lib.hid (fun c W base u acc h1 h2 h3 h4 => expand_any t T hD T.decomps.length c W base u acc (Nat.le_refl _) h1 h2 h3 (hD.fin c) h4)
 have hdl:=hD.len
 have HFL:=Lib.hid (fun l => (flatD_len hD l).2)
 have HS:=Lib.hid (fun W u (h:TabR W W.heap.size t T) hl hi => sort_big t T u (flatD T xs) W h hck hl hi)
 clear hck hD
 go_enter Tryz.func80,Tryz.ntmps80
 go_upto_region 1 with fail
 generalize w.alloc (.cells t.cells 26)=w1 at *
 obtain ⟨tb,htb⟩:∃ tb,w.heap.size=tb:=⟨_,rfl⟩
 rw [htb] at HT
 simp only [htb]
 go_wp2_with fail
 go_loopw [10,5] (fun si so wr => ∃ (k:Nat) (vo:Value),k ≤ xs.length ∧ si=.int .i64 k ∧ vo=so ∧ Hid (wr.ownsRow w1.heap.size 3 1 vo (flatD T (xs.take k)).length ((flatD T (xs.take k)).map (Value.int .i64))) ∧ Hid (Below w1.heap.size w1 wr)) (fun si _ _ => xs.length - (intOf si).toNat)
 case atStart => exact ⟨0,_,by omega,rfl,rfl,Lib.hid (World.ownsRow_nil _ _ _ _),Lib.hid (Below.refl _ _)⟩
 case round =>
  obtain ⟨k,so,hk,rfl,rfl,HOr,HBr⟩:=hrel
  by_cases hlt:k < xs.length
  ·obtain ⟨x,hxk,_⟩:=get_of hlt
   obtain ⟨_,_,hve,_,_,_,hcell⟩:=HV.out
   cases hve
   obtain ⟨ad,rfl,ha,hce⟩:=hcell k x hxk
   have e1:=(HBr.out.cell (p:=ad.add k) (by rw [block_of_add];exact ha)).trans hce
   have HX:=Lib.hid hxk
   have k0:(0:Int) ≤ (k:Int):=by omega
   have k1:(k:Int) < (xs.length:Int):=by omega
   have HTr:=Lib.hid (HT.out.later HBr.out)
   have hfl:=HFL.out (xs.take k)
   rw [List.length_take_of_le hk] at hfl
   have HCx:=Lib.hid (HE.out x wr w1.heap.size so _ (HT.out.2.below HBr.out) HBr.out.size HOr.out (by omega))
   have HN:=Lib.hid (flatD_step (T:=T) HX.out)
   clear hcell hxk ha hce
   obtain ⟨x0,x1,x2,x3,x4,x5,x6,x7,x8,x9,x10,x11⟩:=HTr.out.1.tab
   go_wp2_with (go_at_call 134;refine HCx.out.mono ?_;rintro e w5 ⟨v5,rfl,ho5,hg5⟩)
   go_roundw
   case rel => exact ⟨k + 1,v5,by omega,by go_num,rfl,Lib.hid (by rw [HN.out];exact ho5),Lib.hid (HBr.out.trans (hg5.below (fun g h => (own_base HOr.out g h).1) HBr.out.size))⟩
   case measure => simp [intOf];omega
  ·have HOX:Hid (wr.ownsRow w1.heap.size 3 1 so (flatD T xs).length ((flatD T xs).map (Value.int .i64))):=Lib.hid (by have:=HOr.out;rwa [List.take_of_length_le (by omega)] at this)
   have HTr:=Lib.hid (HT.out.later HBr.out)
   have hfl:=HFL.out xs
   have HSx:=Lib.hid (HS.out wr so HTr.out.2 (by omega) (Ints.of_own HOX.out))
   obtain ⟨x0,x1,x2,x3,x4,x5,x6,x7,x8,x9,x10,x11⟩:=HTr.out.1.tab
   go_wp2_with (go_at_call 75;refine HSx.out.mono ?_;rintro e w5 ⟨v5,rfl,ho5,b5⟩)
   go_ret
   exact ⟨v5,rfl,row_le ho5 (by have:=HB0.out.size;have:=HBr.out.size;omega),below_next HB0.out (below_then HBr.out (Nat.le_refl _) b5)⟩
end Go.Proofs.YtjafpikjpipbkaaGreatDoor
namespace Go.Proofs.YtjafpikjpipbkaaGreatDoor
open Go.RowKit ND
theorem nfd7_any (t:Tv) (T:Tab) (v:Value) (xs:List Int) (w:World) (ht:TabR w w.heap.size t T) (hg:Glob w) (hv:Ints w w.heap.size .i64 v xs) :
  Calls Tryz.prog 40 #[t.val,v] w (RetTwo w (nfdR T (accE T xs) xs).1 (nfdR T (accE T xs) xs).2):=by
 obtain ⟨A,c,rfl,_⟩:=id hv
 have HB0:Hid (Below w.heap.size w (w.alloc (.cells t.cells 26))):=Lib.hid ((Below.refl _ _).alloc (Nat.le_refl _) _)
 have HT:Hid (Tbl (w.alloc (.cells t.cells 26)) w.heap.size t T):=Lib.hid ⟨Blk.new _ _ _,ht.later HB0.out⟩
 have HV:=Lib.hid (hv.later HB0.out)
 have HG:=Lib.hid (hg.later HB0.out)
 clear ht hv hg
 have HO:=Lib.hid (order_any t T _ xs _ HT.out.2 HG.out HV.out)
 by_cases h0:accE T xs=0
 ·obtain ⟨hck,hlen,_⟩:=accE_zero h0
  have HF:=Lib.hid (fun W (h:Below (w.alloc (.cells t.cells 26)).heap.size (w.alloc (.cells t.cells 26)) W) => form7_any t T _ xs W (HT.out.later h).2 hck hlen (HV.out.later h))
  have hln:=nfdL_length (T:=T) xs
  by_cases hfl:4096 < (flatD T xs).length
  ·have HE:Hid (nfdR T (accE T xs) xs=([],7)):=Lib.hid (by rw [h0];exact nfdR_full hfl)
   rw [h0] at HO
   have g:(4096:Int) < ((nfdL T xs).length:Int):=by omega
   clear h0 hck hfl hln
   generalize ordL T xs=ol at *
   generalize nfdL T xs=nl at *
   go_enter Tryz.func40,Tryz.ntmps40
   go_upto_region 1 with fail
   generalize w.alloc (.cells t.cells 26)=w1 at *
   obtain ⟨x0,x1,x2,x3,x4,x5,x6,x7,x8,x9,x10,x11⟩:=HT.out.1.tab
   go_upto_region 2 with (go_at_call 37;refine HO.out.mono ?_;rintro e w2 ⟨u2,rfl,ho2,b2⟩;obtain ⟨A2,c2,rfl,_⟩:=id (Ints.of_own ho2);clear ho2)
   clear x0 x1 x2 x3 x4 x5 x6 x7 x8 x9 x10 x11
   obtain ⟨x0,x1,x2,x3,x4,x5,x6,x7,x8,x9,x10,x11⟩:=(HT.out.later b2).1.tab
   go_wp2_with (go_at_call 80;refine (HF.out _ b2).mono ?_;rintro e w3 ⟨u3,rfl,ho3,b3⟩;obtain ⟨A3,c3,rfl,_⟩:=id (Ints.of_own ho3))
   go_ret2
   rw [HE.out]
   exact ⟨_,rfl,World.ownsRow_nil _ _ _ _,below_next (below_next HB0.out b2) b3⟩
  ·have HE:Hid (nfdR T (accE T xs) xs=(nfdL T xs,0)):=Lib.hid (by rw [h0];exact nfdR_ok (by omega))
   rw [h0] at HO
   have g:¬ (4096:Int) < ((nfdL T xs).length:Int):=by omega
   clear h0 hck hfl hln
   generalize ordL T xs=ol at *
   generalize nfdL T xs=nl at *
   go_enter Tryz.func40,Tryz.ntmps40
   go_upto_region 1 with fail
   generalize w.alloc (.cells t.cells 26)=w1 at *
   obtain ⟨x0,x1,x2,x3,x4,x5,x6,x7,x8,x9,x10,x11⟩:=HT.out.1.tab
   go_upto_region 2 with (go_at_call 37;refine HO.out.mono ?_;rintro e w2 ⟨u2,rfl,ho2,b2⟩;obtain ⟨A2,c2,rfl,_⟩:=id (Ints.of_own ho2);clear ho2)
   clear x0 x1 x2 x3 x4 x5 x6 x7 x8 x9 x10 x11
   obtain ⟨x0,x1,x2,x3,x4,x5,x6,x7,x8,x9,x10,x11⟩:=(HT.out.later b2).1.tab
   go_wp2_with (go_at_call 80;refine (HF.out _ b2).mono ?_;rintro e w3 ⟨u3,rfl,ho3,b3⟩;obtain ⟨A3,c3,rfl,_⟩:=id (Ints.of_own ho3))
   go_ret2
   rw [HE.out]
   exact ⟨_,rfl,row_le ho3 (by have:=HB0.out.size;have:=b2.size;omega),below_next (below_next HB0.out b2) b3⟩
 ·have HE:Hid (nfdR T (accE T xs) xs=([],accE T xs)):=Lib.hid (nfdR_err h0)
  have hb:(accE T xs != 0)=true:=by simpa using h0
  clear h0
  go_enter Tryz.func40,Tryz.ntmps40
  go_upto_region 1 with fail
  generalize w.alloc (.cells t.cells 26)=w1 at *
  obtain ⟨x0,x1,x2,x3,x4,x5,x6,x7,x8,x9,x10,x11⟩:=HT.out.1.tab
  go_wp2_with (go_at_call 37;refine HO.out.mono ?_;rintro e w2 ⟨u2,rfl,ho2,b2⟩;obtain ⟨A2,c2,rfl,_⟩:=id (Ints.of_own ho2);clear ho2)
  go_ret2
  rw [HE.out]
  exact ⟨_,rfl,World.ownsRow_nil _ _ _ _,below_next HB0.out b2⟩
end Go.Proofs.YtjafpikjpipbkaaGreatDoor
namespace Go.Proofs.YtjafpikjpipbkaaGreatDoor
open Go.RowKit ND
theorem same_step {xs ys:List Int} {k:Nat} {x:Int} (h:xs.take k=ys.take k) (hx:xs[k]?=some x) (hy:ys[k]?=some x):xs.take (k + 1)=ys.take (k + 1):=by
 obtain ⟨a,a'⟩:=List.getElem?_eq_some_iff.1 hx
 obtain ⟨b,b'⟩:=List.getElem?_eq_some_iff.1 hy
 rw [List.take_succ_eq_append_getElem a,List.take_succ_eq_append_getElem b,h,a',b']
theorem same_any (v u:Value) (xs ys:List Int) (w:World) (hv:Ints w w.heap.size .i64 v xs) (hu:Ints w w.heap.size .i64 u ys) :
  Calls Tryz.prog 14 #[v,u] w fun e w' => e=.returned (.bool (decide (xs=ys))) ∧ Below w.heap.size w w':=by
 obtain ⟨A,c,rfl,hc1,hc2,_,hcell⟩:=hv
 obtain ⟨A',c',rfl,hc1',hc2',_,hcell'⟩:=hu
 have HC:=Lib.hid hcell;clear hcell
 have HC':=Lib.hid hcell';clear hcell'
 have hl:xs.length ≤ 9223372036854775807:=by unfold maxLen at hc2;omega
 clear hc2 hc2' hc1 hc1'
 by_cases hlen:xs.length=ys.length
 ·have hb:((xs.length:Int) != (ys.length:Int))=false:=by rw [hlen];simp
  have hl1:xs.length ≤ ys.length:=by omega
  have hl2:ys.length ≤ xs.length:=by omega
  clear hlen
  obtain ⟨R,hR⟩:∃ R,R=decide (xs=ys):=⟨_,rfl⟩
  rw [← hR]
  have HR:=Lib.hid hR;clear hR
  go_enter Tryz.func14,Tryz.ntmps14
  go_wp2_with fail
  go_loopw [13] (fun i wr => ∃ k:Nat,k ≤ xs.length ∧ i=.int .i64 k ∧ Hid (xs.take k=ys.take k) ∧ Below w.heap.size w wr) (fun i _ => xs.length - (intOf i).toNat)
  case atStart => exact ⟨0,by omega,rfl,Lib.hid (by simp),Below.refl _ _⟩
  case round =>
   obtain ⟨k,hk,rfl,HS,hbel⟩:=hrel
   by_cases hlt:k < xs.length
   ·obtain ⟨x,hxk,_⟩:=get_of hlt
    obtain ⟨y,hyk,_⟩:=get_of (show k < ys.length by omega)
    obtain ⟨ad,rfl,ha,hce⟩:=HC.out k x hxk
    obtain ⟨ad',rfl,ha',hce'⟩:=HC'.out k y hyk
    have e1:=(hbel.cell (p:=ad.add k) (by rw [block_of_add];exact ha)).trans hce
    have e2:=(hbel.cell (p:=ad'.add k) (by rw [block_of_add];exact ha')).trans hce'
    have HX:=Lib.hid hxk
    have HY:=Lib.hid hyk
    clear hce hce' hxk hyk ha ha'
    have k0:(0:Int) ≤ (k:Int):=by omega
    have k1:(k:Int) < (xs.length:Int):=by omega
    have k2:(k:Int) < (ys.length:Int):=by omega
    by_cases hxy:x=y
    ·have hb2:(x != y)=false:=by rw [hxy];simp
     have HT:=Lib.hid (same_step HS.out HX.out (by rw [hxy];exact HY.out))
     clear hxy
     go_wp2_with fail
     go_quiet (fail)
     go_wp2_with fail
     go_roundw
     case rel => exact ⟨k + 1,by omega,by go_num,HT,below_drewN hbel nq⟩
     case measure => simp [intOf];omega
    ·have hb2:(x != y)=true:=by rw [bne_iff_ne];exact hxy
     have HN:Hid (R=false):=by
      refine Lib.hid ?_
      rw [HR.out,decide_eq_false_iff_not]
      rintro rfl
      have:=HX.out.symm.trans HY.out
      simp at this
      exact hxy this
     clear hxy
     go_wp2_with fail
     go_quiet (fail)
     go_wp2_with fail
     go_ret
     rw [HN.out]
     exact ⟨rfl,below_drewN hbel nq⟩
   ·have HN:Hid (R=true):=by
     refine Lib.hid ?_
     rw [HR.out,decide_eq_true_iff]
     have h:=HS.out
     rw [List.take_of_length_le (by omega),List.take_of_length_le (by omega)] at h
     exact h
    go_wp2_with fail
    go_ret
    rw [HN.out]
    exact ⟨rfl,hbel⟩
 ·have hb:((xs.length:Int) != (ys.length:Int))=true:=by rw [bne_iff_ne];omega
  have hn:decide (xs=ys)=false:=by
   rw [decide_eq_false_iff_not];rintro rfl;exact hlen rfl
  rw [hn]
  clear hn hlen
  go_enter Tryz.func14,Tryz.ntmps14
  go_wp2_with fail
  go_ret
  exact ⟨rfl,Below.refl _ _⟩
end Go.Proofs.YtjafpikjpipbkaaGreatDoor
namespace Go.Proofs.YtjafpikjpipbkaaGreatDoor
open Go.RowKit ND
theorem equal_any (v u:Value) (xs ys:List Int) (w:World) (hv:Ints w w.heap.size .i64 v xs) (hu:Ints w w.heap.size .i64 u ys) :
  Calls Tryz.prog 146 #[v,u] w fun e w' => e=.returned (.bool (decide (xs=ys))) ∧ Below w.heap.size w w':=by
 obtain ⟨A,c,rfl,hc1,hc2,_,hcell⟩:=hv
 obtain ⟨A',c',rfl,hc1',hc2',_,hcell'⟩:=hu
 have HC:=Lib.hid hcell;clear hcell
 have HC':=Lib.hid hcell';clear hcell'
 have hl:xs.length ≤ 9223372036854775807:=by unfold maxLen at hc2;omega
 clear hc2 hc2' hc1 hc1'
 by_cases hlen:xs.length=ys.length
 ·have hb:((xs.length:Int) != (ys.length:Int))=false:=by rw [hlen];simp
  have hl1:xs.length ≤ ys.length:=by omega
  have hl2:ys.length ≤ xs.length:=by omega
  clear hlen
  obtain ⟨R,hR⟩:∃ R,R=decide (xs=ys):=⟨_,rfl⟩
  rw [← hR]
  have HR:=Lib.hid hR;clear hR
  go_enter Tryz.func146,Tryz.ntmps146
  go_wp2_with fail
  go_loopw [13] (fun i wr => ∃ k:Nat,k ≤ xs.length ∧ i=.int .i64 k ∧ Hid (xs.take k=ys.take k) ∧ Below w.heap.size w wr) (fun i _ => xs.length - (intOf i).toNat)
  case atStart => exact ⟨0,by omega,rfl,Lib.hid (by simp),Below.refl _ _⟩
  case round =>
   obtain ⟨k,hk,rfl,HS,hbel⟩:=hrel
   by_cases hlt:k < xs.length
   ·obtain ⟨x,hxk,_⟩:=get_of hlt
    obtain ⟨y,hyk,_⟩:=get_of (show k < ys.length by omega)
    obtain ⟨ad,rfl,ha,hce⟩:=HC.out k x hxk
    obtain ⟨ad',rfl,ha',hce'⟩:=HC'.out k y hyk
    have e1:=(hbel.cell (p:=ad.add k) (by rw [block_of_add];exact ha)).trans hce
    have e2:=(hbel.cell (p:=ad'.add k) (by rw [block_of_add];exact ha')).trans hce'
    have HX:=Lib.hid hxk
    have HY:=Lib.hid hyk
    clear hce hce' hxk hyk ha ha'
    have k0:(0:Int) ≤ (k:Int):=by omega
    have k1:(k:Int) < (xs.length:Int):=by omega
    have k2:(k:Int) < (ys.length:Int):=by omega
    by_cases hxy:x=y
    ·have hb2:(x != y)=false:=by rw [hxy];simp
     have HT:=Lib.hid (same_step HS.out HX.out (by rw [hxy];exact HY.out))
     clear hxy
     go_wp2_with fail
     go_quiet (fail)
     go_wp2_with fail
     go_roundw
     case rel => exact ⟨k + 1,by omega,by go_num,HT,below_drewN hbel nq⟩
     case measure => simp [intOf];omega
    ·have hb2:(x != y)=true:=by rw [bne_iff_ne];exact hxy
     have HN:Hid (R=false):=by
      refine Lib.hid ?_
      rw [HR.out,decide_eq_false_iff_not]
      rintro rfl
      have:=HX.out.symm.trans HY.out
      simp at this
      exact hxy this
     clear hxy
     go_wp2_with fail
     go_quiet (fail)
     go_wp2_with fail
     go_ret
     rw [HN.out]
     exact ⟨rfl,below_drewN hbel nq⟩
   ·have HN:Hid (R=true):=by
     refine Lib.hid ?_
     rw [HR.out,decide_eq_true_iff]
     have h:=HS.out
     rw [List.take_of_length_le (by omega),List.take_of_length_le (by omega)] at h
     exact h
    go_wp2_with fail
    go_ret
    rw [HN.out]
    exact ⟨rfl,hbel⟩
 ·have hb:((xs.length:Int) != (ys.length:Int))=true:=by rw [bne_iff_ne];omega
  have hn:decide (xs=ys)=false:=by
   rw [decide_eq_false_iff_not];rintro rfl;exact hlen rfl
  rw [hn]
  clear hn hlen
  go_enter Tryz.func146,Tryz.ntmps146
  go_wp2_with fail
  go_ret
  exact ⟨rfl,Below.refl _ _⟩
end Go.Proofs.YtjafpikjpipbkaaGreatDoor
namespace Go.Proofs.YtjafpikjpipbkaaGreatDoor
open Go.RowKit ND
def nfcR (T:Tab) (xs:List Int):List Int × Int:=if (nfdR T (accE T xs) xs).2=0 then (nfcP T xs,0) else ([],(nfdR T (accE T xs) xs).2)
theorem nfdR_zero {T:Tab} {xs:List Int} (h:(nfdR T (accE T xs) xs).2=0):accE T xs=0 ∧ (flatD T xs).length ≤ 4096 ∧ (nfdR T (accE T xs) xs).1=nfdL T xs:=by
 by_cases h0:accE T xs=0
 ·rw [h0] at h ⊢
  by_cases hl:4096 < (flatD T xs).length
  ·rw [nfdR_full hl] at h;cases h
  ·rw [nfdR_ok (by omega)];exact ⟨rfl,by omega,rfl⟩
 ·rw [nfdR_err h0] at h;exact absurd h h0
theorem nfc8_any (t:Tv) (T:Tab) (v:Value) (xs:List Int) (w:World) (ht:TabR w w.heap.size t T) (hg:Glob w) (hv:Ints w w.heap.size .i64 v xs) :
  Calls Tryz.prog 10 #[t.val,v] w (RetTwo w (nfcR T xs).1 (nfcR T xs).2):=by
 obtain ⟨A,c,rfl,_⟩:=id hv
 have HB0:Hid (Below w.heap.size w (w.alloc (.cells t.cells 26))):=Lib.hid ((Below.refl _ _).alloc (Nat.le_refl _) _)
 have HT:Hid (Tbl (w.alloc (.cells t.cells 26)) w.heap.size t T):=Lib.hid ⟨Blk.new _ _ _,ht.later HB0.out⟩
 have HV:=Lib.hid (hv.later HB0.out)
 have HO:=Lib.hid (nfd7_any t T _ xs _ HT.out.2 (hg.later HB0.out) HV.out)
 have HZ:=Lib.hid (fun h => nfdR_zero (T:=T) (xs:=xs) h)
 have HE:Hid (nfcR T xs=if (nfdR T (accE T xs) xs).2=0 then (nfcP T xs,0) else ([],(nfdR T (accE T xs) xs).2)):=Lib.hid rfl
 clear ht hv hg
 obtain ⟨ys,er,hr⟩:∃ ys er,nfdR T (accE T xs) xs=(ys,er):=⟨_,_,rfl⟩
 rw [hr] at HO HZ HE
 clear hr
 simp only at HO HZ HE
 by_cases h0:er=0
 ·obtain ⟨hacc,hfl,hys⟩:=HZ.out h0
  subst h0
  have hck:=(accE_zero hacc).1
  have hyl:ys.length ≤ 4096:=by rw [hys,nfdL_length];exact hfl
  have HF:=Lib.hid (fun W u (h:TabR W W.heap.size t T) (h2:Ints W W.heap.size .i64 u ys) => form8_any t T u ys W h h2 hck (by omega))
  have HR:Hid (nfcR T xs=(formL T.classOf (pairP T) ys,0)):=Lib.hid (by rw [HE.out,if_pos rfl,hys];rfl)
  clear hacc hfl hys hck HZ HE
  generalize formL T.classOf (pairP T) ys=zs at *
  go_enter Tryz.func10,Tryz.ntmps10
  go_upto_region 1 with fail
  generalize w.alloc (.cells t.cells 26)=w1 at *
  obtain ⟨x0,x1,x2,x3,x4,x5,x6,x7,x8,x9,x10,x11⟩:=HT.out.1.tab
  go_upto_region 2 with (go_at_call 40;refine HO.out.mono ?_;rintro e w2 ⟨u2,rfl,ho2,b2⟩;obtain ⟨A2,c2,rfl,_⟩:=id (Ints.of_own ho2);have HU:=Lib.hid (Ints.of_own ho2);clear ho2)
  clear x0 x1 x2 x3 x4 x5 x6 x7 x8 x9 x10 x11
  obtain ⟨x0,x1,x2,x3,x4,x5,x6,x7,x8,x9,x10,x11⟩:=(HT.out.later b2).1.tab
  have HT2:=Lib.hid (HT.out.later b2).2
  go_wp2_with (go_at_call 41;refine (HF.out _ _ HT2.out HU.out).mono ?_;rintro e w3 ⟨u3,rfl,ho3,b3⟩;obtain ⟨A3,c3,rfl,_⟩:=id (Ints.of_own ho3))
  go_ret2
  rw [HR.out]
  exact ⟨_,rfl,row_le ho3 (by have:=HB0.out.size;have:=b2.size;omega),below_next (below_next HB0.out b2) b3⟩
 ·have HR:Hid (nfcR T xs=([],er)):=Lib.hid (by rw [HE.out,if_neg h0])
  have hb:(er != 0)=true:=by simpa using h0
  clear h0 HZ HE
  go_enter Tryz.func10,Tryz.ntmps10
  go_upto_region 1 with fail
  generalize w.alloc (.cells t.cells 26)=w1 at *
  obtain ⟨x0,x1,x2,x3,x4,x5,x6,x7,x8,x9,x10,x11⟩:=HT.out.1.tab
  go_wp2_with (go_at_call 40;refine HO.out.mono ?_;rintro e w2 ⟨u2,rfl,ho2,b2⟩;obtain ⟨A2,c2,rfl,_⟩:=id (Ints.of_own ho2);clear ho2)
  go_ret2
  rw [HR.out]
  exact ⟨_,rfl,World.ownsRow_nil _ _ _ _,below_next HB0.out b2⟩
def isNfcB (T:Tab) (xs:List Int):Bool:=(nfcR T xs).2 == 0 && decide ((nfcR T xs).1=xs)
theorem isNfc_any (t:Tv) (T:Tab) (v:Value) (xs:List Int) (w:World) (ht:TabR w w.heap.size t T) (hg:Glob w) (hv:Ints w w.heap.size .i64 v xs) :
  Calls Tryz.prog 105 #[t.val,v] w fun e w' => e=.returned (.bool (isNfcB T xs)) ∧ Below w.heap.size w w':=by
 obtain ⟨A,c,rfl,_⟩:=id hv
 have HB0:Hid (Below w.heap.size w (w.alloc (.cells t.cells 26))):=Lib.hid ((Below.refl _ _).alloc (Nat.le_refl _) _)
 have HT:Hid (Tbl (w.alloc (.cells t.cells 26)) w.heap.size t T):=Lib.hid ⟨Blk.new _ _ _,ht.later HB0.out⟩
 have HV:=Lib.hid (hv.later HB0.out)
 have HO:=Lib.hid (nfc8_any t T _ xs _ HT.out.2 (hg.later HB0.out) HV.out)
 clear hv ht hg
 unfold isNfcB
 obtain ⟨ys,er,hr⟩:∃ ys er,nfcR T xs=(ys,er):=⟨_,_,rfl⟩
 rw [hr] at HO ⊢
 clear hr
 show Calls _ _ _ _ fun e w' => e=.returned (.bool (er == 0 && decide (ys=xs))) ∧ _
 obtain ⟨R,hR⟩:∃ R,R=decide (ys=xs):=⟨_,rfl⟩
 have HR:=Lib.hid hR
 rw [← hR]
 clear hR
 go_enter Tryz.func105,Tryz.ntmps105
 go_upto_region 1 with fail
 generalize w.alloc (.cells t.cells 26)=w1 at *
 obtain ⟨x0,x1,x2,x3,x4,x5,x6,x7,x8,x9,x10,x11⟩:=HT.out.1.tab
 go_upto_region 2 with (go_at_call 10;refine HO.out.mono ?_;rintro e w2 ⟨u,rfl,ho2,b2⟩;obtain ⟨A2,c2,rfl,_⟩:=id (Ints.of_own ho2);have HU:=Lib.hid (Ints.of_own ho2);clear ho2)
 have HEQ:Hid (∀ V,Below w2.heap.size w2 V → Calls Tryz.prog 146 #[.slice A2 ys.length c2,.slice A xs.length c] V fun e V' => e=.returned (.bool R) ∧ Below V.heap.size V V'):=Lib.hid fun V hV => by
  have h:=equal_any _ _ ys xs V (HU.out.later hV) ((HV.out.later b2).later hV)
  rw [← HR.out] at h;exact h
 clear x0 x1 x2 x3 x4 x5 x6 x7 x8 x9 x10 x11
 by_cases h0:er=0
 ·have hb:(er == 0)=true:=by rw [h0];rfl
  clear h0
  go_wp2_with (go_at_call 146;refine (HEQ.out _ (Below.refl _ _)).mono ?_;rintro e w3 ⟨rfl,b3⟩)
  go_ret
  exact ⟨by rw [hb];rfl,below_next (below_next HB0.out b2) b3⟩
 ·have hb:(er == 0)=false:=by simpa using h0
  clear h0
  go_wp2_with fail
  go_ret
  exact ⟨by rw [hb];rfl,below_next HB0.out b2⟩
end Go.Proofs.YtjafpikjpipbkaaGreatDoor
