/-
  Merged texts: lemmas and walks that the last text of this claim leans on.
-/
import Derived.Test.YtjafpikjpipbkaaGreatDoorMgTS10
import Derived.Deep.Cut
import Derived.Deep.CutRange
import Derived.Deep.LoopGhost
import Derived.Test.YtjafpikjpipbkaaGreatDoorMgTS21
import Derived.Test.YtjafpikjpipbkaaGreatDoorMgTS15
import Derived.Deep.CutBlock
set_option maxRecDepth 100000
set_option maxHeartbeats 40000000
namespace Go.Proofs.YtjafpikjpipbkaaGreatDoor
open Go.RowKit ND
def RetMaps (w:World) (g b sb:Nat) (v:Value) (n:Nat) (c0 c1 c2 c3 c4 c6 c7 c9 c10 c11:Value) (e:Ending) (w':World):Prop :=
 ∃ v5 v8 S M,e=.returned (.tuple #[]) ∧ Blk w' b 26 #[c0,c1,c2,c3,c4,v5,c6,c7,v8,c9,c10,c11] ∧ Spans (veil [g,b] w') w'.heap.size v5 S ∧ Mapps (veil [g,b] w') w'.heap.size v8 M ∧ MapN 28 S M ∧
  Src w' g v n ∧ onlyIn [g,b,sb] w w'
theorem set_same {l:List Int} {k:Nat} {x:Int} (h:l[k]?=some x):l.set k x=l:=by
 refine List.ext_getElem? fun i => ?_
 rw [List.getElem?_set]
 split
 ·rename_i e;subst e;rw [h];have:=(List.getElem?_eq_some_iff.1 h).1;simp [this]
 ·rfl
def mapL (l:List Int):Prop:=∃ a,(a=97 ∨ a=98 ∨ a=99) ∧ (l=[a] ∨ l=[a,46])
theorem keepMaps_any (w:World) (g b sb:Nat) (v:Value) (xs:List Int) (c0 c1 c2 c3 c4 c6 c7 c9 c10 c11:Value) (st:List Int) (sc:Nat) (hv:Ints w g .i64 v xs) (hs:Src w g v xs.length)
  (hb:Blk w b 26 #[c0,c1,c2,c3,c4,.slice none 0 0,c6,c7,.slice none 0 0,c9,c10,c11]) (hgb:g < b) (hbs:b < sb)
  (hst:StRow w sb 0 st) (hst1:∀ x ∈ st,0 ≤ x ∧ x ≤ 4 ∧ x ≠ 3) (hst2:st.length=28) :
  Calls Tryz.prog 24 #[.pointer (some ⟨g,0,none⟩),.pointer (some ⟨b,0,none⟩),.slice (some ⟨sb,0,none⟩) 28 sc] w (RetMaps w g b sb v xs.length c0 c1 c2 c3 c4 c6 c7 c9 c10 c11):=by
 have HV:=Lib.hid hv
 have HT:=Lib.hid hst
 have hsb:sb < w.heap.size:=by obtain ⟨cs,h,_⟩:=hst;exact h.lt
 have HS:=Lib.hid hs
 have HB:=Lib.hid hb
 clear hv hs hb hst
 go_enter Tryz.func24,Tryz.ntmps24
 go_wp2_with (go_at_call 19;refine (pool_any _).mono ?_;rintro e w1 ⟨rfl,rfl⟩)
 have hI:MSt w g b sb xs.length v c0 c1 c2 c3 c4 c6 c7 c9 c10 c11 0 (.slice none 0 0) (.slice none 0 0) [] [] st (w.alloc (.cells (poolL.map (Value.int .i64)).toArray 3)) :=
  ⟨HB.out.alloc _,Spans.none_,OwnM.nil _ _ _,(by obtain ⟨i,h1,h2⟩:=HS.out;exact ⟨i,h1,h2.alloc _⟩),onlyIn.of_below (Below.alloc (Below.refl _ _) (Nat.le_refl _) _),Blk.new _ _ _,(by obtain ⟨cs,h1,h2⟩:=HT.out;exact ⟨cs,h1.alloc _,h2⟩)⟩
 have HI:=Lib.hid hI
 clear hI HS HB HT
 generalize w.alloc (.cells (poolL.map (Value.int .i64)).toArray 3)=w1 at *
 go_loopg [13] 28 (fun gk iv wr => ∃ (k:Nat) (v5 v8:Value) (S:List Sp) (M:List Mp),iv=.int .i64 k ∧ k + gk=28 ∧ Hid (MSt w g b sb xs.length v c0 c1 c2 c3 c4 c6 c7 c9 c10 c11 k v5 v8 S M st wr) ∧ Hid (MapN k S M))
 case atStart => exact ⟨0,_,_,[],[],rfl,rfl,HI,Lib.hid (MapN.nil 0)⟩
 case round =>
  obtain ⟨k,v5,v8,S,M,rfl,hk,HM,HN⟩:=hrel
  by_cases hlt:k < 28
  ·obtain ⟨c,hc,_⟩:=get_of (show k < poolL.length from hlt)
   have d0:wr.cell? ⟨w.heap.size,k,none⟩=some (.int .i64 c):=HM.out.pool.at_ (by simp [hc])
   have HNX:Hid (∀ (W:World) (m:Int),onlyIn [g,b,sb] w W → Src W g v xs.length → 0 < m → m ≤ 1000000 → Calls Tryz.prog 18 #[.pointer (some ⟨g,0,none⟩),.int .i64 m] W (RetNext W g v xs.length m)) :=
    Lib.hid fun W m h1 h2 h3 h4 => next_src W g v xs m (HV.out.below (h1.below (by intro x hx;simp at hx;omega) (by omega))) h2 h3 h4
   have hdl:decide ((k:Int) < (28:Int))=true:=by simp;omega
   go_upto_region 4 with fail
   go_cut [32] from 18 to 32 (fun s32 wx => ∃ d:Bool,s32=.bool d ∧ Hid (MSt w g b sb xs.length v c0 c1 c2 c3 c4 c6 c7 c9 c10 c11 k v5 v8 S M st wx))
   case first =>
    have hN2:=HNX.out wr 2 HM.out.oi HM.out.src (by decide) (by decide)
    by_cases ha:c=128512
    ·have n1:(c == 128512)=true:=by simpa using ha
     go_wp2;go_meet;case rel => exact ⟨true,rfl,HM⟩
    ·have n1:(c == 128512)=false:=by simpa using ha
     by_cases hb:c=7684
     ·have n2:(c == 7684)=true:=by simpa using hb
      go_wp2;go_meet;case rel => exact ⟨true,rfl,HM⟩
     ·have n2:(c == 7684)=false:=by simpa using hb
      by_cases hd:c=947
      ·have n3:(c == 947)=true:=by simpa using hd
       clear ha hb hd
       go_wp2_with (go_at_call 18;refine hN2.mono ?_;rintro e w2 ⟨q,rfl,q0,q1,hs2,hg2⟩)
       all_goals go_meet
       all_goals case rel => exact ⟨_,rfl,Lib.hid (HM.out.only hgb hbs hsb (onlyIn.of_grown hg2 (by simp)) hs2)⟩
      ·have n3:(c == 947)=false:=by simpa using hd
       go_wp2;go_meet;case rel => exact ⟨false,rfl,HM⟩
   case rest =>
    obtain ⟨d,rfl,HM1⟩:=hcut
    clear d0 HM
    go_upto_if 32 with fail
    go_cut [] from 33 to 62 (fun wx => ∃ v8' M' x,Hid (MSt w g b sb xs.length v c0 c1 c2 c3 c4 c6 c7 c9 c10 c11 k v5 v8' S M' (st.set k x) wx) ∧ Hid ((M'=M ∧ 0 ≤ x ∧ x ≤ 4 ∧ x ≠ 3) ∨ (x=3 ∧ ∃ l,M'=M ++ [(c,l)] ∧ mapL l)))
    case first =>
     cases d
     ·obtain ⟨x,hx,hxm⟩:=get_of (show k < st.length by omega)
      go_wp2
      go_meet
      case rel => exact ⟨v8,M,x,Lib.hid (by rw [set_same hx];exact HM1.out),Lib.hid (.inl ⟨rfl,hst1 x hxm⟩)⟩
     ·have hN0:=HNX.out wc 3 HM1.out.oi HM1.out.src (by decide) (by decide)
      go_upto_region 6 with (go_at_call 18;refine hN0.mono ?_;rintro e w2 ⟨q,rfl,q0,q1,hs2,hg2⟩)
      have HM2:=Lib.hid (HM1.out.only hgb hbs hsb (onlyIn.of_grown hg2 (by simp)) hs2)
      have hX5:XAt ((w2.alloc (.cells #[.int .i64 (97 + q)] 3)).alloc (.cells #[.int .i64 c,.slice (some ⟨w2.heap.size,0,none⟩) 1 1] 61)) (w2.heap.size + 1) w2.heap.size c (.slice (some ⟨w2.heap.size,0,none⟩) 1 1) [97 + q] :=
       ⟨by have h:=Blk.new (w2.alloc (.cells #[.int .i64 (97 + q)] 3)) 61 #[.int .i64 c,.slice (some ⟨w2.heap.size,0,none⟩) 1 1];simpa using h,(own_new w2 3 [97 + q] (by simp)).alloc _⟩
      have hO5:onlyIn [g] w2 ((w2.alloc (.cells #[.int .i64 (97 + q)] 3)).alloc (.cells #[.int .i64 c,.slice (some ⟨w2.heap.size,0,none⟩) 1 1] 61)) :=
       onlyIn.of_below (((Below.refl _ _).alloc (Nat.le_refl _) _).alloc (by simp) _)
      have hS5:Src ((w2.alloc (.cells #[.int .i64 (97 + q)] 3)).alloc (.cells #[.int .i64 c,.slice (some ⟨w2.heap.size,0,none⟩) 1 1] 61)) g v xs.length:=by
       obtain ⟨i,h1,h2⟩:=hs2
       exact ⟨i,h1,(h2.alloc _).alloc _⟩
      have hsb2:sb < w2.heap.size:=by have h1:=HM1.out.oi.2.2.2.1;have h2:=hg2.size;omega
      have hz5:w2.heap.size + 1 < ((w2.alloc (.cells #[.int .i64 (97 + q)] 3)).alloc (.cells #[.int .i64 c,.slice (some ⟨w2.heap.size,0,none⟩) 1 1] 61)).heap.size:=by simp
      have HX5:=Lib.hid hX5
      have HO5:=Lib.hid hO5
      have HS5:=Lib.hid hS5
      clear hX5 hO5 hS5 hs2 hg2 HM1
      generalize (w2.alloc (.cells #[.int .i64 (97 + q)] 3)).alloc (.cells #[.int .i64 c,.slice (some ⟨w2.heap.size,0,none⟩) 1 1] 61)=W5 at *
      have HNW:Hid (∀ (W:World) (m:Int),onlyIn [g] w2 W → Src W g v xs.length → 0 < m → m ≤ 1000000 → Calls Tryz.prog 18 #[.pointer (some ⟨g,0,none⟩),.int .i64 m] W (RetNext W g v xs.length m)) :=
       Lib.hid fun W m h1 h2 h3 h4 => HNX.out W m (HM2.out.only hgb hbs hsb h1 h2).oi h2 h3 h4
      obtain ⟨B0,HB0⟩:∃ B0,Hid (B0=w2.heap.size):=⟨_,Lib.hid rfl⟩
      rw [← HB0.out] at hsb2 hz5 HX5
      simp only [← HB0.out]
      have hN6:=HNW.out W5 2 HO5.out HS5.out (by decide) (by decide)
      go_upto_if 41 with (go_at_call 18;refine hN6.mono ?_;rintro e w6 ⟨q6,rfl,q60,q61,hs6,hg6⟩;have HO6:=Lib.hid (HO5.out.trans (onlyIn.of_grown hg6 (by simp)));have HS6:=Lib.hid hs6;have HX6:=Lib.hid (HX5.out.grown hg6 (by omega) (by omega));have hz6:=Nat.le_trans hz5 hg6.size;clear hs6 hg6)
      go_cut [] from 41 to 46 (fun wx => ∃ sv l,Hid (onlyIn [g] w2 wx) ∧ Hid (Src wx g v xs.length) ∧ Hid (XAt wx (B0 + 1) B0 c sv l) ∧ Hid (mapL l) ∧ B0 + 1 < wx.heap.size)
      case first =>
       by_cases h46:q6=0
       ·have n6:(q6 == 0)=true:=by simpa using h46
        have hb6:=HX6.out.1
        have d1:=hb6.at_ (i:=1) rfl
        have HB6:=Lib.hid hb6
        clear hb6 h46
        obtain ⟨i0,hi,hz0,hz1,hz2⟩:=info_parts Tryz.infoInt'
        go_wp2_with (at_builtin;refine wpList_append_ints (by rfl) (.tmp 43) (.tmp 44) rfl Tryz.underlying22 hi hz0 hz1 hz2 (w6.heap.size + 1) B0 (.slice (some ⟨B0,0,none⟩) 1 1) [97 + q] (.slice (some ⟨w6.heap.size,0,none⟩) 1 1) [46] rfl (HX6.out.2.alloc _) rfl (by have h:=Ints.of_own (own_new w6 3 [46] (by simp));simpa using h) (by simp) (by simp;omega) ?_;intro v7 w7 hown7 hg7 _;have hb7:=(HB6.out.alloc (.cells #[.int .i64 46] 3)).grown hg7 (by simp [Value.ownBlock]);have e7:=hb7.at_ (i:=1) rfl;have f7:=hb7.free 1;have HB7:=Lib.hid hb7;have HOW7:=Lib.hid hown7;obtain ⟨A7,m7,c7',rfl⟩:=own_slice HOW7.out;have HG7:=Lib.hid hg7;clear hb7 hown7 hg7)
        go_meet
        case rel =>
         have hB0:=HB0.out
         refine ⟨_,[97 + q,46],Lib.hid (((HO6.out.far (World.grownBy_alloc w6 _ none) (by simp)).far HG7.out ?_).far (grown_setCell (grown_refl w7 (some (B0 + 1))) 1 _) ?_),Lib.hid (((HS6.out.alloc _).grown HG7.out ?_).grown (grown_setCell (grown_refl w7 (some (B0 + 1))) 1 _) ?_),Lib.hid (XAt.put1 HB7.out HOW7.out),Lib.hid ⟨97 + q,by omega,.inr rfl⟩,?_⟩
         ·intro x hx;simp [Value.ownBlock] at hx;omega
         ·intro x hx;simp at hx;omega
         ·simp [Value.ownBlock];omega
         ·simp;omega
         ·have:=HG7.out.size;simp at this ⊢;omega
       ·have n6:(q6 == 0)=false:=by simpa using h46
        clear h46
        go_wp2
        go_meet
        case rel => exact ⟨_,_,HO6,HS6,HX6,Lib.hid ⟨97 + q,by omega,.inl rfl⟩,by omega⟩
      case rest =>
       obtain ⟨sv,l,HO7,HS7,HX7,HL,hz7⟩:=hcut
       clear HO6 HS6 HX6 hz6 HO5 HS5 HX5 hz5
       have hN8:=HNW.out wc 3 HO7.out HS7.out (by decide) (by decide)
       go_upto_if 49 with (go_at_call 18;refine hN8.mono ?_;rintro e w8 ⟨q8,rfl,q80,q81,hs8,hg8⟩;have HO8:=Lib.hid (HO7.out.trans (onlyIn.of_grown hg8 (by simp)));have HS8:=Lib.hid hs8;have HX8:=Lib.hid (HX7.out.grown hg8 (by omega) (by omega));have hz8:=Nat.lt_of_lt_of_le hz7 hg8.size;clear hs8 hg8)
       have HM8:=Lib.hid (HM2.out.only hgb hbs hsb HO8.out HS8.out)
       by_cases h8:0 < q8
       ·go_upto_region 9 with fail
        go_cut [] from 49 to 59 (fun wx => ∃ v8',Hid (MSt w g b sb xs.length v c0 c1 c2 c3 c4 c6 c7 c9 c10 c11 k v5 v8' S (M ++ [(c,l)]) st wx))
        case first =>
         have hb8:=HM8.out.blk
         have e8:=hb8.at_ (i:=8) rfl
         have f8:=hb8.free 8
         have hx8:=HX8.out.1
         have x0:=hx8.at_ (i:=0) rfl
         have x1:=hx8.at_ (i:=1) rfl
         have ea:=(hb8.alloc (.cells #[.int .i64 c,sv] 61)).at_ (i:=8) rfl
         have HBA:=Lib.hid (hb8.alloc (.cells #[.int .i64 c,sv] 61))
         have HOX:Hid (onlyIn [] w8 (w8.alloc (.cells #[.int .i64 c,sv] 61)).drew):=Lib.hid (onlyIn.of_below ((Below.refl _ _).alloc (Nat.le_refl _) _).drew)
         have HMX:=Lib.hid (HM8.out.only hgb hbs hsb (HOX.out.more (by simp)) (show Src (w8.alloc (.cells #[.int .i64 c,sv] 61)).drew g v xs.length from HM8.out.src.alloc _))
         have HIX:Hid (Ints (veil ([g,b,sb] ++ v8.ownBlock.toList) (w8.alloc (.cells #[.int .i64 c,sv] 61)).drew) (w8.alloc (.cells #[.int .i64 c,sv] 61)).drew.heap.size .i64 sv l):=by
          have h:=Ints.veil_own (S:=[g,b,sb] ++ v8.ownBlock.toList) (show World.ownsRow (w8.alloc (.cells #[.int .i64 c,sv] 61)).drew B0 3 1 sv l.length (l.map (Value.int .i64)) from HX8.out.2.alloc _) (fun q hq => by
           rcases List.mem_append.1 hq with hq | hq
           ·simp at hq;omega
           ·rw [Option.mem_toList] at hq;have:=(HM2.out.own q hq).2;have:=HB0.out;omega)
          rw [veil_size] at h
          exact Lib.hid h
         have HKX:Hid (Blk (w8.alloc (.cells #[.int .i64 c,sv] 61)).drew w8.heap.size 61 #[.int .i64 c,sv]):=Lib.hid (Blk.new w8 61 #[.int .i64 c,sv])
         have hml:M.length ≤ 1000000:=by have h:=HN.out.same;have h2:=colN_len HN.out.col;have:=congrArg List.length h;simp [keysOf] at this;have:=List.length_filter_le (fun s:Sp => decide (s.2.2=3)) S;omega
         have hsz8:w.heap.size + 1 ≤ (w8.alloc (.cells #[.int .i64 c,sv] 61)).drew.heap.size:=by have h1:=HM8.out.oi.2.2.2.1;simp;omega
         obtain ⟨i0,hi,hz0,hz1,hz2⟩:=info_parts Tryz.infoMap
         clear hb8 hx8
         go_region_law (first
          | (refine step_app_map rfl (.tmp 54) (.tmp 56) rfl Tryz.underlying24 hi _ hz0 hz1 hz2 rfl [g,b,sb] (w.heap.size + 1) v8 M w8.heap.size c sv l rfl rfl HMX.out.om HKX.out HIX.out hml hsz8 ?_;intro v9 w9 hM9 hg9 hr9 hs9;have hb9:=(show Blk (w8.alloc (.cells #[.int .i64 c,sv] 61)).drew b 26 #[c0,c1,c2,c3,c4,v5,c6,c7,v8,c9,c10,c11] from HBA.out).grown hg9 (fun e => by have:=(HM8.out.own b e.symm).1;omega);have e9:=hb9.at_ (i:=8) rfl;have f9:=hb9.free 8;have HM9:=Lib.hid hM9;have HG9:=Lib.hid hg9;have HR9:=Lib.hid hr9;obtain ⟨A9,m9,c9',rfl⟩:=hs9;clear hb9 hM9 hg9 hr9))
         all_goals go_wp2
         all_goals go_meet
         all_goals case rel => exact ⟨_,Lib.hid (HM8.out.append hgb hbs hsb HOX.out HG9.out HR9.out HM9.out)⟩
        case rest =>
         obtain ⟨v8',HM9⟩:=hcut
         clear HM8 HX8 HO8 HS8
         have k1:(k:Int) < 28:=by omega
         obtain ⟨ct,ht1,ht2⟩:=HM9.out.row
         obtain ⟨x,hx,hxm⟩:=get_of (show k < st.length by omega)
         have d1:=ht1.at_ (ht2 k x (Nat.le_refl _) hx)
         have f1:=ht1.free k
         clear ht1 ht2 hx hxm hdl
         go_wp2
         go_meet
         case rel => exact ⟨v8',_,3,Lib.hid (HM9.out.status hgb hbs hsb 3),Lib.hid (.inr ⟨rfl,l,rfl,HL.out⟩)⟩
       ·obtain ⟨x,hx,hxm⟩:=get_of (show k < st.length by omega)
        go_wp2
        go_meet
        case rel => exact ⟨v8,M,x,Lib.hid (by rw [set_same hx];exact HM8.out),Lib.hid (.inl ⟨rfl,hst1 x hxm⟩)⟩
    case rest =>
     obtain ⟨v8',M',x,HM2,HX⟩:=hcut
     clear HM1 HNX
     obtain ⟨ct,ht1,ht2⟩:=HM2.out.row
     have d1:=ht1.at_ (ht2 k x (Nat.le_refl _) (by rw [List.getElem?_set_self (by omega)]))
     have e5:=HM2.out.blk.at_ (i:=5) rfl
     have hsl:S.length ≤ 1000000:=by have:=colN_len HN.out.col;omega
     have hsu:Hid (Spans wc wc.heap.size v5 S):=Lib.hid HM2.out.sp.unveil
     clear ht1 ht2 hdl
     have k1:(k:Int) < 28:=by omega
     go_wp2
     go_region_law (go_simp;go_at_call 22;refine (add_any wc.drew b 5 26 #[c0,c1,c2,c3,c4,v5,c6,c7,v8',c9,c10,c11] v5 S c c 0 x (show Blk wc.drew b 26 #[c0,c1,c2,c3,c4,v5,c6,c7,v8',c9,c10,c11] from HM2.out.blk) rfl (show Spans wc.drew wc.drew.heap.size v5 S from hsu.out) hsl).mono ?_;intro e w5 hret;obtain ⟨v5',S',rfl,hM5,hx0,hx1⟩:=HM2.out.add hgb hbs hsb hret;have HM5:=Lib.hid hM5;clear hret hM5;have HX0:=Lib.hid hx0;have HX1:=Lib.hid hx1;clear hx0 hx1)
     all_goals go_wp2
     go_roundg (27 - k)
     case measure => omega
     case rel =>
      refine ⟨k + 1,v5',v8',S',M',by go_num,by omega,Lib.hid (HM5.out.up fun j y hj hy => by rw [List.getElem?_set_ne (by omega)];exact hy),Lib.hid ?_⟩
      rcases HX.out with ⟨rfl,h1,h2,h3⟩ | ⟨h,l,rfl,hl⟩
      ·by_cases h0:x ≤ 0
       ·rw [HX0.out h0];exact HN.out.skip
       ·rw [HX1.out (by omega)];exact HN.out.plain hc (by omega) (by omega) (by omega)
      ·rw [HX1.out (by omega)];subst h;exact HN.out.mapped hc hl
  ·have hk28:k=28:=by omega
   subst hk28
   go_wp2
   go_end0
   refine ⟨v5,v8,S,M,rfl,HM.out.blk,?_,?_,HN.out,HM.out.src,HM.out.oi⟩
   ·exact HM.out.sp.reveil fun p x _ hp hx => ⟨fun h => hp (List.mem_append_left _ (by simp at h ⊢;omega)),hx⟩
   ·have h:=HM.out.om.mapps (by intro x hx;simp at hx;omega)
    rw [veil_size] at h
    exact h.reveil fun p x _ hp hx => ⟨fun h => hp (by simp at h ⊢;omega),hx⟩
end Go.Proofs.YtjafpikjpipbkaaGreatDoor
namespace Go.Proofs.YtjafpikjpipbkaaGreatDoor
open Go.RowKit ND
def RetDec (w:World) (g b:Nat) (v:Value) (n:Nat) (c0 c1 c2 c3 c4 c5 c6 c7 c8 c11:Value) (e:Ending) (w':World):Prop :=
 ∃ v9 v10 D X,e=.returned (.tuple #[]) ∧ Blk w' b 26 #[c0,c1,c2,c3,c4,c5,c6,c7,c8,v9,v10,c11] ∧ Mapps (veil (List.range w.heap.size) w') w'.heap.size v9 D ∧ Ints (veil (List.range w.heap.size) w') w'.heap.size .i64 v10 X ∧ DecN 5 D X ∧
  Src w' g v n ∧ onlyIn [g,b] w w'
def decL (k:Nat) (l:List Int):Prop:=∃ a r,l=a :: r ∧ (a=97 ∨ a=98 ∨ 7680 ≤ a ∧ a < 7680 + (k:Int)) ∧ (r=[] ∨ ∃ b,r=[b] ∧ (b=769 ∨ b=776 ∨ b=803 ∨ b=837 ∨ b=945))
def fiveL:List Int:=[769,776,803,837,945]
theorem five_at {j:Nat} {y:Int} (h:fiveL[j]?=some y):(#[Value.int .i64 769,.int .i64 776,.int .i64 803,.int .i64 837,.int .i64 945]:Array Value)[j]?=some (.int .i64 y):=by
 have e:(#[Value.int .i64 769,.int .i64 776,.int .i64 803,.int .i64 837,.int .i64 945]:Array Value)=(fiveL.map (Value.int .i64)).toArray:=rfl
 rw [e,List.getElem?_toArray,List.getElem?_map,h];rfl
theorem decomps_any (w:World) (g b:Nat) (v:Value) (xs:List Int) (c0 c1 c2 c3 c4 c5 c6 c7 c8 c11:Value) (hv:Ints w g .i64 v xs) (hs:Src w g v xs.length)
  (hb:Blk w b 26 #[c0,c1,c2,c3,c4,c5,c6,c7,c8,.slice none 0 0,.slice none 0 0,c11]) (hgb:g < b) :
  Calls Tryz.prog 23 #[.pointer (some ⟨g,0,none⟩),.pointer (some ⟨b,0,none⟩)] w (RetDec w g b v xs.length c0 c1 c2 c3 c4 c5 c6 c7 c8 c11):=by
 have hbw:b < w.heap.size:=hb.lt
 have HI:Hid (DSt w g b xs.length v c0 c1 c2 c3 c4 c5 c6 c7 c8 c11 (.slice none 0 0) (.slice none 0 0) [] [] w) :=
  Lib.hid ⟨hb,OwnM.nil _ _ _,World.ownsRow_nil _ _ _ _,hs,onlyIn.refl _ _⟩
 have HV:=Lib.hid hv
 clear hv hs hb
 have HNX:Hid (∀ (W:World) (m:Int),onlyIn [g,b] w W → Src W g v xs.length → 0 < m → m ≤ 1000000 → Calls Tryz.prog 18 #[.pointer (some ⟨g,0,none⟩),.int .i64 m] W (RetNext W g v xs.length m)) :=
  Lib.hid fun W m h1 h2 h3 h4 => next_src W g v xs m (HV.out.below (h1.below (by intro x hx;simp at hx;omega) (by omega))) h2 h3 h4
 go_enter Tryz.func23,Tryz.ntmps23
 go_wp2
 go_loopg [4] 5 (fun gk iv wr => ∃ (k:Nat) (v9 v10:Value) (D:List Mp) (X:List Int),iv=.int .i64 k ∧ k + gk=5 ∧ D.length ≤ k ∧ X.length ≤ k ∧ Hid (DSt w g b xs.length v c0 c1 c2 c3 c4 c5 c6 c7 c8 c11 v9 v10 D X wr) ∧ Hid (DecN k D X))
 case atStart => exact ⟨0,_,_,[],[],rfl,rfl,by simp,by simp,HI,Lib.hid (DecN.nil 0)⟩
 case round =>
  obtain ⟨k,v9,v10,D,X,rfl,hk,hDl,hXl,HM,HN⟩:=hrel
  by_cases hlt:k < 5
  ·have hN0:=HNX.out wr 4 HM.out.oi HM.out.src (by decide) (by decide)
   have hdl:decide ((k:Int) < (5:Int))=true:=by simp;omega
   go_upto_region 4 with (go_at_call 18;refine hN0.mono ?_;rintro e w1 ⟨q,rfl,q0,q1,hs1,hg1⟩)
   ·go_roundg (4 - k)
    case measure => omega
    case rel => exact ⟨k + 1,v9,v10,D,X,by go_num,by omega,by omega,by omega,Lib.hid (HM.out.only hgb hbw (onlyIn.of_grown hg1 (by simp)) hs1),Lib.hid HN.out.skip⟩
   ·have HM1:=Lib.hid (HM.out.only hgb hbw (onlyIn.of_grown hg1 (by simp)) hs1)
    clear hs1 hg1 HM
    have hN1:=HNX.out w1 2 HM1.out.oi HM1.out.src (by decide) (by decide)
    go_upto_region 5 with (go_at_call 18;refine hN1.mono ?_;rintro e w2 ⟨r,rfl,r0,r1,hs2,hg2⟩)
    have HM2:=Lib.hid (HM1.out.only hgb hbw (onlyIn.of_grown hg2 (by simp)) hs2)
    have hX5:XAt ((w2.alloc (.cells #[.int .i64 (97 + r)] 3)).alloc (.cells #[.int .i64 (7680 + k),.slice (some ⟨w2.heap.size,0,none⟩) 1 1] 61)) (w2.heap.size + 1) w2.heap.size (7680 + k) (.slice (some ⟨w2.heap.size,0,none⟩) 1 1) [97 + r] :=
     ⟨by have h:=Blk.new (w2.alloc (.cells #[.int .i64 (97 + r)] 3)) 61 #[.int .i64 (7680 + k),.slice (some ⟨w2.heap.size,0,none⟩) 1 1];simpa using h,(own_new w2 3 [97 + r] (by simp)).alloc _⟩
    have hO5:onlyIn [g] w2 ((w2.alloc (.cells #[.int .i64 (97 + r)] 3)).alloc (.cells #[.int .i64 (7680 + k),.slice (some ⟨w2.heap.size,0,none⟩) 1 1] 61)) :=
     onlyIn.of_below (((Below.refl _ _).alloc (Nat.le_refl _) _).alloc (by simp) _)
    have hS5:Src ((w2.alloc (.cells #[.int .i64 (97 + r)] 3)).alloc (.cells #[.int .i64 (7680 + k),.slice (some ⟨w2.heap.size,0,none⟩) 1 1] 61)) g v xs.length:=by
     obtain ⟨i,h1,h2⟩:=hs2
     exact ⟨i,h1,(h2.alloc _).alloc _⟩
    have hb2:b < w2.heap.size:=by have h1:=HM1.out.oi.2.2.2.1;have h2:=hg2.size;omega
    have hz5:w2.heap.size + 1 < ((w2.alloc (.cells #[.int .i64 (97 + r)] 3)).alloc (.cells #[.int .i64 (7680 + k),.slice (some ⟨w2.heap.size,0,none⟩) 1 1] 61)).heap.size:=by simp
    have HX5:=Lib.hid hX5
    have HO5:=Lib.hid hO5
    have HS5:=Lib.hid hS5
    clear hX5 hO5 hS5 hs2 hg2 HM1
    generalize (w2.alloc (.cells #[.int .i64 (97 + r)] 3)).alloc (.cells #[.int .i64 (7680 + k),.slice (some ⟨w2.heap.size,0,none⟩) 1 1] 61)=W5 at *
    have HNW:Hid (∀ (W:World) (m:Int),onlyIn [g] w2 W → Src W g v xs.length → 0 < m → m ≤ 1000000 → Calls Tryz.prog 18 #[.pointer (some ⟨g,0,none⟩),.int .i64 m] W (RetNext W g v xs.length m)) :=
     Lib.hid fun W m h1 h2 h3 h4 => HNX.out W m (HM2.out.only hgb hbw h1 h2).oi h2 h3 h4
    obtain ⟨B0,HB0⟩:∃ B0,Hid (B0=w2.heap.size):=⟨_,Lib.hid rfl⟩
    rw [← HB0.out] at hb2 hz5 HX5
    simp only [← HB0.out]
    go_cut [29] from 23 to 29 (fun s29 wx => ∃ d:Bool,s29=.bool d ∧ (d=true → 0 < k) ∧ Hid (onlyIn [g] w2 wx) ∧ Hid (Src wx g v xs.length) ∧ Hid (XAt wx (B0 + 1) B0 (7680 + k) (.slice (some ⟨B0,0,none⟩) 1 1) [97 + r]) ∧ B0 + 1 < wx.heap.size)
    case first =>
     clear hdl
     by_cases h0:0 < k
     ·have hN5:=HNW.out W5 3 HO5.out HS5.out (by decide) (by decide)
      have h0':decide ((0:Int) < (k:Int))=true:=by simp;omega
      go_wp2_with (go_at_call 18;refine hN5.mono ?_;rintro e w6 ⟨q6,rfl,q60,q61,hs6,hg6⟩)
      go_meet
      case rel => exact ⟨_,rfl,fun _ => h0,Lib.hid (HO5.out.trans (onlyIn.of_grown hg6 (by simp))),Lib.hid hs6,Lib.hid (HX5.out.grown hg6 (by omega) (by omega)),Nat.lt_of_lt_of_le hz5 hg6.size⟩
     ·have h0':decide ((0:Int) < (k:Int))=false:=by simp;omega
      go_wp2
      go_meet
      case rel => exact ⟨false,rfl,by simp,HO5,HS5,HX5,hz5⟩
    case rest =>
     obtain ⟨d,rfl,hd0,HO6,HS6,HX6,hz6⟩:=hcut
     clear HO5 HS5 HX5 hz5
     go_upto_if 29 with fail
     go_cut [] from 29 to 36 (fun wx => ∃ a:Int,(a=97 ∨ a=98 ∨ 7680 ≤ a ∧ a < 7680 + k) ∧ Hid (onlyIn [g] w2 wx) ∧ Hid (Src wx g v xs.length) ∧ Hid (XAt wx (B0 + 1) B0 (7680 + k) (.slice (some ⟨B0,0,none⟩) 1 1) [a]) ∧ B0 + 1 < wx.heap.size)
     case first =>
      cases d
      ·go_wp2
       go_meet
       case rel => exact ⟨97 + r,by omega,HO6,HS6,HX6,hz6⟩
      ·have hk0:=hd0 rfl
       have hx1:=HX6.out.1
       have x1:=hx1.at_ (i:=1) rfl
       clear hx1 hdl
       have HND:=Lib.hid (HNW.out wc.drew k HO6.out HS6.out (by omega) (by omega))
       go_wp2
       go_region_law (first | (go_simp;go_at_call 18;refine HND.out.mono ?_;rintro e w7 ⟨q7,rfl,q70,q71,hs7,hg70⟩;have hg7:=undrew hg70;have hx7:=HX6.out.grown hg7 (by omega) (by omega);have x7:=hx7.1.at_ (i:=1) rfl;have hy7:=own_one hx7.2;have y7:=hy7.at_ (i:=0) rfl;have g7:=hy7.free 0;have HX7:=Lib.hid hx7;have HY7:=Lib.hid hy7;have HO7:=Lib.hid (HO6.out.trans (onlyIn.of_grown hg7 (by simp)));have HS7:=Lib.hid hs7;have hz7:=Nat.lt_of_lt_of_le hz6 hg7.size;clear hx7 hy7 hs7 hg7 hg70))
       all_goals go_wp2
       all_goals go_meet
       all_goals case rel =>
        have hB0:=HB0.out
        rw [show IntKind.i64.wrap (7680 + q7)=7680 + q7 from IntWalk.i64_in _ (by omega)]
        refine ⟨7680 + q7,.inr (.inr ⟨by omega,by omega⟩),Lib.hid (HO7.out.far (grown_setCell (grown_refl w7 (some B0)) 0 _) ?_),Lib.hid (HS7.out.grown (grown_setCell (grown_refl w7 (some B0)) 0 _) ?_),Lib.hid ⟨HX7.out.1.far ?_ _,own_of_one (by simpa using HY7.out.put 0 (.int .i64 (7680 + q7))) (Nat.le_refl _)⟩,?_⟩
        ·intro x hx;simp at hx;omega
        ·simp;omega
        ·simp
        ·simpa using hz7
     case rest =>
      obtain ⟨a,ha,HO7,HS7,HX7,hz7⟩:=hcut
      clear HO6 HS6 HX6 hz6
      have hN7:=HNW.out wc 8 HO7.out HS7.out (by decide) (by decide)
      go_upto_if 39 with (go_at_call 18;refine hN7.mono ?_;rintro e w8 ⟨q8,rfl,q80,q81,hs8,hg8⟩;have HO8:=Lib.hid (HO7.out.trans (onlyIn.of_grown hg8 (by simp)));have HS8:=Lib.hid hs8;have HX8:=Lib.hid (HX7.out.grown hg8 (by omega) (by omega));have hz8:=Nat.lt_of_lt_of_le hz7 hg8.size;clear hs8 hg8)
      clear hN7
      go_cut [] from 39 to 49 (fun wx => ∃ sv l,Hid (onlyIn [g] w2 wx) ∧ Hid (Src wx g v xs.length) ∧ Hid (XAt wx (B0 + 1) B0 (7680 + k) sv l) ∧ Hid (decL k l) ∧ B0 + 1 < wx.heap.size)
      case first =>
       by_cases h8:0 < q8
       ·have hx8:=HX8.out.1
        have x8:=hx8.at_ (i:=1) rfl
        have x8a:=(hx8.alloc (.cells #[.int .i64 769,.int .i64 776,.int .i64 803,.int .i64 837,.int .i64 945] 3)).at_ (i:=1) rfl
        clear hx8 hdl
        have HND1:=Lib.hid (HNW.out w8.drew 5 HO8.out HS8.out (by omega) (by omega))
        have HOA:Hid (onlyIn [g] w2 (w8.alloc (.cells #[.int .i64 769,.int .i64 776,.int .i64 803,.int .i64 837,.int .i64 945] 3))):=Lib.hid (HO8.out.trans (onlyIn.of_below ((Below.refl _ _).alloc (Nat.le_refl _) _)))
        have HSA:Hid (Src (w8.alloc (.cells #[.int .i64 769,.int .i64 776,.int .i64 803,.int .i64 837,.int .i64 945] 3)) g v xs.length):=Lib.hid (HS8.out.alloc _)
        have HXA:Hid (XAt (w8.alloc (.cells #[.int .i64 769,.int .i64 776,.int .i64 803,.int .i64 837,.int .i64 945] 3)) (B0 + 1) B0 (7680 + k) (.slice (some ⟨B0,0,none⟩) 1 1) [a]):=Lib.hid ⟨HX8.out.1.alloc _,HX8.out.2.alloc _⟩
        have HND2:=Lib.hid (HNW.out (w8.alloc (.cells #[.int .i64 769,.int .i64 776,.int .i64 803,.int .i64 837,.int .i64 945] 3)).drew 5 HOA.out HSA.out (by omega) (by omega))
        obtain ⟨i0,hi,hz0,hz1,hz2⟩:=info_parts Tryz.infoInt'
        go_wp2
        go_region_law (first
         | (go_simp;go_at_call 18;(with_reducible refine HND1.out.mono ?_);rintro e w9 ⟨q9,rfl,q90,q91,hs9,hg90⟩;have hg9:=undrew hg90;obtain ⟨j,rfl⟩:=Int.eq_ofNat_of_zero_le q90;obtain ⟨y,hy,hym⟩:=get_of (show j < fiveL.length by show j < 5;omega);have hx9:=HX8.out.grown hg9 (by omega) (by omega);have x9:=hx9.1.at_ (i:=1) rfl;have x9a:=(hx9.1.alloc (.cells #[.int .i64 769,.int .i64 776,.int .i64 803,.int .i64 837,.int .i64 945] 3)).at_ (i:=1) rfl;have x9b:=((hx9.1.alloc (.cells #[.int .i64 769,.int .i64 776,.int .i64 803,.int .i64 837,.int .i64 945] 3)).alloc (.cells #[.int .i64 y] 3)).at_ (i:=1) rfl;have y9:(w9.alloc (.cells #[.int .i64 769,.int .i64 776,.int .i64 803,.int .i64 837,.int .i64 945] 3)).cell? ⟨w9.heap.size,j,none⟩=some (.int .i64 y):=(Blk.new w9 3 #[.int .i64 769,.int .i64 776,.int .i64 803,.int .i64 837,.int .i64 945]).at_ (five_at hy);have HX9:=Lib.hid (show XAt (w9.alloc (.cells #[.int .i64 769,.int .i64 776,.int .i64 803,.int .i64 837,.int .i64 945] 3)) (B0 + 1) B0 (7680 + k) (.slice (some ⟨B0,0,none⟩) 1 1) [a] from ⟨hx9.1.alloc _,hx9.2.alloc _⟩);have HO9:=Lib.hid ((HO8.out.trans (onlyIn.of_grown hg9 (by simp))).far (World.grownBy_alloc w9 (.cells #[.int .i64 769,.int .i64 776,.int .i64 803,.int .i64 837,.int .i64 945] 3) none) (by simp));have HS9:=Lib.hid (hs9.alloc (.cells #[.int .i64 769,.int .i64 776,.int .i64 803,.int .i64 837,.int .i64 945] 3));have HYM:=Lib.hid hym;have hz9:=Nat.lt_of_lt_of_le hz8 hg9.size;clear hx9 hs9 hg9 hg90 hy hym)
         | (go_simp;go_at_call 18;(with_reducible refine HND2.out.mono ?_);rintro e w9 ⟨q9,rfl,q90,q91,hs9,hg90⟩;have hg9:=undrew hg90;obtain ⟨j,rfl⟩:=Int.eq_ofNat_of_zero_le q90;obtain ⟨y,hy,hym⟩:=get_of (show j < fiveL.length by show j < 5;omega);have hx9:=HXA.out.grown hg9 (by omega) (by omega);have x9:=hx9.1.at_ (i:=1) rfl;have x9b:=(hx9.1.alloc (.cells #[.int .i64 y] 3)).at_ (i:=1) rfl;have y9:w9.cell? ⟨w8.heap.size,j,none⟩=some (.int .i64 y):=((Blk.new w8 3 #[.int .i64 769,.int .i64 776,.int .i64 803,.int .i64 837,.int .i64 945]).grown hg9 (by simp;omega)).at_ (five_at hy);have HX9:=Lib.hid hx9;have HO9:=Lib.hid (HOA.out.trans (onlyIn.of_grown hg9 (by simp)));have HS9:=Lib.hid hs9;have HYM:=Lib.hid hym;have hz9:=Nat.lt_of_lt_of_le hz8 (Nat.le_trans (by simp) hg9.size);clear hx9 hs9 hg9 hg90 hy hym)
         | (refine step_app_blk rfl (.tmp 41) (.tmp 47) rfl Tryz.underlying22 hi (.int .i64 0) 1 8 hz0 hz1 hz2 rfl (by decide) (by decide) B0 (.slice (some ⟨B0,0,none⟩) 1 1) 1 [.int .i64 a] (w9.heap.size + 1) #[.int .i64 y] rfl rfl (show World.ownsRow ((w9.alloc (.cells #[.int .i64 769,.int .i64 776,.int .i64 803,.int .i64 837,.int .i64 945] 3)).alloc (.cells #[.int .i64 y] 3)) B0 3 1 (.slice (some ⟨B0,0,none⟩) 1 1) 1 [.int .i64 a] from HX9.out.2.alloc _) (show Blk ((w9.alloc (.cells #[.int .i64 769,.int .i64 776,.int .i64 803,.int .i64 837,.int .i64 945] 3)).alloc (.cells #[.int .i64 y] 3)) (w9.heap.size + 1) 3 #[.int .i64 y] from (by have h:=Blk.new (w9.alloc (.cells #[.int .i64 769,.int .i64 776,.int .i64 803,.int .i64 837,.int .i64 945] 3)) 3 #[.int .i64 y];simpa using h)) rfl (by simp [Value.oneCell']) (by decide) (by simp;omega) ?_;intro v10' w10 hown10 hg10 _ hsl;have hb10:=(HX9.out.1.alloc (.cells #[.int .i64 y] 3)).grown hg10 (by intro e;simp [Value.ownBlock] at e);have e10:=hb10.at_ (i:=1) rfl;have f10:=hb10.free 1;have HB10:=Lib.hid hb10;have HOW10:=Lib.hid (show w10.ownsRow B0 3 1 v10' [a,y].length ([a,y].map (Value.int .i64)) from hown10);have HO10:=Lib.hid ((HO9.out.far (World.grownBy_alloc (w9.alloc (.cells #[.int .i64 769,.int .i64 776,.int .i64 803,.int .i64 837,.int .i64 945] 3)) (.cells #[.int .i64 y] 3) none) (by simp)).far hg10 (by simp [Value.ownBlock];have:=HB0.out;omega));have HS10:=Lib.hid ((HS9.out.alloc (.cells #[.int .i64 y] 3)).grown hg10 (by simp [Value.ownBlock];omega));have hz10:=Nat.lt_of_lt_of_le hz9 (Nat.le_trans (by simp;try omega) hg10.size);obtain ⟨A10,m10,c10',rfl⟩:=hsl;clear hb10 hown10 hg10)
         | (refine step_app_blk rfl (.tmp 41) (.tmp 47) rfl Tryz.underlying22 hi (.int .i64 0) 1 8 hz0 hz1 hz2 rfl (by decide) (by decide) B0 (.slice (some ⟨B0,0,none⟩) 1 1) 1 [.int .i64 a] (w9.heap.size) #[.int .i64 y] rfl rfl (show World.ownsRow (w9.alloc (.cells #[.int .i64 y] 3)) B0 3 1 (.slice (some ⟨B0,0,none⟩) 1 1) 1 [.int .i64 a] from HX9.out.2.alloc _) (show Blk (w9.alloc (.cells #[.int .i64 y] 3)) (w9.heap.size) 3 #[.int .i64 y] from Blk.new w9 3 #[.int .i64 y]) rfl (by simp [Value.oneCell']) (by decide) (by simp;omega) ?_;intro v10' w10 hown10 hg10 _ hsl;have hb10:=(HX9.out.1.alloc (.cells #[.int .i64 y] 3)).grown hg10 (by intro e;simp [Value.ownBlock] at e);have e10:=hb10.at_ (i:=1) rfl;have f10:=hb10.free 1;have HB10:=Lib.hid hb10;have HOW10:=Lib.hid (show w10.ownsRow B0 3 1 v10' [a,y].length ([a,y].map (Value.int .i64)) from hown10);have HO10:=Lib.hid ((HO9.out.far (World.grownBy_alloc w9 (.cells #[.int .i64 y] 3) none) (by simp)).far hg10 (by simp [Value.ownBlock];have:=HB0.out;omega));have HS10:=Lib.hid ((HS9.out.alloc (.cells #[.int .i64 y] 3)).grown hg10 (by simp [Value.ownBlock];omega));have hz10:=Nat.lt_of_lt_of_le hz9 (Nat.le_trans (by simp;try omega) hg10.size);obtain ⟨A10,m10,c10',rfl⟩:=hsl;clear hb10 hown10 hg10))
        all_goals go_wp2
        all_goals go_meet
        all_goals case rel =>
         have hB0:=HB0.out
         refine ⟨_,[a,y],Lib.hid (HO10.out.far (grown_setCell (grown_refl w10 (some (B0 + 1))) 1 _) ?_),Lib.hid (HS10.out.grown (grown_setCell (grown_refl w10 (some (B0 + 1))) 1 _) ?_),Lib.hid (XAt.put1 HB10.out HOW10.out),Lib.hid ⟨a,[y],rfl,ha,.inr ⟨y,rfl,?_⟩⟩,?_⟩
         ·intro x hx;simp at hx;omega
         ·simp;omega
         ·simpa [fiveL] using HYM.out
         ·simpa using hz10
       ·have h8':q8 ≤ 0:=by omega
        clear h8
        go_wp2
        go_meet
        case rel => exact ⟨_,_,HO8,HS8,HX8,Lib.hid ⟨a,[],rfl,ha,.inl rfl⟩,hz8⟩
      case rest =>
       obtain ⟨sv,l,HO9,HS9,HX9,HL,hz9⟩:=hcut
       clear HO7 HS7 HX7 hz7 HO8 HS8 HX8 hz8
       have hm9:=(HM2.out.om.restrict (S':=List.range w.heap.size) fun x hx => List.mem_append_left _ hx).mapps (by intro x hx;simp at hx;omega)
       obtain ⟨A9,c9,rfl,_⟩:=id hm9
       have hDk:D.length ≤ 4:=by omega
       clear hm9
       have hN9:=HNW.out wc 6 HO9.out HS9.out (by decide) (by decide)
       go_upto_block 2 with (go_at_call 18;refine hN9.mono ?_;rintro e w10 ⟨q10,rfl,q100,q101,hs10,hg10⟩;have HO10:=Lib.hid (HO9.out.trans (onlyIn.of_grown hg10 (by simp)));have HS10:=Lib.hid hs10;have HX10:=Lib.hid (HX9.out.grown hg10 (by omega) (by omega));have hz10:=Nat.lt_of_lt_of_le hz9 hg10.size;have e9:=(HM2.out.only hgb hbw HO10.out hs10).blk.at_ (i:=9) rfl;clear hs10 hg10)
       clear e9
       go_cut [6] from 58 to 70 (fun s6 wx => ∃ t:Bool,s6=.bool t ∧ Hid (t=false → ∀ d ∈ D,d.2 ≠ l) ∧ Hid (onlyIn [g] w2 wx) ∧ Hid (Src wx g v xs.length) ∧ Hid (XAt wx (B0 + 1) B0 (7680 + k) sv l) ∧ B0 + 1 < wx.heap.size)
       case first =>
        go_wp2_with fail
        go_loopg [6,58] D.length (fun gj s6 iv wr => ∃ (j:Nat) (t:Bool),s6=.bool t ∧ iv=.int .i64 j ∧ j + gj=D.length ∧ Hid (t=false → ∀ d ∈ D.take j,d.2 ≠ l) ∧ Hid (onlyIn [g] w2 wr) ∧ Hid (Src wr g v xs.length) ∧ Hid (XAt wr (B0 + 1) B0 (7680 + k) sv l) ∧ B0 + 1 < wr.heap.size)
        case atStart => exact ⟨0,_,rfl,rfl,by omega,Lib.hid (by simp),HO10,HS10,HX10,hz10⟩
        case round =>
         obtain ⟨j,t,rfl,rfl,hj,HT,HOr,HSr,HXr,hzr⟩:=hrel
         clear HO10 HS10 HX10 hz10 HO9 HS9 HX9 hz9
         by_cases hjl:j < D.length
         ·obtain ⟨⟨dc,dl⟩,hd,hdm⟩:=get_el hjl
          have hmr:=((HM2.out.only hgb hbw HOr.out HSr.out).om.restrict (S':=List.range w.heap.size) fun x hx => List.mem_append_left _ hx).mapps (by intro x hx;simp at hx;omega)
          rw [veil_size] at hmr
          obtain ⟨A9',c9',hv9,_,_,_,hcl⟩:=hmr.unveil
          cases hv9
          obtain ⟨aj,dsv,rfl,haj,d0,d1,hto⟩:=hcl j _ hd
          obtain ⟨e0,e1⟩:=map_cells (Below.refl _ _) haj d0 d1
          have hHD:=Lib.hid hd
          have HTO:=Lib.hid hto
          obtain ⟨A',c',rfl,_⟩:=id hto
          clear hcl d0 d1 hto hmr hd hdm haj
          have r0:(0:Int) ≤ (j:Int):=by omega
          have r1:(j:Int) < (D.length:Int):=by omega
          have hx1:=HXr.out.1
          have x1:=(hx1.alloc (.cells #[.int .i64 dc,.slice A' dl.length c'] 61)).at_ (i:=1) rfl
          have HBA:Hid (Below wr.heap.size wr (wr.alloc (.cells #[.int .i64 dc,.slice A' dl.length c'] 61))):=Lib.hid ((Below.refl _ _).alloc (Nat.le_refl _) _)
          have HXa:=Lib.hid (HXr.out.below HBA.out)
          have HC:=Lib.hid (same_any (.slice A' dl.length c') sv dl l (wr.alloc (.cells #[.int .i64 dc,.slice A' dl.length c'] 61)) (HTO.out.later HBA.out) (Ints.of_own HXa.out.2))
          clear hx1
          cases t
          ·go_wp2_with (go_at_call 14;refine HC.out.mono ?_;rintro e w12 ⟨rfl,b12⟩;have HB12:=Lib.hid (below_next HBA.out b12);have hz12:=Nat.lt_of_lt_of_le hzr HB12.out.size;clear b12)
           go_roundg (D.length - (j + 1))
           case measure => omega
           case rel =>
            refine ⟨j + 1,_,rfl,by go_num,by omega,Lib.hid fun ht => take_ne hHD.out (HT.out (by simp)) (by simpa using ht),Lib.hid (HOr.out.trans (onlyIn.of_below HB12.out)),Lib.hid (HSr.out.below HB12.out),Lib.hid (HXr.out.below HB12.out),hz12⟩
          ·go_wp2
           go_roundg (D.length - (j + 1))
           case measure => omega
           case rel =>
            exact ⟨j + 1,true,rfl,by go_num,by omega,Lib.hid (by simp),Lib.hid (HOr.out.trans (onlyIn.of_below HBA.out)),Lib.hid (HSr.out.below HBA.out),HXa,Nat.lt_of_lt_of_le hzr HBA.out.size⟩
         ·have hjj:¬ (j:Int) < (D.length:Int):=by omega
          go_wp2
          go_meet
          case rel => exact ⟨t,rfl,Lib.hid fun ht d hd => HT.out ht d (by rw [List.take_of_length_le (by omega)];exact hd),HOr,HSr,HXr,hzr⟩
       case rest =>
        obtain ⟨t,rfl,HT,HO11,HS11,HX11,hz11⟩:=hcut
        clear HO10 HS10 HX10 hz10 HO9 HS9 HX9 hz9
        have HM11:=Lib.hid (HM2.out.only hgb hbw HO11.out HS11.out)
        have hap:∀ q,v10.ownBlock=some q → sv.ownBlock ≠ some q:=fun q hq e => by
         have h1:=(HM2.out.own10 q hq).2
         have h2:=(HX11.out.2.lt q e).1
         have h3:=HB0.out
         omega
        have HAP:=Lib.hid hap
        clear hap
        go_upto_if 71 with fail
        go_cut [] from 71 to 82 (fun wx => ∃ v10' X',Hid (DSt w g b xs.length v c0 c1 c2 c3 c4 c5 c6 c7 c8 c11 (.slice A9 D.length c9) v10' D X' wx) ∧ Hid (XAt wx (B0 + 1) B0 (7680 + k) sv l) ∧ Hid (∀ q,v10'.ownBlock=some q → sv.ownBlock ≠ some q) ∧ Hid (X'=if t then X ++ [7680 + (k:Int)] else X))
        case first =>
         cases t
         ·go_wp2
          go_meet
          case rel => exact ⟨v10,X,HM11,HX11,HAP,Lib.hid (by simp)⟩
         ·have hb11:=HM11.out.blk
          have e10:=hb11.at_ (i:=10) rfl
          have e10a:=(hb11.alloc (.cells #[.int .i64 (7680 + k)] 3)).at_ (i:=10) rfl
          have hx11:=HX11.out.1
          have x0:=hx11.at_ (i:=0) rfl
          have HOX:Hid (onlyIn [] wc (wc.alloc (.cells #[.int .i64 (7680 + k)] 3)).drew):=Lib.hid (onlyIn.of_below ((Below.refl _ _).alloc (Nat.le_refl _) _).drew)
          have HBA:=Lib.hid (hb11.alloc (.cells #[.int .i64 (7680 + k)] 3))
          have HKX:Hid (Blk (wc.alloc (.cells #[.int .i64 (7680 + k)] 3)).drew wc.heap.size 3 #[.int .i64 (7680 + k)]):=Lib.hid (Blk.new wc 3 #[.int .i64 (7680 + k)])
          have HWX:Hid (World.ownsRow (wc.alloc (.cells #[.int .i64 (7680 + k)] 3)).drew w.heap.size 3 1 v10 X.length (X.map (Value.int .i64))):=Lib.hid (HM11.out.ox.alloc _)
          have hszY:w.heap.size ≤ (wc.alloc (.cells #[.int .i64 (7680 + k)] 3)).drew.heap.size:=by have h1:=HM11.out.oi.2.2.2.1;simp;omega
          obtain ⟨i0,hi,hz0,hz1,hz2⟩:=info_parts Tryz.infoInt'
          clear hb11 hx11 hdl
          go_wp2
          go_region_law (first
           | (refine step_app_blk rfl (.tmp 76) (.tmp 79) rfl Tryz.underlying22 hi (.int .i64 0) 1 8 hz0 hz1 hz2 rfl (by decide) (by decide) w.heap.size v10 X.length (X.map (Value.int .i64)) wc.heap.size #[.int .i64 (7680 + k)] rfl rfl HWX.out HKX.out rfl (by simp [Value.oneCell']) (by omega) hszY ?_;intro v12 w12 hown12 hg12 hr12 hsl;have hb12:=(show Blk (wc.alloc (.cells #[.int .i64 (7680 + k)] 3)).drew b 26 #[c0,c1,c2,c3,c4,c5,c6,c7,c8,.slice A9 D.length c9,v10,c11] from HBA.out).grown hg12 (fun e => by have:=(HM11.out.own10 b e.symm).1;omega);have e12:=hb12.at_ (i:=10) rfl;have f12:=hb12.free 10;have HW12:=Lib.hid hown12;have HG12:=Lib.hid hg12;have HR12:=Lib.hid hr12;obtain ⟨A12,m12,c12',rfl⟩:=hsl;clear hb12 hown12 hg12 hr12))
          all_goals go_wp2
          all_goals go_meet
          all_goals case rel =>
           have hB0:=HB0.out
           have h10:=HM2.out.own10
           refine ⟨_,X ++ [7680 + (k:Int)],Lib.hid (HM11.out.exclude hgb hbw HOX.out HG12.out HR12.out (by simpa using HW12.out)),Lib.hid (((HX11.out.below ((Below.refl _ _).alloc (Nat.le_refl _) _).drew).far HG12.out ?_ ?_).far (grown_setCell (grown_refl w12 (some b)) 10 _) ?_ ?_),Lib.hid ?_,Lib.hid (by simp)⟩
           ·intro e;have:=(h10 _ e).2;omega
           ·intro q hq e;exact HAP.out q e hq
           ·simp;omega
           ·intro q hq e;have:=(HX11.out.2.lt q hq).1;injection e;omega
           ·intro q hq e
            rcases HR12.out q hq with e1 | e1
            ·exact HAP.out q e1 e
            ·have:=(HX11.out.2.lt q e).2;simp at e1;omega
        case rest =>
         obtain ⟨v10',X',HM12,HX12,HAP12,HXX⟩:=hcut
         clear HM11 HX11 HO11 HS11 HAP
         have hb12:=HM12.out.blk
         have e9:=hb12.at_ (i:=9) rfl
         have hx12:=HX12.out.1
         have x0:=hx12.at_ (i:=0) rfl
         have x1:=hx12.at_ (i:=1) rfl
         have e9a:=(hb12.alloc (.cells #[.int .i64 (7680 + k),sv] 61)).at_ (i:=9) rfl
         have HBA:=Lib.hid (hb12.alloc (.cells #[.int .i64 (7680 + k),sv] 61))
         have HOX:Hid (onlyIn [] wc (wc.alloc (.cells #[.int .i64 (7680 + k),sv] 61)).drew):=Lib.hid (onlyIn.of_below ((Below.refl _ _).alloc (Nat.le_refl _) _).drew)
         have HMX:=Lib.hid (HM12.out.only hgb hbw (HOX.out.more (by simp)) (show Src (wc.alloc (.cells #[.int .i64 (7680 + k),sv] 61)).drew g v xs.length from HM12.out.src.alloc _))
         have HIX:Hid (Ints (veil ((List.range w.heap.size ++ v10'.ownBlock.toList) ++ (Value.slice A9 D.length c9).ownBlock.toList) (wc.alloc (.cells #[.int .i64 (7680 + k),sv] 61)).drew) (wc.alloc (.cells #[.int .i64 (7680 + k),sv] 61)).drew.heap.size .i64 sv l):=by
          refine Lib.hid (Ints.veil_own' (show World.ownsRow (wc.alloc (.cells #[.int .i64 (7680 + k),sv] 61)).drew B0 3 1 sv l.length (l.map (Value.int .i64)) from HX12.out.2.alloc _) fun q hq hx => ?_)
          simp only [List.mem_append,Option.mem_toList] at hx
          rcases hx with (hx | hx) | hx
          ·have:=(HX12.out.2.lt q hq).1;have:=HB0.out;have:=HM2.out.oi.2.2.2.1;simp at hx;omega
          ·exact HAP12.out q hx hq
          ·obtain ⟨ps,_,_,ho,_⟩:=HM12.out.om
           exact own_own ho HX12.out.2 (by decide) q hx hq
         have HKX:Hid (Blk (wc.alloc (.cells #[.int .i64 (7680 + k),sv] 61)).drew wc.heap.size 61 #[.int .i64 (7680 + k),sv]):=Lib.hid (Blk.new wc 61 #[.int .i64 (7680 + k),sv])
         have hszY:w.heap.size ≤ (wc.alloc (.cells #[.int .i64 (7680 + k),sv] 61)).drew.heap.size:=by have h1:=HM12.out.oi.2.2.2.1;simp;omega
         obtain ⟨i0,hi,hz0,hz1,hz2⟩:=info_parts Tryz.infoMap
         clear hb12 hx12 hdl
         go_wp2
         go_region_law (first
          | (refine step_app_map rfl (.tmp 87) (.tmp 89) rfl Tryz.underlying24 hi _ hz0 hz1 hz2 rfl (List.range w.heap.size ++ v10'.ownBlock.toList) w.heap.size (.slice A9 D.length c9) D wc.heap.size (7680 + k) sv l rfl rfl HMX.out.om HKX.out HIX.out (by omega) hszY ?_;intro v13 w13 hM13 hg13 hr13 hs13;have hb13:=(show Blk (wc.alloc (.cells #[.int .i64 (7680 + k),sv] 61)).drew b 26 #[c0,c1,c2,c3,c4,c5,c6,c7,c8,.slice A9 D.length c9,v10',c11] from HBA.out).grown hg13 (fun e => by have:=(HM12.out.own9 b e.symm).1;omega);have e13:=hb13.at_ (i:=9) rfl;have f13:=hb13.free 9;have HM13:=Lib.hid hM13;have HG13:=Lib.hid hg13;obtain ⟨A13,m13,c13',rfl⟩:=hs13;clear hb13 hM13 hg13 hr13))
         all_goals go_wp2
         all_goals
          go_roundg (4 - k)
          case measure => omega
          case rel =>
           refine ⟨k + 1,_,v10',D ++ [(7680 + (k:Int),l)],X',by go_num,by omega,by simp;omega,?_,Lib.hid (HM12.out.append hgb hbw HOX.out HG13.out HM13.out),Lib.hid ?_⟩
           ·rw [HXX.out];cases t <;> simp <;> omega
           ·rw [HXX.out];exact HN.out.add t HL.out HT.out
  ·have hk5:k=5:=by omega
   subst hk5
   go_wp2
   go_end0
   refine ⟨v9,v10,D,X,rfl,HM.out.blk,?_,?_,HN.out,HM.out.src,HM.out.oi⟩
   ·have h:=(HM.out.om.restrict (S':=List.range w.heap.size) fun x hx => List.mem_append_left _ hx).mapps (by intro x hx;simp at hx;omega)
    rw [veil_size] at h
    exact h
   ·have h:=Ints.veil_own HM.out.ox (S:=List.range w.heap.size) (by intro x hx;simp at hx;omega)
    rw [veil_size] at h
    exact h
end Go.Proofs.YtjafpikjpipbkaaGreatDoor
