/-
  Merged texts: lemmas and walks that the last text of this claim leans on.
-/
import Derived.WalkKit
import Derived.Test.YtjafpikjpipbkaaGreatDoorMgTS16
import Derived.Test.YtjafpikjpipbkaaGreatDoorMgTS4
import Derived.Test.YtjafpikjpipbkaaGreatDoorMgTS1
import Derived.Deep.LoopGhost
import Derived.Test.YtjafpikjpipbkaaGreatDoorMgTS15
import Derived.Lib.AppendStr
import Derived.Test.YtjafpikjpipbkaaGreatDoorMgTS7
set_option maxRecDepth 100000
set_option maxHeartbeats 40000000
namespace Go.Proofs.YtjafpikjpipbkaaGreatDoor
open Go.RowKit
def cntL (n:Int) (l:List Int):Nat:=l.countP (fun c => decide (c < n))
def cntE (n:Int) (l:List Int):Nat:=l.countP (fun c => decide (c=n))
theorem cntL_le (n:Int) (l:List Int):cntL n l ≤ l.length:=List.countP_le_length
theorem cnt_step {l:List Int} {k:Nat} {x:Int} (p:Int → Bool) (h:l[k]?=some x):(l.take (k + 1)).countP p=(l.take k).countP p + if p x then 1 else 0:=by
 have hk:=(List.getElem?_eq_some_iff.1 h).1
 have e:l[k]=x:=(List.getElem?_eq_some_iff.1 h).2
 rw [List.take_succ_eq_append_getElem hk,List.countP_append,e,List.countP_singleton]
theorem cntE_step {l:List Int} {k:Nat} {x n:Int} (h:l[k]?=some x):cntE n (l.take (k + 1))=cntE n (l.take k) + if x=n then 1 else 0:=by
 have:=cnt_step (fun c => decide (c=n)) h
 simpa [cntE] using this
theorem exists_ge {n:Int}:∀ {l:List Int},cntL n l < l.length → ∃ c ∈ l,n ≤ c
 | [],h => by simp at h
 | c :: l,h => by
   by_cases hc:n ≤ c
   ·exact ⟨c,by simp,hc⟩
   ·have:cntL n (c :: l)=cntL n l + 1:=by simp [cntL,List.countP_cons];omega
    obtain ⟨d,hd,h2⟩:=exists_ge (l:=l) (n:=n) (by simp at h;omega)
    exact ⟨d,by simp [hd],h2⟩
theorem cntL_next {n m:Int} (h:n ≤ m):∀ {l:List Int},(∀ c ∈ l,n ≤ c → m ≤ c) → cntL (m + 1) l=cntL n l + cntE m l
 | [],_ => rfl
 | c :: l,hl => by
   have ih:=cntL_next h (l:=l) (fun d hd => hl d (by simp [hd]))
   have hc:=hl c (by simp)
   simp only [cntL,cntE,List.countP_cons] at ih ⊢
   by_cases h1:c < n
   ·have e1:decide (c < m + 1)=true:=by simp;omega
    have e2:decide (c < n)=true:=by simp;omega
    have e3:decide (c=m)=false:=by simp;omega
    rw [e1,e2,e3];simp;omega
   ·by_cases h2:c=m
    ·have e1:decide (c < m + 1)=true:=by simp;omega
     have e2:decide (c < n)=false:=by simp;omega
     have e3:decide (c=m)=true:=by simp;omega
     rw [e1,e2,e3];simp;omega
    ·have h3:=hc (by omega)
     have e1:decide (c < m + 1)=false:=by simp;omega
     have e2:decide (c < n)=false:=by simp;omega
     have e3:decide (c=m)=false:=by simp;omega
     rw [e1,e2,e3];simp;omega
theorem cntE_pos {m:Int} {l:List Int} (h:m ∈ l):0 < cntE m l:=List.countP_pos_iff.2 ⟨m,h,by simp⟩
theorem cntL_step {l:List Int} {k:Nat} {x n:Int} (h:l[k]?=some x):cntL n (l.take (k + 1))=cntL n (l.take k) + if x < n then 1 else 0:=by
 have:=cnt_step (fun c => decide (c < n)) h
 simpa [cntL] using this
structure LeastS (n:Int) (l:List Int) (k:Nat) (m:Int):Prop where
 ge:n ≤ m
 top:m ≤ 1114112
 low:∀ c ∈ l.take k,n ≤ c → m ≤ c
 mem:m=1114112 ∨ m ∈ l
theorem LeastS.start {n:Int} {l:List Int} (h:n ≤ 1114112):LeastS n l 0 1114112:=⟨h,by omega,by simp,.inl rfl⟩
theorem LeastS.skip {n m x:Int} {l:List Int} {k:Nat} (h:LeastS n l k m) (hx:l[k]?=some x) (hlt:x < n):LeastS n l (k + 1) m:=by
 refine ⟨h.ge,h.top,fun c hc hn => ?_,h.mem⟩
 rw [List.take_add_one,hx] at hc
 simp at hc
 rcases hc with hc | rfl
 ·exact h.low c hc hn
 ·omega
theorem LeastS.next {n m x:Int} {l:List Int} {k:Nat} (h:LeastS n l k m) (hx:l[k]?=some x) (hge:n ≤ x):LeastS n l (k + 1) (min m x):=by
 refine ⟨by have:=h.ge;omega,by have:=h.top;omega,fun c hc hn => ?_,?_⟩
 ·rw [List.take_add_one,hx] at hc
  simp at hc
  rcases hc with hc | rfl
  ·have:=h.low c hc hn;omega
  ·omega
 ·by_cases hm:m ≤ x
  ·rw [Int.min_eq_left hm];exact h.mem
  ·rw [Int.min_eq_right (by omega)]
   exact .inr (List.mem_of_getElem? hx)
theorem LeastS.done {n m:Int} {l:List Int} (h:LeastS n l l.length m) (hl:cntL n l < l.length) (hr:∀ c ∈ l,c ≤ 1114111):m ∈ l ∧ m ≤ 1114111 ∧ ∀ c ∈ l,n ≤ c → m ≤ c:=by
 have hlow:∀ c ∈ l,n ≤ c → m ≤ c:=fun c hc => h.low c (by rw [List.take_length];exact hc)
 obtain ⟨c,hc,hn⟩:=exists_ge hl
 have h1:=hlow c hc hn
 have h2:=hr c hc
 refine ⟨?_,by omega,hlow⟩
 rcases h.mem with e | e
 ·omega
 ·exact e
end Go.Proofs.YtjafpikjpipbkaaGreatDoor
namespace Go.Proofs.YtjafpikjpipbkaaGreatDoor
open Go.RowKit ND
theorem ownsT_shape {w:World} {B:Nat} {e:TypeId} {k:Nat} {v:Value} {n:Nat} {xs:List Value} (h:ownsT w B e k v n xs):∃ A c,v=.slice A n c:=by
 rcases h.2 with ⟨rfl,rfl⟩ | ⟨g,cap,cur,fz,rfl,_⟩
 ·exact ⟨_,_,rfl⟩
 ·exact ⟨_,_,rfl⟩
def RetSE (w:World) (n:Nat) (e:Ending) (w':World):Prop:=∃ (s:ByteArray) (k:Int),e=.returned (.tuple #[.string s,.int .i64 k]) ∧ s.size ≤ n ∧ Below w.heap.size w w'
structure PunS (xs:List Int) (n:Int) (h:Nat) (d:Int):Prop where
 n0:128 ≤ n
 n1:n ≤ 1114112
 h0:h=cntL n xs
 d0:0 ≤ d
 d1:d ≤ 600 * n
theorem pencode_any (v:Value) (xs:List Int) (w:World) (hv:Ints w w.heap.size .i64 v xs) :
  Calls Tryz.prog 145 #[v] w (RetSE w 20000):=by
 obtain ⟨A,c,rfl,hc1,hc2,_,hcell⟩:=hv
 have HC:=Lib.hid hcell;clear hcell
 obtain ⟨i0,hi,hz0,hz1,hz2⟩:=info_parts Tryz.infoU8
 have hl0:xs.length ≤ 9223372036854775807:=by unfold maxLen at hc2;omega
 clear hc1 hc2
 by_cases hl:xs.length ≤ 256
 ·have z1:decide ((256:Int) < (xs.length:Int))=false:=by simp;omega
  go_enter Tryz.func145,Tryz.ntmps145
  go_wp2_with fail
  go_loopw [4,22] (fun o i wr => ∃ (k:Nat) (acc:List UInt8),k ≤ xs.length ∧ i=.int .i64 k ∧ ownsT wr w.heap.size 5 1 o acc.length (acc.map bv) ∧ acc.length ≤ k ∧ Hid (acc.length=cntL 128 (xs.take k)) ∧ Hid (∀ x ∈ xs.take k,scalarB x=true) ∧ Below w.heap.size w wr) (fun _ i _ => xs.length - (intOf i).toNat)
  case atStart => exact ⟨0,[],by omega,rfl,ownsT_of (World.ownsRow_nil _ _ _ _),by simp,Lib.hid (by simp [cntL]),Lib.hid (by simp),Below.refl _ _⟩
  case round =>
   obtain ⟨k,acc,hk,rfl,hown,hak,HAL,HS,hbel⟩:=hrel
   by_cases hlt:k < xs.length
   ·obtain ⟨x,hxk,hxm⟩:=get_of hlt
    obtain ⟨ad,rfl,hb,hce⟩:=HC.out k x hxk
    have hce':=(hbel.cell (p:=ad.add k) (by rw [block_of_add];exact hb)).trans hce
    have HXK:=Lib.hid hxk
    clear hce hxk hxm hb
    cases hsx:scalarB x
    ·have hlc:lenC x=0:=by unfold lenC;rw [hsx];rfl
     have hcl:=Lib.hid (fun W => length_any x W)
     rw [hlc] at hcl
     clear hsx hlc
     go_wp2_with (go_at_call 43;refine (hcl.out _).mono ?_;rintro e w1 ⟨rfl,rfl⟩)
     go_ret2
     exact ⟨_,_,rfl,Nat.zero_le _,hbel⟩
    ·have hlc:((lenC x:Int) == 0)=false:=by unfold lenC;rw [hsx,if_pos rfl];(repeat' split) <;> rfl
     have hcl:=Lib.hid (fun W => length_any x W)
     have hx0:=(scalarB_iff x).1 hsx
     have HSX:=Lib.hid hsx
     obtain ⟨L,hL⟩:∃ L,L=(lenC x:Int):=⟨_,rfl⟩
     rw [← hL] at hlc hcl
     clear hsx hL
     have hkey:Hid (∀ y ∈ xs.take (k + 1),scalarB y=true):=Lib.hid fun y hy => by
      rw [ND.take_snoc_get HXK.out,List.mem_append,List.mem_singleton] at hy
      rcases hy with hy | rfl
      ·exact HS.out y hy
      ·exact HSX.out
     obtain ⟨hx0,hx1,_⟩:=hx0
     by_cases h128:x < 128
     ·have y1:decide (x < 128)=true:=decide_eq_true h128
      have HCN:Hid ((acc ++ [UInt8.ofNat x.toNat]).length=cntL 128 (xs.take (k + 1))):=Lib.hid (by rw [cntL_step HXK.out,if_pos h128,List.length_append,HAL.out];rfl)
      have hbx:Value.int .u8 x=bv (UInt8.ofNat x.toNat):=by
       unfold bv;rw [u8_ofNat_toNat (by omega)];congr 1;omega
      have HBX:=Lib.hid hbx
      clear hbx
      go_wp2_with (first | (go_at_call 43;refine (hcl.out _).mono ?_;rintro e w1 ⟨rfl,rfl⟩) | (at_builtin;refine wpList_append_ownT _ rfl _ _ 143 rfl w.heap.size 5 i0 (.int .u8 0) 1 1 Tryz.underlying143 hi hz0 hz1 hz2 rfl (by decide) _ _ _ rfl (ownsT_alloc hown _) ⟨wr.heap.size,0,none⟩ 1 1 [.int .u8 x] rfl rfl (cell_one_new _ _ _) ?c2 ?c3 ?c4 ?c5 ?_))
      case c2 => intro u hu;simp at hu;subst hu;rfl
      case c3 => unfold maxLen;omega
      case c4 => omega
      case c5 => have:=hbel.size;simp;omega
      intro v' w1 hown1 hgrow
      have hbel1:Below w.heap.size w w1:=(hbel.alloc hbel.size _).grown hgrow (by have:=hbel.size;simp;omega) (fun k hk => (ownsT_lt hown k hk).1)
      clear hgrow hown hbel
      rw [HBX.out] at hown1
      go_wp2_with fail
      go_roundw
      case rel => exact ⟨k + 1,acc ++ [UInt8.ofNat x.toNat],by omega,by go_num,by simpa using hown1,by simp;omega,HCN,hkey,hbel1⟩
      case measure => simp [intOf];omega
     ·have y1:decide (x < 128)=false:=decide_eq_false h128
      have HCN:Hid (acc.length=cntL 128 (xs.take (k + 1))):=Lib.hid (by rw [cntL_step HXK.out,if_neg h128,HAL.out];rfl)
      go_wp2_with (go_at_call 43;refine (hcl.out _).mono ?_;rintro e w1 ⟨rfl,rfl⟩)
      go_roundw
      case rel => exact ⟨k + 1,acc,by omega,by go_num,hown,by omega,HCN,hkey,hbel⟩
      case measure => simp [intOf];omega
   ·obtain rfl:k=xs.length:=by omega
    rw [List.take_length] at HAL HS
    have hal0:acc.length ≤ 256:=by omega
    have hB:=hbel.size
    by_cases hpos:0 < acc.length
    case' pos =>
     have y1:decide ((0:Int) < (acc.length:Int))=true:=by simp;omega
     obtain ⟨A4,c4,hu4⟩:∃ A4 c4,u4=.slice A4 acc.length c4:=ownsT_shape hown
     subst hu4
     go_wp2_with (at_builtin;refine wpList_append_ownT _ rfl _ _ 143 rfl w.heap.size 5 i0 (.int .u8 0) 1 1 Tryz.underlying143 hi hz0 hz1 hz2 rfl (by decide) _ _ _ rfl (ownsT_alloc hown _) ⟨wr.heap.size,0,none⟩ 1 1 [bv 45] rfl rfl (cell_one_new _ _ _) ?c2 ?c3 ?c4 ?c5 ?_)
     case c2 => intro u hu;simp at hu;subst hu;rfl
     case c3 => unfold maxLen;omega
     case c4 => omega
     case c5 => simp;omega
     intro v' w1 hown1 hgrow
     have hbel1:Below w.heap.size w w1:=(hbel.alloc hB _).grown hgrow (by simp;omega) (fun k hk => (ownsT_lt hown k hk).1)
     obtain ⟨acc1,ha1⟩:∃ acc1,acc1=acc ++ [45]:=⟨_,rfl⟩
     have hown2:ownsT w1 w.heap.size 5 1 v' acc1.length (acc1.map bv):=by rw [ha1];simpa using hown1
     have hal1:acc1.length ≤ 257:=by rw [ha1,List.length_append];exact Nat.succ_le_succ hal0
     clear hgrow hown hbel hown1 ha1
     go_wp2_with fail
    case' neg =>
     have y1:decide ((0:Int) < (acc.length:Int))=false:=decide_eq_false (by omega)
     obtain ⟨A4,c4,hu4⟩:∃ A4 c4,u4=.slice A4 acc.length c4:=ownsT_shape hown
     subst hu4
     have hal1:acc.length ≤ 257:=by omega
     have hown2:=hown
     have hbel1:=hbel
     clear hown hbel
     go_wp2_with fail
    all_goals
     have hB1:=hbel1.size
     go_loopw [4,7,8,9,10,11] (fun o hh ff nn dd bb wr => ∃ (acc:List UInt8) (n:Int) (h:Nat) (d b:Int) (f:Bool),hh=.int .i64 h ∧ ff=.bool f ∧ nn=.int .i64 n ∧ dd=.int .i64 d ∧ bb=.int .i64 b ∧ Hid (PunS xs n h d) ∧ ownsT wr w.heap.size 5 1 o acc.length (acc.map bv) ∧ acc.length ≤ 257 + 60 * h ∧ Below w.heap.size w wr) (fun _ hh _ _ _ _ _ => xs.length - (intOf hh).toNat)
     case atStart => exact ⟨_,128,acc.length,0,72,true,rfl,rfl,rfl,rfl,rfl,Lib.hid ⟨by omega,by omega,HAL.out,by omega,by omega⟩,hown2,by omega,hbel1⟩
     case round =>
      obtain ⟨acc2,n,h,d,b,f,rfl,rfl,rfl,rfl,rfl,HP,hown3,hal3,hbel3⟩:=hrel
      have hB3:=hbel3.size
      by_cases hlt:h < xs.length
      ·have y2:decide ((h:Int) < (xs.length:Int))=true:=by simp;omega
       obtain ⟨w2,hw2⟩:∃ w2,w2=wr:=⟨_,rfl⟩
       subst hw2
       go_wp2_with fail
       go_loopw [12,50] (fun mm i wr => ∃ (m:Int) (k:Nat),k ≤ xs.length ∧ i=.int .i64 k ∧ mm=.int .i64 m ∧ Hid (LeastS n xs k m) ∧ w2=wr) (fun _ i _ => xs.length - (intOf i).toNat)
       case atStart => exact ⟨_,0,by omega,rfl,rfl,Lib.hid (LeastS.start HP.out.n1),rfl⟩
       case round =>
        obtain ⟨m,k,hk,rfl,rfl,HM,rfl⟩:=hrel
        by_cases hlt2:k < xs.length
        ·obtain ⟨x,hxk,hxm⟩:=get_of hlt2
         obtain ⟨ad,rfl,hb,hce⟩:=HC.out k x hxk
         have hce':=(hbel3.cell (p:=ad.add k) (by rw [block_of_add];exact hb)).trans hce
         have HXK:=Lib.hid hxk
         clear hce hxk hxm hb
         by_cases hnx:n ≤ x
         ·have y3:decide (n ≤ x)=true:=decide_eq_true hnx
          have HN:=Lib.hid (HM.out.next HXK.out hnx)
          obtain ⟨m2,hm2⟩:∃ m2,m2=if x < m then x else m:=⟨_,rfl⟩
          have hm3:min m x=m2:=by rw [hm2];split <;> omega
          rw [hm3] at HN
          clear hm3
          go_wp2_with fail
          go_roundw
          case rel => exact ⟨m2,k + 1,by omega,by go_num,by rw [hm2],HN,trivial⟩
          case measure => simp [intOf];omega
         ·have y3:decide (n ≤ x)=false:=decide_eq_false hnx
          have HN:=Lib.hid (HM.out.skip HXK.out (by omega))
          go_wp2_with fail
          go_roundw
          case rel => exact ⟨m,k + 1,by omega,by go_num,rfl,HN,trivial⟩
          case measure => simp [intOf];omega
        ·obtain rfl:k=xs.length:=by omega
         have HD:=Lib.hid (HM.out.done (by rw [← HP.out.h0];exact hlt) (fun c hc => ((scalarB_iff c).1 (HS.out c hc)).2.1))
         have hm0:=HM.out.ge
         have hm1:=HD.out.2.1
         have hp:=HP.out
         have hd0:=hp.d0;have hd1:=hp.d1;have hn0:=hp.n0;have hn1:=hp.n1
         have hmb:=mul_bounds (show 0 ≤ m - n by omega) (Int.le_refl _) (show (0:Int) ≤ (h:Int) + 1 by omega) (show (h:Int) + 1 ≤ 257 by omega)
         clear hp
         obtain ⟨D,hD⟩:∃ D,D=d + (m - n) * ((h:Int) + 1):=⟨_,rfl⟩
         have hD0:0 ≤ D:=by omega
         have hD1:D ≤ 600 * n + (m - n) * 257:=by omega
         go_upto_region 25 with fail
         rw [← hD]
         clear hD hmb
         go_wp2_with fail
         go_loopw [4,7,8,10,11,71] (fun o hh ff dd bb i wr => ∃ (acc:List UInt8) (k h':Nat) (d' b':Int) (f':Bool),k ≤ xs.length ∧ i=.int .i64 k ∧ hh=.int .i64 h' ∧ ff=.bool f' ∧ dd=.int .i64 d' ∧ bb=.int .i64 b' ∧ h' ≤ h + k ∧ Hid (h'=h + cntE m (xs.take k)) ∧ 0 ≤ d' ∧ d' ≤ D + k ∧ ownsT wr w.heap.size 5 1 o acc.length (acc.map bv) ∧ acc.length ≤ 257 + 60 * h' ∧ Below w.heap.size w wr) (fun _ _ _ _ _ i _ => xs.length - (intOf i).toNat)
         case atStart => exact ⟨acc2,0,h,D,b,f,by omega,rfl,rfl,rfl,rfl,rfl,by omega,Lib.hid (by simp [cntE]),hD0,by omega,hown3,hal3,hbel3⟩
         case round =>
          obtain ⟨acc3,k,h',d',b',f',hk,rfl,rfl,rfl,rfl,rfl,hhk,HH,hd'0,hd'1,hown4,hal4,hbel4⟩:=hrel
          have hB4:=hbel4.size
          by_cases hlt3:k < xs.length
          ·obtain ⟨x,hxk,hxm⟩:=get_of hlt3
           obtain ⟨ad,rfl,hb,hce⟩:=HC.out k x hxk
           have hce':=(hbel4.cell (p:=ad.add k) (by rw [block_of_add];exact hb)).trans hce
           have HXK:=Lib.hid hxk
           clear hce hxk hxm hb
           by_cases hxm:x=m
           ·subst hxm
            have y3:decide (x < x)=false:=by simp
            have y4:(x == x)=true:=by simp
            have HN:Hid (h' + 1=h + cntE x (xs.take (k + 1))):=Lib.hid (by rw [cntE_step HXK.out,if_pos rfl,HH.out];omega)
            go_wp2_with fail
            refine (pput_any d' b' acc3 _ w.heap.size wr hd'0 (by omega) hown4 hB4 (by omega)).mono ?_
            rintro e w5 ⟨v5,acc5,rfl,hown5,hal5,bb5⟩
            have hbel5:=hbel4.trans bb5
            clear hown4 hbel4 bb5
            go_upto_region 34 with (go_at_call 144;refine (adapt_any _ _ _ _ (by omega) (by omega) (by omega) (by omega)).mono ?_;rintro e w6 ⟨⟨r,rfl⟩,rfl⟩)
            go_wp2_with fail
            go_roundw
            case rel => exact ⟨acc5,k + 1,h' + 1,0,r,false,by omega,by go_num,by go_num,rfl,rfl,rfl,by omega,HN,by omega,by omega,hown5,by omega,hbel5⟩
            case measure => simp [intOf];omega
           ·have y4:(x == m)=false:=by simpa using hxm
            have HN:Hid (h'=h + cntE m (xs.take (k + 1))):=Lib.hid (by rw [cntE_step HXK.out,if_neg hxm,HH.out];rfl)
            by_cases hxl:x < m
            ·have y3:decide (x < m)=true:=decide_eq_true hxl
             go_wp2_with fail
             go_roundw
             case rel => exact ⟨acc3,k + 1,h',d' + 1,b',f',by omega,by go_num,rfl,rfl,by go_num,rfl,by omega,HN,by omega,by omega,hown4,hal4,hbel4⟩
             case measure => simp [intOf];omega
            ·have y3:decide (x < m)=false:=decide_eq_false hxl
             go_wp2_with fail
             go_roundw
             case rel => exact ⟨acc3,k + 1,h',d',b',f',by omega,by go_num,rfl,rfl,rfl,rfl,by omega,HN,by omega,by omega,hown4,hal4,hbel4⟩
             case measure => simp [intOf];omega
          ·obtain rfl:k=xs.length:=by omega
           rw [List.take_length] at HH
           have hpos2:=cntE_pos HD.out.1
           have hh':=HH.out
           have HPN:Hid (PunS xs (m + 1) h' (d' + 1)):=Lib.hid ⟨by omega,by omega,by rw [cntL_next hm0 HD.out.2.2,hh',HP.out.h0],by omega,by omega⟩
           have hlth:h < h':=by omega
           clear hh' hpos2
           go_wp2_with fail
           refine ⟨⟨acc3,m + 1,h',d' + 1,b',f',rfl,rfl,by go_num,by go_num,rfl,HPN,hown4,hal4,hbel4⟩,by simp [intOf];omega⟩
      ·have y2:decide ((h:Int) < (xs.length:Int))=false:=by simp;omega
       have hcv:=bytes_of_ownsT (P:=Tryz.prog) 143 9 hown3 Tryz.underlying143 Tryz.underlying5 Tryz.underlying9
       have hsz:ByteArray.size ⟨acc2.toArray⟩ ≤ 20000:=by show acc2.length ≤ 20000;have:=HP.out.h0;have:=cntL_le n xs;omega
       clear hown3
       go_wp2_with fail
       go_ret2
       exact ⟨_,_,rfl,hsz,hbel3⟩
 ·have z1:decide ((256:Int) < (xs.length:Int))=true:=by simp;omega
  go_enter Tryz.func145,Tryz.ntmps145
  go_wp2_with fail
  go_ret2
  exact ⟨_,_,rfl,Nat.zero_le _,Below.refl _ _⟩
end Go.Proofs.YtjafpikjpipbkaaGreatDoor
namespace Go.Proofs.YtjafpikjpipbkaaGreatDoor
open Go.RowKit
def asciiB (c:Int):Bool:=decide (0 ≤ c ∧ c ≤ 127)
theorem ascii_any (v:Value) (xs:List Int) (w:World) (hv:Ints w w.heap.size .i64 v xs) :
  Calls Tryz.prog 58 #[v] w fun e w' => e=.returned (.bool (xs.all asciiB)) ∧ w=w':=by
 obtain ⟨A,c,rfl,hc1,hc2,_,hcell⟩:=hv
 have HC:=Lib.hid hcell;clear hcell
 have hl:xs.length ≤ 9223372036854775807:=by unfold maxLen at hc2;omega
 clear hc1 hc2
 obtain ⟨R,hR⟩:∃ R,R=xs.all asciiB:=⟨_,rfl⟩
 rw [← hR]
 have HR:=Lib.hid hR;clear hR
 go_enter Tryz.func58,Tryz.ntmps58
 go_wp2_with fail
 go_loopw [7] (fun i wr => ∃ k:Nat,k ≤ xs.length ∧ i=.int .i64 k ∧ Hid ((xs.drop k).all asciiB=R) ∧ w=wr) (fun i _ => xs.length - (intOf i).toNat)
 case atStart => exact ⟨0,by omega,rfl,Lib.hid HR.out.symm,rfl⟩
 case round =>
  obtain ⟨k,hk,rfl,HS,rfl⟩:=hrel
  by_cases hlt:k < xs.length
  ·obtain ⟨x,hxk,_⟩:=get_of hlt
   obtain ⟨ad,rfl,ha,e1⟩:=HC.out k x hxk
   have HD:Hid ((xs.drop k).all asciiB=(asciiB x && (xs.drop (k + 1)).all asciiB)):=Lib.hid (by
    rw [List.drop_eq_getElem_cons hlt]
    have:xs[k]=x:=by
     have:=List.getElem?_eq_getElem hlt
     rw [this] at hxk;exact Option.some.inj hxk
    rw [this];rfl)
   have k0:(0:Int) ≤ (k:Int):=by omega
   have k1:(k:Int) < (xs.length:Int):=by omega
   clear hxk
   by_cases hx:0 ≤ x ∧ x ≤ 127
   ·have y1:decide (x < 0)=false:=by simp;omega
    have y2:decide (127 < x)=false:=by simp;omega
    have HN:Hid ((xs.drop (k + 1)).all asciiB=R):=Lib.hid (by
     have h:=HS.out
     rw [HD.out,show asciiB x=true by unfold asciiB;exact decide_eq_true hx,Bool.true_and] at h
     exact h)
    go_wp2_with fail
    go_roundw
    case rel => exact ⟨k + 1,by omega,by go_num,HN,trivial⟩
    case measure => simp [intOf];omega
   ·have HF:Hid (R=false):=Lib.hid (by
     have h:=HS.out
     rw [HD.out,show asciiB x=false by unfold asciiB;exact decide_eq_false hx,Bool.false_and] at h
     exact h.symm)
    have hw:decide (x < 0)=true ∨ (decide (x < 0)=false ∧ decide (127 < x)=true):=by
     by_cases h:x < 0
     ·exact .inl (decide_eq_true h)
     ·exact .inr ⟨decide_eq_false h,decide_eq_true (by omega)⟩
    clear hx
    rcases hw with y1 | ⟨y1,y2⟩
    all_goals
     go_wp2_with fail
     go_ret
     rw [HF.out]
     exact ⟨rfl,rfl⟩
  ·have HF:Hid (R=true):=Lib.hid (by
    have h:=HS.out
    rw [List.drop_of_length_le (by omega)] at h
    exact h.symm)
   go_wp2_with fail
   go_ret
   rw [HF.out]
   exact ⟨rfl,rfl⟩
end Go.Proofs.YtjafpikjpipbkaaGreatDoor
namespace Go.Proofs.YtjafpikjpipbkaaGreatDoor
open Go.RowKit Go.Lib
section
variable {P:Program} (w:World)
theorem run_append_ownT_string (base:Nat) (t u ty e:TypeId) (i:TypeInfo) (ht:P.underlying t=some (.slice e)) (hu:P.underlying u=some .string) (hi:P.info? e=some i) (hz:i.zero=some (.int .u8 0))
  (hsize:i.size=1) (hby:i.bytes=1)
  (v:Value) (n:Nat) (xs:List Value) (hown:ownsT w base e 1 v n xs) (s:ByteArray)
  (h63:n + s.size ≤ maxLen) (hbytes:n + s.size ≤ 140737488355328) (hbase:base ≤ w.heap.size) :
  ∃ v' w',(Builtin.append_ #[t,u] ty #[v,.string s]).run P w=.ok v' w' ∧ ownsT w' base e 1 v' (n + s.size) (xs ++ strCells s) ∧ w.grownBy w' v.ownBlock:=by
 have hsmall:n + s.size ≤ 9223372036854775807:=by simp only [maxLen] at h63;omega
 rcases hown.2 with ⟨rfl,rfl⟩ | ⟨g,cap,cur,fz,rfl,hbg,hg,hcl,hnc,hcm,hcs,htake⟩
 ·obtain ⟨v',w',h1,h2,h3,_⟩:=run_append_own_string (P:=P) w base t u ty e i ht hu hi hz hsize hby (.slice none 0 0) 0 xs ⟨hown.1,.inl ⟨rfl,rfl⟩⟩ s h63 hbytes hbase
  exact ⟨v',w',h1,ownsT_of h2,h3⟩
 ·have hxl:xs.length=n:=by simpa using hown.1
  have hlen:(xs ++ strCells s).length=(n + s.size) * 1:=by rw [List.length_append,hxl,strCells_length,Nat.mul_one]
  by_cases hroom:n + s.size ≤ cap
  ·have hcs':cur.size=cap:=by simpa using hcs
   have hf:=run_firstCells_string (P:=P) w 1 s
   have hst:=run_storeCells_atT P g n e fz (strCells s) 0 cur w hg hcl (by rw [strCells_length];omega) (strCells_oneCell s)
   simp only [Nat.add_zero,strCells_length] at hst
   have hr:(Builtin.append_ #[t,u] ty #[.slice (some ⟨g,0,none⟩) n cap,.string s]).run P w =
     .ok (.slice (some ⟨g,0,none⟩) (n + s.size) cap) (w.setRow g (cur.toList.take n ++ strCells s ++ cur.toList.drop (n + s.size)).toArray):=by
    simp [Builtin.append_,run_underlying ht,run_underlying hu,sizeOf,typeInfo,hi,hsize,Builtin.lenOf,hroom,hf,Addr.add_lit,hst]
   have hsz':(cur.toList.take n ++ strCells s ++ cur.toList.drop (n + s.size)).toArray.size=cur.size:=by
    simp only [List.size_toArray,List.length_append,List.length_take,List.length_drop,Array.length_toList,strCells_length]
    omega
   refine ⟨_,_,hr,⟨hlen,.inr ⟨g,cap,_,fz,rfl,hbg,setRow_heap w g cur _ e _ hg,by rw [hsz'];exact hcl,hroom,hcm,by rw [hsz',hcs],?_⟩⟩,⟨rfl,rfl,rfl,by simp,fun k _ hk => setRow_other w g k _ (fun e => hk (by simp [Value.ownBlock,e]))⟩⟩
   have ht':cur.toList.take n=xs:=by simpa using htake
   rw [ht',← hlen]
   exact List.take_left
  ·have holds:∀ j u,xs[j]?=some u → w.cell? ((⟨g,0,none⟩:Addr).add j)=some u:=ownsT_cells hown (g:=g) rfl
   have hr:=run_append_grow_string (P:=P) w t u ty e i (.int .u8 0) ht hu hi hz ⟨g,0,none⟩ n cap xs (by rw [hsize];simpa using hxl) holds s (by omega) (by omega) (by rw [hby];exact growslice_fits (by omega) (by omega))
   have hge:=grownCap_ge w (n + s.size) cap e
   have hcm2:grownCap w (n + s.size) cap e ≤ maxLen:=grownCap_le_maxLen w (n + s.size) cap e h63
   refine ⟨_,_,hr,⟨hlen,.inr ⟨w.heap.size,_,_,(0,0),rfl,hbase,heap_alloc_new w.drew _,.inl rfl,hge,hcm2,?_,?_⟩⟩,⟨rfl,rfl,rfl,by simp,fun k hk _ => Below.heap_alloc w.drew _ k hk⟩⟩
   ·have hz1:(Value.int IntKind.u8 0).cells.size=1:=rfl
    simp only [Array.size_append,List.size_toArray,size_zeroCells,hz1,hxl,strCells_length]
    omega
   ·simp only [Array.toList_append,List.append_assoc]
    rw [← List.append_assoc,← hlen]
    exact List.take_left
theorem wpList_append_ownT_string {ops:Array Oper} {rest:List Oper} {o:Oper} {a:Act} {Q:Exit → Act → World → Prop} (hgd:o.guard=none) (sl x:Operand) (t u:TypeId)
  (ho:o.op=.call { callee:=.builtin .append,args:=#[sl,x],argTypes:=#[t,u] })
  (base:Nat) (e:TypeId) (i:TypeInfo) (ht:P.underlying t=some (.slice e)) (hu:P.underlying u=some .string) (hi:P.info? e=some i) (hz:i.zero=some (.int .u8 0))
  (hsize:i.size=1) (hby:i.bytes=1)
  (v:Value) (n:Nat) (xs:List Value) (hs:a.eval sl=v) (hown:ownsT w base e 1 v n xs) (s:ByteArray) (hx:a.eval x=.string s)
  (h63:n + s.size ≤ maxLen) (hbytes:n + s.size ≤ 140737488355328) (hbase:base ≤ w.heap.size)
  (h:∀ v' w',ownsT w' base e 1 v' (n + s.size) (xs ++ strCells s) → w.grownBy w' v.ownBlock → wpList P ops Q rest (a.put o.dst v') w'):wpList P ops Q (o :: rest) a w:=by
 refine wpList_plain hgd fun K hK => ?_
 obtain ⟨v',w',hr,h2,h3⟩:=run_append_ownT_string (P:=P) w base t u o.type e i ht hu hi hz hsize hby v n xs hown s h63 hbytes hbase
 unfold Oper.wp execOp
 simp only [ho,resolve,invoke,builtin,Sem.run_bind,Sem.run_pure,Result.andThen_ok,List.map_toArray,List.map_cons,List.map_nil,hs,hx,hr]
 exact hK _ _ (h v' w' h2 h3)
end
theorem conv_same (w:World) (B:Nat) (hB:B ≤ w.heap.size) (cs:Array Value) (n:Nat) (hn:cs.size=n) (hm:n ≤ maxLen) :
  ∃ W,(convert 143 143 (.slice (some ⟨w.heap.size,0,none⟩) n n)).run Tryz.prog (w.alloc (.cells cs 5))=.ok (.slice (some ⟨w.heap.size,0,none⟩) n n) W ∧ ownsT W B 5 1 (.slice (some ⟨w.heap.size,0,none⟩) n n) n cs.toList ∧ Below B w W:=by
 subst hn
 have hnew:=heap_alloc_new w (.cells cs 5)
 refine ⟨w.alloc (.cells cs 5 (cs.size,cs.size + 1)),?_,⟨by simp,.inr ⟨_,_,cs,_,rfl,hB,heap_alloc_new w _,.inr (Nat.le_refl _),Nat.le_refl _,hm,by simp,by rw [Nat.mul_one];exact List.take_of_length_le (by simp)⟩⟩,(Below.refl _ w).alloc hB _⟩
 have h1:(shape w.heap.size).run Tryz.prog (w.alloc (.cells cs 5))=.ok ((w.alloc (.cells cs 5)).shape? w.heap.size) (w.alloc (.cells cs 5)):=rfl
 have h2:(w.alloc (.cells cs 5)).shape? w.heap.size=some (5,cs.size):=by unfold World.shape?;rw [hnew]
 have h3:(freeze ⟨w.heap.size,cs.size,none⟩ 1).run Tryz.prog (w.alloc (.cells cs 5))=.ok () ((w.alloc (.cells cs 5)).freeze ⟨w.heap.size,cs.size,none⟩ 1):=rfl
 have h4:(w.alloc (.cells cs 5)).freeze ⟨w.heap.size,cs.size,none⟩ 1=w.alloc (.cells cs 5 (cs.size,cs.size + 1)):=by
  unfold World.freeze World.alloc
  simp only [Nat.one_ne_zero,if_false]
  congr 1
  apply Array.ext_getElem?
  intro k
  rw [Array.getElem?_modify]
  by_cases hk:w.heap.size=k
  ·subst hk;simp
  ·rw [if_neg hk,Array.getElem?_push,Array.getElem?_push]
   rw [if_neg (Ne.symm hk),if_neg (Ne.symm hk)]
 rw [h2] at h1
 rw [h4] at h3
 simp [convert,run_underlying Tryz.underlying143,run_underlying Tryz.underlying5,markStringish,h1,h3]
end Go.Proofs.YtjafpikjpipbkaaGreatDoor
namespace Go.Proofs.YtjafpikjpipbkaaGreatDoor
open Go.RowKit ND
def asB (xs:List Int):List UInt8:=xs.map (fun c => UInt8.ofNat c.toNat)
def RetAE (w:World) (xs:List Int) (e:Ending) (w':World):Prop :=
 ∃ (s:ByteArray) (k:Int),e=.returned (.tuple #[.string s,.int .i64 k]) ∧ s.size ≤ 63 ∧ (xs.all asciiB=true → 0 < xs.length → xs.length ≤ 63 → k=0 ∧ s=⟨(asB xs).toArray⟩) ∧ Below w.heap.size w w'
theorem asB_length (xs:List Int):(asB xs).length=xs.length:=List.length_map _
theorem asB_step {xs:List Int} {k:Nat} {x:Int} (h:xs[k]?=some x):asB (xs.take (k + 1))=asB (xs.take k) ++ [UInt8.ofNat x.toNat]:=by
 unfold asB;rw [ND.take_snoc_get h,List.map_append];rfl
theorem ascii_at {xs:List Int} (h:xs.all asciiB=true) {k:Nat} {x:Int} (hx:xs[k]?=some x):0 ≤ x ∧ x ≤ 127:=by
 have:=List.all_eq_true.1 h x (List.mem_of_getElem? hx)
 unfold asciiB at this
 exact of_decide_eq_true this
theorem aencode_any (v:Value) (xs:List Int) (w:World) (hv:Ints w w.heap.size .i64 v xs) (hl:xs.length ≤ 100000) :
  Calls Tryz.prog 104 #[v] w (RetAE w xs):=by
 have hv0:=hv
 obtain ⟨A,c,rfl,hc1,hc2,_,hcell⟩:=hv
 have HC:=Lib.hid hcell;clear hcell
 have hi4:=Tryz.infoU8
 obtain ⟨i0,hi,hz0,hz1,hz2⟩:=info_parts Tryz.infoU8
 clear hc1 hc2 hi4
 by_cases h0:xs.length=0
 ·have z1:((xs.length:Int) == 0)=true:=by simp [h0]
  have HZ:=Lib.hid h0
  go_enter Tryz.func104,Tryz.ntmps104
  go_wp2_with fail
  go_ret2
  exact ⟨_,_,rfl,Nat.zero_le _,fun (_:xs.all asciiB=true) (h:0 < xs.length) _ => absurd HZ.out (by omega),Below.refl _ _⟩
 ·have z1:((xs.length:Int) == 0)=false:=beq_eq_false_iff_ne.2 (by omega)
  have HA:=Lib.hid (ascii_any _ xs w hv0)
  have HP:=Lib.hid (pencode_any _ xs w hv0)
  clear hv0
  go_enter Tryz.func104,Tryz.ntmps104
  cases hasc:xs.all asciiB
  case' true =>
   rw [hasc] at HA
   have HAS:=Lib.hid hasc
   go_wp2_with (go_at_call 58;refine HA.out.mono ?_;rintro e w1 ⟨rfl,rfl⟩)
   go_loopw [4,16] (fun o i wr => ∃ k:Nat,k ≤ xs.length ∧ i=.int .i64 k ∧ ownsT wr w.heap.size 5 1 o k ((asB (xs.take k)).map bv) ∧ Below w.heap.size w wr) (fun _ i _ => xs.length - (intOf i).toNat)
   case atStart => exact ⟨0,by omega,rfl,ownsT_of (World.ownsRow_nil _ _ _ _),Below.refl _ _⟩
   case' round =>
    obtain ⟨k,hk,rfl,hown,hbel⟩:=hrel
    have hB:=hbel.size
    rcases Nat.lt_or_ge k xs.length with hlt | hge
    ·obtain ⟨x,hxk,hxm⟩:=get_of hlt
     obtain ⟨ad,rfl,hb,hce⟩:=HC.out k x hxk
     have hce':=(hbel.cell (p:=ad.add k) (by rw [block_of_add];exact hb)).trans hce
     have hxb:=ascii_at HAS.out hxk
     have HXK:=Lib.hid hxk
     clear hce hxk hxm hb hasc
     obtain ⟨hx0,hx1⟩:=hxb
     have HBX:=Lib.hid (show Value.int .u8 x=bv (UInt8.ofNat x.toNat) by unfold bv;rw [u8_ofNat_toNat (by omega)];congr 1;omega)
     go_wp2_with (at_builtin;refine wpList_append_ownT _ rfl _ _ 143 rfl w.heap.size 5 i0 (.int .u8 0) 1 1 Tryz.underlying143 hi hz0 hz1 hz2 rfl (by decide) _ _ _ rfl (ownsT_alloc hown _) ⟨wr.heap.size,0,none⟩ 1 1 [.int .u8 x] rfl rfl (cell_one_new _ _ _) ?c2 ?c3 ?c4 ?c5 ?_)
     case c2 => intro u hu;simp at hu;subst hu;rfl
     case c3 => unfold maxLen;omega
     case c4 => omega
     case c5 => simp;omega
     intro v' w1 hown1 hgrow
     have hbel1:Below w.heap.size w w1:=(hbel.alloc hB _).grown hgrow (by simp;omega) (fun k hk => (ownsT_lt hown k hk).1)
     clear hgrow hown hbel
     rw [HBX.out] at hown1
     have hown2:ownsT w1 w.heap.size 5 1 v' (k + 1) ((asB (xs.take (k + 1))).map bv):=by rw [asB_step HXK.out,List.map_append];exact hown1
     clear hown1
     go_wp2_with fail
     go_roundw
     case rel => exact ⟨k + 1,by omega,by go_num,hown2,hbel1⟩
     case measure => simp [intOf];omega
    have hkl:k=xs.length:=by omega
    rw [hkl,List.take_length] at hown
    have y1:decide ((k:Int) < (xs.length:Int))=false:=decide_eq_false (by omega)
    obtain ⟨A4,c4,rfl⟩:=ownsT_shape hown
    have hcv:=bytes_of_ownsT (P:=Tryz.prog) (l:=asB xs) 143 9 (by rw [asB_length];exact hown) Tryz.underlying143 Tryz.underlying5 Tryz.underlying9
    clear hkl hown
    by_cases h63:xs.length ≤ 63
    ·have y2:decide ((63:Int) < (xs.length:Int))=false:=decide_eq_false (by omega)
     go_wp2_with fail
     go_ret2
     exact ⟨_,_,rfl,by show (asB xs).length ≤ 63;rw [asB_length];exact h63,fun _ _ _ => ⟨rfl,rfl⟩,hbel⟩
    ·have y2:decide ((63:Int) < (xs.length:Int))=true:=decide_eq_true (by omega)
     go_wp2_with fail
     go_ret2
     exact ⟨_,_,rfl,Nat.zero_le _,fun _ _ h => absurd h h63,hbel⟩
  case' false =>
   rw [hasc] at HA
   have HAS:=Lib.hid hasc
   go_upto_region 11 with (first | (go_at_call 58;refine HA.out.mono ?_;rintro e w1 ⟨rfl,rfl⟩) | (go_at_call 145;refine HP.out.mono ?_;rintro e w2 ⟨s2,k2,rfl,hs2,b2⟩))
   by_cases hk:k2=0
   case' neg =>
    have y1:(k2 != 0)=true:=by simpa using hk
    go_wp2_with fail
    go_ret2
    exact ⟨_,_,rfl,Nat.zero_le _,fun (h:xs.all asciiB=true) _ _ => Bool.noConfusion (HAS.out.symm.trans h),b2⟩
   have y1:(k2 != 0)=false:=by simpa using hk
   have hB2:=b2.size
   obtain ⟨W,hcw,hown,hbw⟩:=conv_same w2 w.heap.size hB2 #[.int .u8 120,.int .u8 110,.int .u8 45,.int .u8 45] 4 rfl (by unfold maxLen;omega)
   have hbel:=b2.trans hbw
   have hBW:=hbel.size
   clear b2 hbw
   go_wp2_with (at_builtin;refine wpList_append_ownT_string _ rfl _ _ 143 9 rfl w.heap.size 5 i0 Tryz.underlying143 Tryz.underlying9 hi hz0 hz1 hz2 _ _ _ rfl hown s2 rfl ?c3 ?c4 hBW ?_)
   case c3 => unfold maxLen;omega
   case c4 => omega
   intro v' w3 hown3 hgrow
   have hbel3:Below w.heap.size w w3:=hbel.grown hgrow hBW (fun k hk => (ownsT_lt hown k hk).1)
   obtain ⟨l3,hl3⟩:∃ l3:List UInt8,l3=[120,110,45,45] ++ s2.data.toList:=⟨_,rfl⟩
   have hll:l3.length=4 + s2.size:=by rw [hl3,List.length_append,Array.length_toList];rfl
   have hown4:ownsT w3 w.heap.size 5 1 v' l3.length (l3.map bv):=by rw [hll,hl3,List.map_append];exact hown3
   clear hown hown3 hgrow hbel hl3 hcw hll
   obtain ⟨A4,c4,rfl⟩:=ownsT_shape hown4
   have hcv:=bytes_of_ownsT (P:=Tryz.prog) 143 9 hown4 Tryz.underlying143 Tryz.underlying5 Tryz.underlying9
   clear hown4
   by_cases h63:l3.length ≤ 63
   ·have y2:decide ((63:Int) < (l3.length:Int))=false:=decide_eq_false (by omega)
    go_wp2_with fail
    go_ret2
    exact ⟨_,_,rfl,h63,fun (h:xs.all asciiB=true) _ _ => Bool.noConfusion (HAS.out.symm.trans h),hbel3⟩
   ·have y2:decide ((63:Int) < (l3.length:Int))=true:=decide_eq_true (by omega)
    go_wp2_with fail
    go_ret2
    exact ⟨_,_,rfl,Nat.zero_le _,fun (h:xs.all asciiB=true) _ _ => Bool.noConfusion (HAS.out.symm.trans h),hbel3⟩
end Go.Proofs.YtjafpikjpipbkaaGreatDoor
namespace Go.Proofs.YtjafpikjpipbkaaGreatDoor
open Go.RowKit ND
theorem refLength_any (c:Int) (w:World):Calls Tryz.prog 88 #[.int .i64 c] w fun e w' => e=.returned (.int .i64 (lenC c:Int)) ∧ w=w':=by
 cases h:scalarB c
 ·have hc:=Lib.hid (fun w => refScalar_any c w)
  rw [h] at hc
  rw [lenC_no h]
  clear h
  go_enter Tryz.func88,Tryz.ntmps88
  go_wp2_with (go_at_call 47;refine (hc.out _).mono ?_;rintro e w' ⟨rfl,rfl⟩)
  go_ret
  exact ⟨rfl,rfl⟩
 ·have hc:=Lib.hid (fun w => refScalar_any c w)
  rw [h] at hc
  rw [lenC_yes h]
  clear h
  go_enter Tryz.func88,Tryz.ntmps88
  go_wp2_with (go_at_call 47;refine (hc.out _).mono ?_;rintro e w' ⟨rfl,rfl⟩)
  all_goals go_ret
  all_goals refine ⟨ret_int ?_,rfl⟩
  all_goals (repeat (first | rfl | rw [if_pos (by omega)] | rw [if_neg (by omega)]))
end Go.Proofs.YtjafpikjpipbkaaGreatDoor
