/-
  Merged texts: lemmas and walks that the last text of this claim leans on.
-/
import Derived.Test.YtjafpikjpipbkaaGreatDoorMgTS19
import Derived.Test.YtjafpikjpipbkaaGreatDoorMgTS18
import Derived.Test.YtjafpikjpipbkaaGreatDoorMgTS17
import Derived.Test.YtjafpikjpipbkaaGreatDoorMgTS16
import Derived.Lib.Strings
import Derived.Test.YtjafpikjpipbkaaGreatDoorMgTS1
import Derived.Deep.QuietTactic
import Derived.Test.YtjafpikjpipbkaaGreatDoorMgTS10
import Derived.Test.YtjafpikjpipbkaaGreatDoorMgTS9
import Derived.Test.YtjafpikjpipbkaaGreatDoorMgTS5
import Derived.Deep.RegionLaw
set_option maxRecDepth 100000
set_option maxHeartbeats 40000000
namespace Go.Proofs.YtjafpikjpipbkaaGreatDoor
open Go.RowKit ND
theorem domain_any (t:Tv) (T:Tab) (v:Value) (ls:List (List Int)) (w:World) (ht:TabR w w.heap.size t T) (hg:Glob w) (hv:Lists w w.heap.size v ls) :
  Calls Tryz.prog 31 #[t.val,v] w fun e w' => e=.returned (.tuple #[.int .i64 (domR T ls).1,.int .i64 (domR T ls).2]) ∧ Below w.heap.size w w':=by
 obtain ⟨A,c,rfl,_⟩:=id hv
 have HB0:Hid (Below w.heap.size w (w.alloc (.cells t.cells 26))):=Lib.hid ((Below.refl _ _).alloc (Nat.le_refl _) _)
 have HT:Hid (Tbl (w.alloc (.cells t.cells 26)) w.heap.size t T):=Lib.hid ⟨Blk.new _ _ _,ht.later HB0.out⟩
 have HV:=Lib.hid (hv.later HB0.out)
 have HG:=Lib.hid (hg.later HB0.out)
 clear ht hv hg
 go_enter Tryz.func31,Tryz.ntmps31
 go_upto_region 1 with fail
 generalize w.alloc (.cells t.cells 26)=w1 at *
 obtain ⟨tb,htb⟩:∃ tb,w.heap.size=tb:=⟨_,rfl⟩
 rw [htb] at HT
 simp only [htb]
 have hml:ls.length ≤ 9223372036854775807:=by obtain ⟨_,_,_,h1,h2,_⟩:=HV.out;unfold maxLen at h2;omega
 have HFA:Hid (∀ r,firstA T 0 ls=some r → domR T ls=r):=Lib.hid fun r h => domR_some h
 have HFN:Hid (firstA T 0 ls=none → domR T ls=if ls.any (fun l => anyB T l [1,2,3])=true then rulesGo T 0 ls else (0,0)):=Lib.hid domR_none
 go_wp2_with fail
 go_loopw [15,6] (fun si s6 wr => ∃ (k:Nat) (b:Bool),k ≤ ls.length ∧ si=.int .i64 k ∧ s6=.bool b ∧ Hid (b=(ls.take k).any (fun l => anyB T l [1,2,3]) ∧ firstA T k (ls.drop k)=firstA T 0 ls) ∧ Hid (Below w1.heap.size w1 wr)) (fun si _ _ => ls.length - (intOf si).toNat)
 case atStart => exact ⟨0,false,by omega,rfl,rfl,Lib.hid ⟨rfl,rfl⟩,Lib.hid (Below.refl _ _)⟩
 case round =>
  obtain ⟨k,b,hk,rfl,rfl,HS,HBr⟩:=hrel
  by_cases hlt:k < ls.length
  ·obtain ⟨x,hxk⟩:∃ x,ls[k]?=some x:=⟨_,List.getElem?_eq_getElem hlt⟩
   obtain ⟨A0,cc0,ad,A',c',hve,rfl,ha,hce,hil⟩:=HV.out.at_ hxk
   cases hve
   have e1:=(HBr.out.cell (p:=ad.add k) (by rw [block_of_add];exact ha)).trans hce
   have HIL:=Lib.hid (hil.below HBr.out |>.more HBr.out.size)
   have k0:(0:Int) ≤ (k:Int):=by omega
   have k1:(k:Int) < (ls.length:Int):=by omega
   have HTr:=Lib.hid (HT.out.later HBr.out)
   have HGr:=Lib.hid (HG.out.later HBr.out)
   have HO:=Lib.hid (order_any t T _ x _ HTr.out.2 HGr.out HIL.out)
   have HST:=Lib.hid (firstA_step (T:=T) hxk)
   have HTK:=Lib.hid (take_any (p:=fun l => anyB T l [1,2,3]) hxk)
   have HRT:=Lib.hid (fun W (h:Below wr.heap.size wr W) => rtl_any t T _ x W (HTr.out.later h).2 (HGr.out.later h) (HIL.out.later h))
   clear hxk ha hce hil
   by_cases h0:accE T x=0
   ·have HRB:Hid (rtlR T x=anyB T x [1,2,3]):=Lib.hid (by unfold rtlR;rw [h0];rfl)
    have HN1:Hid (firstA T (k + 1) (ls.drop (k + 1))=firstA T 0 ls):=Lib.hid (by rw [← HS.out.2,HST.out,if_neg (by omega)])
    rw [h0] at HO
    rw [HRB.out] at HRT
    clear h0
    generalize ordL T x=ol at *
    cases b with
    | true =>
      have HN:Hid (true=(ls.take (k + 1)).any (fun l => anyB T l [1,2,3])):=Lib.hid (by rw [HTK.out,← HS.out.1];rfl)
      obtain ⟨x0,x1,x2,x3,x4,x5,x6,x7,x8,x9,x10,x11⟩:=HTr.out.1.tab
      go_wp2_with (go_at_call 37;refine HO.out.mono ?_;rintro e w3 ⟨u2,rfl,ho2,b3⟩;obtain ⟨A2,c2,rfl,_⟩:=id (Ints.of_own ho2);clear ho2)
      go_roundw
      case rel => exact ⟨k + 1,true,by omega,by go_num,rfl,Lib.hid ⟨HN.out,HN1.out⟩,Lib.hid (below_then HBr.out (Nat.le_refl _) b3)⟩
      case measure => simp [intOf];omega
    | false =>
      have HN:Hid (anyB T x [1,2,3]=(ls.take (k + 1)).any (fun l => anyB T l [1,2,3])):=Lib.hid (by rw [HTK.out,← HS.out.1];rfl)
      clear HRB HTK HST
      generalize anyB T x [1,2,3]=bx at *
      obtain ⟨x0,x1,x2,x3,x4,x5,x6,x7,x8,x9,x10,x11⟩:=HTr.out.1.tab
      go_upto_region 8 with (go_at_call 37;refine HO.out.mono ?_;rintro e w3 ⟨u2,rfl,ho2,b3⟩;obtain ⟨A2,c2,rfl,_⟩:=id (Ints.of_own ho2);clear ho2)
      clear x0 x1 x2 x3 x4 x5 x6 x7 x8 x9 x10 x11
      obtain ⟨x0,x1,x2,x3,x4,x5,x6,x7,x8,x9,x10,x11⟩:=(HTr.out.later b3).1.tab
      go_wp2_with (go_at_call 63;refine (HRT.out _ b3).mono ?_;rintro e w4 ⟨rfl,b4⟩)
      go_roundw
      case rel => exact ⟨k + 1,bx,by omega,by go_num,rfl,Lib.hid ⟨HN.out,HN1.out⟩,Lib.hid (below_then HBr.out (Nat.le_refl _) (below_next b3 b4))⟩
      case measure => simp [intOf];omega
   ·have HE:Hid (domR T ls=((k:Int),accE T x)):=Lib.hid (HFA.out _ (by rw [← HS.out.2,HST.out,if_pos h0]))
    have hb:(accE T x != 0)=true:=by simpa using h0
    clear h0 HST HTK HRT
    generalize ordL T x=ol at *
    generalize accE T x=er at *
    obtain ⟨x0,x1,x2,x3,x4,x5,x6,x7,x8,x9,x10,x11⟩:=HTr.out.1.tab
    go_wp2_with (go_at_call 37;refine HO.out.mono ?_;rintro e w3 ⟨u2,rfl,ho2,b3⟩;obtain ⟨A2,c2,rfl,_⟩:=id (Ints.of_own ho2);clear ho2)
    go_ret2
    rw [HE.out]
    exact ⟨rfl,below_w HB0.out (below_then HBr.out (Nat.le_refl _) b3)⟩
  ·have HN:Hid (firstA T 0 ls=none):=Lib.hid (by rw [← HS.out.2,List.drop_of_length_le (by omega)];rfl)
   have HRE:=Lib.hid (HFN.out HN.out)
   have HAC:=Lib.hid (firstA_none.1 HN.out)
   have HB:Hid (b=ls.any (fun l => anyB T l [1,2,3])):=Lib.hid (by have:=HS.out.1;rwa [List.take_of_length_le (by omega)] at this)
   have HRB:Hid (domR T ls=if b=true then rulesGo T 0 ls else (0,0)):=Lib.hid (by rw [HRE.out,← HB.out])
   have hq:¬ (k:Int) < (ls.length:Int):=by omega
   have HBr0:=Lib.hid HBr.out.size
   have HT2:=Lib.hid (HT.out.later HBr.out)
   have HV2:=Lib.hid (HV.out.later HBr.out)
   have HB2:=Lib.hid (below_next HB0.out HBr.out)
   clear HS HN HRE HB HFA HFN HT HV HG HB0 HBr hlt hk
   generalize wr=w9 at *
   go_wp2_with fail
   go_loopw [39] (fun si wr => ∃ (k:Nat),k ≤ ls.length ∧ si=.int .i64 k ∧ Hid (b=true → rulesGo T k (ls.drop k)=rulesGo T 0 ls) ∧ Hid (Below w9.heap.size w9 wr)) (fun si _ => ls.length - (intOf si).toNat)
   case atStart => exact ⟨0,by omega,rfl,Lib.hid fun _ => rfl,Lib.hid (Below.refl _ _)⟩
   case round =>
    obtain ⟨k,hk,rfl,HS,HBr⟩:=hrel
    by_cases hlt:k < ls.length
    ·obtain ⟨x,hxk⟩:∃ x,ls[k]?=some x:=⟨_,List.getElem?_eq_getElem hlt⟩
     have HX0:=Lib.hid (HAC.out x (List.mem_of_getElem? hxk))
     obtain ⟨A0,cc0,ad,A',c',hve,rfl,ha,hce,hil⟩:=HV2.out.at_ hxk
     cases hve
     have e1:=(HBr.out.cell (p:=ad.add k) (by rw [block_of_add];exact ha)).trans hce
     have HIL:=Lib.hid (hil.below HBr.out |>.more HBr.out.size)
     have k0:(0:Int) ≤ (k:Int):=by omega
     have k1:(k:Int) < (ls.length:Int):=by omega
     have HTr:=Lib.hid (HT2.out.later HBr.out)
     have HRU:=Lib.hid (rule_any t T _ x _ HTr.out.2 (accE_zero HX0.out).1 HIL.out)
     have HST:=Lib.hid (rulesGo_step (T:=T) hxk)
     clear hxk ha hce hil
     cases b with
     | false =>
       go_wp2_with fail
       go_roundw
       case rel => exact ⟨k + 1,by omega,by go_num,Lib.hid (fun h => by cases h),HBr⟩
       case measure => simp [intOf];omega
     | true =>
       by_cases hr:ruleL T x=0
       ·have HN:Hid (rulesGo T (k + 1) (ls.drop (k + 1))=rulesGo T 0 ls):=Lib.hid (by rw [← HS.out rfl,HST.out,if_neg (by omega)])
        rw [hr] at HRU
        clear hr HST
        obtain ⟨x0,x1,x2,x3,x4,x5,x6,x7,x8,x9,x10,x11⟩:=HTr.out.1.tab
        go_wp2_with (go_at_call 64;refine HRU.out.mono ?_;rintro e w3 ⟨rfl,b3⟩)
        go_roundw
        case rel => exact ⟨k + 1,by omega,by go_num,Lib.hid (fun _ => HN.out),Lib.hid (below_then HBr.out (Nat.le_refl _) b3)⟩
        case measure => simp [intOf];omega
       ·have HE:Hid (domR T ls=((k:Int),19)):=Lib.hid ((HRB.out.trans (if_pos rfl)).trans (by rw [← HS.out rfl,HST.out,if_pos hr]))
        have hb:(ruleL T x != 0)=true:=by simpa using hr
        clear hr HST
        generalize ruleL T x=rl at *
        obtain ⟨x0,x1,x2,x3,x4,x5,x6,x7,x8,x9,x10,x11⟩:=HTr.out.1.tab
        go_wp2_with (go_at_call 64;refine HRU.out.mono ?_;rintro e w3 ⟨rfl,b3⟩)
        go_ret2
        rw [HE.out]
        exact ⟨rfl,below_w HB2.out (below_then HBr.out (Nat.le_refl _) b3)⟩
    ·have HE:Hid (domR T ls=(0,0)):=Lib.hid (by
      rw [HRB.out]
      split
      ·rename_i hb
       rw [← HS.out hb,List.drop_of_length_le (by omega)];rfl
      ·rfl)
     go_wp2_with fail
     go_ret2
     rw [HE.out]
     exact ⟨rfl,below_w HB2.out HBr.out⟩
end Go.Proofs.YtjafpikjpipbkaaGreatDoor
namespace Go.Proofs.YtjafpikjpipbkaaGreatDoor
open Go.RowKit ND
theorem head_any (b:Nat) (hb:b < 256) (w:World):Calls Tryz.prog 126 #[.int .u8 b] w fun e w' => e=.returned (.tuple #[.int .i64 (headN b).1,.int .i64 (headN b).2]) ∧ w=w':=by
 go_enter Tryz.func126,Tryz.ntmps126
 go_wp2
 all_goals go_ret2
 all_goals unfold headN
 all_goals refine ⟨ret_int2 ?_ ?_,rfl⟩
 all_goals (repeat (first | rfl | (show (_:Int)=_;omega) | rw [if_pos (by omega)] | rw [if_neg (by omega)]))
end Go.Proofs.YtjafpikjpipbkaaGreatDoor
namespace Go.Proofs.YtjafpikjpipbkaaGreatDoor
open Go.RowKit ND
theorem bytes_drop' (s:ByteArray) (i:Nat) (h:i < s.size):s.data.toList.drop i=s[i] :: s.data.toList.drop (i + 1):=by
 rw [List.drop_eq_getElem_cons (by simpa using h)];rfl
theorem cont_bits {c x:Nat} (hc:c < 524288):bits .or .i64 ((c:Int) * 64) ((x:Int) % 64)=((c * 64 + x % 64:Nat):Int):=by
 have e1:(x:Int) % 64=((x % 64:Nat):Int):=by omega
 have e2:((c:Nat):Int) * 64=((c * 64:Nat):Int):=by omega
 rw [e1,e2,i64_or_nat _ _ (by omega) (by omega),nat_join 6 _ _ (by omega) (by omega)]
theorem pow64 (k:Nat):128 * 64 ^ (k + 1)=64 * (128 * 64 ^ k):=by rw [Nat.pow_succ];omega
theorem headN_le (b:Nat):(headN b).1 ≤ 4 ∧ (headN b).2 < 128:=by
 unfold headN;repeat (first | split | (constructor <;> simp only <;> omega))
theorem contN_none {c:Nat} {x:UInt8} {l:List UInt8} {R:Option Nat} (h:contN c (x :: l)=R) (hx:x.toNat < 128 ∨ 191 < x.toNat):R=none:=by
 subst h;rw [contN,if_pos hx]
theorem contN_more {c:Nat} {x:UInt8} {l:List UInt8} {R:Option Nat} (h:contN c (x :: l)=R) (h1:128 ≤ x.toNat) (h2:x.toNat ≤ 191):contN (c * 64 + x.toNat % 64) l=R:=by
 subst h;rw [contN,if_neg (by omega)]
def finF (R:Option Nat) (n:Nat):Nat × Nat :=
 match R with
 | none => (0,0)
 | some c => if lenC c=n then (c,n) else (0,0)
theorem finF_yes {c n:Nat} (h:lenC c=n):finF (some c) n=(c,n):=if_pos h
theorem finF_no {c n:Nat} (h:lenC c ≠ n):finF (some c) n=(0,0):=if_neg h
theorem firstP_cons {L:List UInt8} {b:UInt8} {r:List UInt8} {n c:Nat} (hL:L=b :: r) (hh:headN b.toNat=(n,c)) :
  firstP L=if n=0 ∨ r.length + 1 < n then (0,0) else finF (contN c (r.take (n - 1))) n:=by
 subst hL;simp only [firstP,hh];rfl
theorem first_any (s:ByteArray) (p:Nat) (w:World) (hs:s.size ≤ maxLen) (hp:p < s.size) :
  Calls Tryz.prog 73 #[.string s,.int .i64 p] w fun e w' => e=.returned (.tuple #[.int .i64 (firstP (s.data.toList.drop p)).1,.int .i64 (firstP (s.data.toList.drop p)).2]) ∧ Below w.heap.size w w':=by
 have hhd:=Lib.hid (fun w => head_any s[p].toNat s[p].toNat_lt w)
 have hle:=headN_le s[p].toNat
 obtain ⟨n,c,hh⟩:∃ n c,headN s[p].toNat=(n,c):=⟨_,_,rfl⟩
 have hf:=firstP_cons (bytes_drop' s p hp) hh
 rw [hh] at hhd hle
 simp only at hle
 have hlen:(s.data.toList.drop (p + 1)).length=s.size - (p + 1):=by
  rw [List.length_drop,Array.length_toList];rfl
 rw [hlen] at hf
 rw [hf]
 clear hf hlen hh
 unfold maxLen at hs
 rcases show (n < 1) ∨ (1 ≤ n ∧ s.size < p + n) ∨ (1 ≤ n ∧ p + n ≤ s.size) by omega with h1 | ⟨h1,h2⟩ | ⟨h1,h2⟩
 ·rw [if_pos (by omega)]
  have hb:((n:Int) == 0)=true:=beq_iff_eq.2 (by omega)
  go_enter Tryz.func73,Tryz.ntmps73
  go_wp2_with (go_at_call 126;refine (hhd.out _).mono ?_;rintro e w' ⟨rfl,rfl⟩)
  go_ret2
  exact ⟨rfl,Below.refl _ _⟩
 ·rw [if_pos (by omega)]
  have hb:((n:Int) == 0)=false:=beq_eq_false_iff_ne.2 (by omega)
  go_enter Tryz.func73,Tryz.ntmps73
  go_wp2_with (go_at_call 126;refine (hhd.out _).mono ?_;rintro e w' ⟨rfl,rfl⟩)
  go_ret2
  exact ⟨rfl,Below.refl _ _⟩
 ·rw [if_neg (by omega)]
  have hb:((n:Int) == 0)=false:=beq_eq_false_iff_ne.2 (by omega)
  obtain ⟨t,ht⟩:∃ t:ByteArray,t=s.extract (p + 1) (p + n):=⟨_,rfl⟩
  have htl:t.data.toList=(s.data.toList.drop (p + 1)).take (n - 1):=by
   rw [ht,Lib.extract_data];congr 1;omega
  have hts:t.size=n - 1:=by rw [ht,ByteArray.size_extract];omega
  obtain ⟨W,cap,hcv,hcells,hbel,hcap⟩:=conv_bytes (P:=Tryz.prog) w 9 143 5 t Tryz.underlying9 Tryz.underlying143 Tryz.underlying5
  rw [ht] at hcv
  rw [← htl]
  have HC:=Lib.hid hcells;clear hcells
  have hts1:t.size + 1 ≤ n:=by omega
  have hts2:n ≤ t.size + 1:=by omega
  obtain ⟨R,hR⟩:∃ R,contN c t.data.toList=R:=⟨_,rfl⟩
  rw [hR]
  have HR:=Lib.hid hR;clear hR htl
  have HTS:=Lib.hid ht;clear ht
  have HTS2:=Lib.hid hts;clear hts
  go_enter Tryz.func73,Tryz.ntmps73
  go_wp2_with (go_at_call 126;refine (hhd.out _).mono ?_;rintro e w' ⟨rfl,rfl⟩)
  have hk0:c < 128:=hle.2
  have hn4:n ≤ 4:=hle.1
  clear hcv hle
  go_loop [7,36] (fun u i => ∃ (k d:Nat),k + 1 ≤ n ∧ i=.int .i64 k ∧ u=.int .i64 d ∧ Hid (d < 128 * 64 ^ k) ∧ Hid (contN d (t.data.toList.drop k)=R)) (fun _ i => n - (intOf i).toNat)
  case atStart => exact ⟨0,c,by omega,rfl,rfl,Lib.hid (by simpa using hk0),by simpa using HR⟩
  case round =>
   obtain ⟨k,d,hk,rfl,rfl,HB,HU⟩:=hrel
   clear HR hk0
   by_cases hlt:k < t.size
   ·have hd:d < 524288:=by
     have h:=HB.out
     have:64 ^ k ≤ 64 ^ 2:=Nat.pow_le_pow_right (by omega) (by omega)
     omega
    have hc:=HC.out k hlt
    unfold bv at hc
    have hx:=t[k].toNat_lt
    have hdr:=bytes_drop' t k hlt
    have HU':Hid (contN d (t[k] :: t.data.toList.drop (k + 1))=R):=by rw [← hdr];exact HU
    clear hdr HU
    rcases show t[k].toNat < 128 ∨ (128 ≤ t[k].toNat ∧ 191 < t[k].toNat) ∨ (128 ≤ t[k].toNat ∧ t[k].toNat ≤ 191) by omega with h5 | ⟨h5,h6⟩ | ⟨h5,h6⟩
    ·go_wp2_with fail
     go_ret2
     exact ⟨by rw [contN_none HU'.out (.inl h5)];rfl,hbel⟩
    ·go_wp2_with fail
     go_ret2
     exact ⟨by rw [contN_none HU'.out (.inr h6)];rfl,hbel⟩
    ·go_wp2_with fail
     go_round
     case rel =>
      refine ⟨k + 1,d * 64 + t[k].toNat % 64,by omega,by go_num,?_,Lib.hid ?_,Lib.hid (contN_more HU'.out h5 h6)⟩
      ·rw [cont_bits hd]
      ·have h:=HB.out
       rw [pow64];omega
     case measure => simp [intOf];omega
   ·have hk2:k=n - 1:=by omega
    have hR:some d=R:=by
     have h:=HU.out
     rw [List.drop_of_length_le (by rw [Array.length_toList];show t.size ≤ k;omega)] at h
     exact h
    have HR:=Lib.hid hR
    have hd:d < 33554432:=by
     have h:=HB.out
     have:64 ^ k ≤ 64 ^ 3:=Nat.pow_le_pow_right (by omega) (by omega)
     omega
    clear hR HB HU hk2
    by_cases hl:lenC d=n
    ·have HX:Hid (finF R n=(d,n)):=Lib.hid (by rw [← HR.out,finF_yes hl])
     have hb2:(((lenC d:Nat):Int) != n)=false:=by rw [hl];simp
     clear hl
     go_wp2_with (go_at_call 43;refine (length_any _ _).mono ?_;rintro e w' ⟨rfl,rfl⟩)
     go_ret2
     exact ⟨by rw [HX.out];rfl,hbel⟩
    ·have HX:Hid (finF R n=(0,0)):=Lib.hid (by rw [← HR.out,finF_no hl])
     have hb2:(((lenC d:Nat):Int) != n)=true:=by rw [bne_iff_ne];omega
     clear hl
     go_wp2_with (go_at_call 43;refine (length_any _ _).mono ?_;rintro e w' ⟨rfl,rfl⟩)
     go_ret2
     exact ⟨by rw [HX.out];rfl,hbel⟩
end Go.Proofs.YtjafpikjpipbkaaGreatDoor
namespace Go.Proofs.YtjafpikjpipbkaaGreatDoor
open Go.RowKit ND
theorem Tryz.infoInt:(Tryz.prog.info? 3).map (fun i => (i.zero,i.size,i.bytes))=some (some (.int .i64 0),1,8):=by kernel_rfl
def RetInts1 (w:World) (cs:List Int) (k:Int) (e:Ending) (w':World):Prop :=
 ∃ v,e=.returned (.tuple #[v,.int .i64 k]) ∧ Ints w' w'.heap.size .i64 v cs ∧ Below w.heap.size w w'
theorem scan_stop {l:List UInt8} {n c:Nat} (hf:firstP l=(c,n)) (h:n=0):scanL l=([],0):=by
 rw [scanL_eq,hf,if_pos h]
theorem scan_go {l:List UInt8} {n c:Nat} (hf:firstP l=(c,n)) (h:n ≠ 0):scanL l=((c:Int) :: (scanL (l.drop n)).1,n + (scanL (l.drop n)).2):=by
 rw [scanL_eq,hf,if_neg h]
theorem scan_rel_stop {s:ByteArray} {p n c:Nat} {acc cs:List Int} {kt:Nat} (h:acc ++ (scanL (s.data.toList.drop p)).1=cs ∧ p + (scanL (s.data.toList.drop p)).2=kt) (hf:firstP (s.data.toList.drop p)=(c,n)) (hn:n=0) :
  acc=cs ∧ p=kt:=by
 rw [scan_stop hf hn] at h;simpa using h
theorem scan_rel_end {s:ByteArray} {p:Nat} {acc cs:List Int} {kt:Nat} (h:acc ++ (scanL (s.data.toList.drop p)).1=cs ∧ p + (scanL (s.data.toList.drop p)).2=kt) (hp:s.size ≤ p) :
  acc=cs ∧ p=kt:=by
 rw [List.drop_of_length_le (by rw [Array.length_toList];exact hp),scanL_nil] at h;simpa using h
theorem scan_rel_go {s:ByteArray} {p n c:Nat} {acc cs:List Int} {kt:Nat} (h:acc ++ (scanL (s.data.toList.drop p)).1=cs ∧ p + (scanL (s.data.toList.drop p)).2=kt) (hf:firstP (s.data.toList.drop p)=(c,n)) (hn:n ≠ 0) :
  (acc ++ [(c:Int)]) ++ (scanL (s.data.toList.drop (p + n))).1=cs ∧ (p + n) + (scanL (s.data.toList.drop (p + n))).2=kt:=by
 rw [scan_go hf hn,List.drop_drop] at h
 refine ⟨by simpa using h.1,by have:=h.2;simp only at this;omega⟩
end Go.Proofs.YtjafpikjpipbkaaGreatDoor
namespace Go.Proofs.YtjafpikjpipbkaaGreatDoor
open Go.RowKit ND
theorem scan_any (s:ByteArray) (w:World) (hs:s.size ≤ 2097152) :
  Calls Tryz.prog 36 #[.string s] w (RetInts1 w (scanL s.data.toList).1 (scanL s.data.toList).2):=by
 obtain ⟨i0,hi,hz0,hz1,hz2⟩:=info_parts Tryz.infoInt
 have hs1:s.size ≤ maxLen:=by unfold maxLen;omega
 have hin:Hid ([] ++ (scanL (s.data.toList.drop 0)).1=(scanL s.data.toList).1 ∧ 0 + (scanL (s.data.toList.drop 0)).2=(scanL s.data.toList).2):=Lib.hid (by simp)
 generalize (scanL s.data.toList).1=cs at *
 generalize (scanL s.data.toList).2=kt at *
 go_enter Tryz.func36,Tryz.ntmps36
 go_wp2_with fail
 go_loopw [4,5] (fun out i wr => ∃ (p:Nat) (acc:List Int),p ≤ s.size ∧ i=.int .i64 p ∧ wr.ownsRow w.heap.size 3 1 out acc.length (acc.map (Value.int .i64)) ∧ acc.length ≤ p ∧
   Hid (acc ++ (scanL (s.data.toList.drop p)).1=cs ∧ p + (scanL (s.data.toList.drop p)).2=kt) ∧ Below w.heap.size w wr) (fun _ i _ => s.size - (intOf i).toNat)
 case atStart => exact ⟨0,[],by omega,rfl,World.ownsRow_nil _ _ _ _,by simp,hin,Below.refl _ _⟩
 case round =>
  obtain ⟨p,acc,hp,rfl,hown,hal,HU,hbel⟩:=hrel
  clear hin
  by_cases hlt:p < s.size
  ·have hfs:=firstP_some (s.data.toList.drop p)
   obtain ⟨c,n,hf⟩:∃ c n,firstP (s.data.toList.drop p)=(c,n):=⟨_,_,rfl⟩
   rw [hf] at hfs
   have HF:=Lib.hid hf
   have hfirst:∀ W,Calls Tryz.prog 73 #[.string s,.int .i64 p] W fun e w' => e=.returned (.tuple #[.int .i64 c,.int .i64 n]) ∧ Below W.heap.size W w':=by
    intro W
    have h:=first_any s p W hs1 hlt;rw [hf] at h;exact h
   have hfirst:=Lib.hid hfirst
   by_cases hn:n=0
   ·have hb:((n:Int) == 0)=true:=beq_iff_eq.2 (by omega)
    have HX:=Lib.hid (scan_rel_stop HU.out HF.out hn)
    clear hfs hf hn
    go_wp2_with (go_at_call 73;refine (hfirst.out _).mono ?_;rintro e w1 ⟨rfl,b1⟩)
    go_ret2
    have h:=HX.out
    rw [← h.1,← h.2]
    exact ⟨_,rfl,(Ints.of_own hown).later b1,below_then hbel (Nat.le_refl _) b1⟩
   ·have hb:((n:Int) == 0)=false:=beq_eq_false_iff_ne.2 (by omega)
    have hpn:p + n ≤ s.size:=by
     have h:=(hfs hn).2.2.1
     rw [List.length_drop,Array.length_toList] at h
     have e:s.data.size=s.size:=rfl
     simp only at h
     omega
    have HX:=Lib.hid (scan_rel_go HU.out HF.out hn)
    have hn1:1 ≤ n:=by omega
    clear hfs hf hn HU
    go_wp2_with fail
    refine (hfirst.out _).mono ?_
    rintro e w1 ⟨rfl,b1⟩
    have hown1:=own_later hown b1
    have hbel1:=below_then hbel (Nat.le_refl _) b1
    clear hown b1 hbel
    go_wp2_with (at_builtin;refine wpList_append_own _ rfl _ _ 22 rfl w.heap.size 3 i0 (.int .i64 0) 1 8 Tryz.underlying22 hi hz0 hz1 hz2 rfl (by decide) _ _ _ rfl (hown1.alloc _) ⟨w1.heap.size,0,none⟩ 1 1 [.int .i64 (c:Int)] rfl rfl (cell_one_new _ _ _) ?c1 ?c2 ?c3 ?c4 ?_)
    case c1 => intro u hu;simp at hu;subst hu;rfl
    case c2 => unfold maxLen;omega
    case c3 => omega
    case c4 => have:=hbel1.size;simp;omega
    intro v' w2 hown2 hgrow _
    have hbel2:Below w.heap.size w w2:=(hbel1.alloc hbel1.size _).grown hgrow (by have:=hbel1.size;simp;omega) (fun k hk => (hown1.lt k hk).1)
    clear hgrow hown1 hbel1
    go_wp2_with fail
    go_roundw
    case rel => exact ⟨p + n,acc ++ [(c:Int)],hpn,by go_num,by simpa using hown2,by simp;omega,HX,hbel2⟩
    case measure => simp [intOf];omega
  ·have HX:=Lib.hid (scan_rel_end HU.out (by omega))
   go_wp2_with fail
   go_ret2
   have h:=HX.out
   rw [← h.1,← h.2]
   exact ⟨_,rfl,Ints.of_own hown,hbel⟩
end Go.Proofs.YtjafpikjpipbkaaGreatDoor
namespace Go.Proofs.YtjafpikjpipbkaaGreatDoor
open Go.RowKit ND
theorem enc_bv_1 {n:Nat} (h:n < 128):[Value.int .u8 (n:Int)]=(encN n).map bv:=by
 have e:encN n=[UInt8.ofNat n]:=by unfold encN;rw [if_pos h]
 rw [e,List.map_cons,List.map_nil,← bv_of (by omega) rfl]
theorem enc_bv_2 {n:Nat} (h:128 ≤ n) (h':n < 2048):[Value.int .u8 (192 + (n:Int) / 64),.int .u8 (128 + (n:Int) % 64)]=(encN n).map bv:=by
 rw [encN_2 h h',List.map_cons,List.map_cons,List.map_nil,← bv_of (x:=192 + (n:Int) / 64) (by omega) (by omega),← bv_of (x:=128 + (n:Int) % 64) (by omega) (by omega)]
theorem enc_bv_3 {n:Nat} (h:2048 ≤ n) (h':n < 65536):[Value.int .u8 (224 + (n:Int) / 4096),.int .u8 (128 + (n:Int) / 64 % 64),.int .u8 (128 + (n:Int) % 64)]=(encN n).map bv:=by
 rw [encN_3 h h',List.map_cons,List.map_cons,List.map_cons,List.map_nil,← bv_of (x:=224 + (n:Int) / 4096) (by omega) (by omega),← bv_of (x:=128 + (n:Int) / 64 % 64) (by omega) (by omega),← bv_of (x:=128 + (n:Int) % 64) (by omega) (by omega)]
theorem enc_bv_4 {n:Nat} (h:65536 ≤ n) (h':n ≤ 1114111):[Value.int .u8 (240 + (n:Int) / 262144),.int .u8 (128 + (n:Int) / 4096 % 64),.int .u8 (128 + (n:Int) / 64 % 64),.int .u8 (128 + (n:Int) % 64)]=(encN n).map bv:=by
 rw [encN_4 h,List.map_cons,List.map_cons,List.map_cons,List.map_cons,List.map_nil,← bv_of (x:=240 + (n:Int) / 262144) (by omega) (by omega),← bv_of (x:=128 + (n:Int) / 4096 % 64) (by omega) (by omega),← bv_of (x:=128 + (n:Int) / 64 % 64) (by omega) (by omega),← bv_of (x:=128 + (n:Int) % 64) (by omega) (by omega)]
theorem one_1 (n:Nat) (w:World) (h:n < 128) (hsc:scalarB n=true) :
  Calls Tryz.prog 48 #[.int .i64 n] w fun e w' => e=.returned (.string ⟨(encN n).toArray⟩) ∧ Below w.heap.size w w':=by
 have hlen:=Lib.hid (fun w => refLength_any n w)
 have e:lenC n=1:=by rw [lenC_yes hsc,if_pos (by omega)]
 rw [e] at hlen
 have hl:(encN n).length=1:=by have:=(lenC_encC hsc).1;rw [e] at this;simpa [encC] using this
 have hcv:=conv_new (P:=Tryz.prog) w 143 9 5 (encN n) _ 1 Tryz.underlying143 Tryz.underlying5 Tryz.underlying9 (enc_bv_1 h) hl
 clear e hsc hl
 go_enter Tryz.func48,Tryz.ntmps48
 go_wp2_with (go_at_call 88;refine (hlen.out _).mono ?_;rintro e w' ⟨rfl,rfl⟩)
 go_ret
 exact ⟨rfl,(Below.refl _ _).alloc (Nat.le_refl _) _⟩
theorem one_2 (n:Nat) (w:World) (h:128 ≤ n) (h':n < 2048) (hsc:scalarB n=true) :
  Calls Tryz.prog 48 #[.int .i64 n] w fun e w' => e=.returned (.string ⟨(encN n).toArray⟩) ∧ Below w.heap.size w w':=by
 have hlen:=Lib.hid (fun w => refLength_any n w)
 have e:lenC n=2:=by rw [lenC_yes hsc,if_neg (by omega),if_pos (by omega)]
 rw [e] at hlen
 have hl:(encN n).length=2:=by have:=(lenC_encC hsc).1;rw [e] at this;simpa [encC] using this
 have hcv:=conv_new (P:=Tryz.prog) w 143 9 5 (encN n) _ 2 Tryz.underlying143 Tryz.underlying5 Tryz.underlying9 (enc_bv_2 h h') hl
 clear e hsc hl
 go_enter Tryz.func48,Tryz.ntmps48
 go_wp2_with (go_at_call 88;refine (hlen.out _).mono ?_;rintro e w' ⟨rfl,rfl⟩)
 go_ret
 exact ⟨rfl,(Below.refl _ _).alloc (Nat.le_refl _) _⟩
theorem one_3 (n:Nat) (w:World) (h:2048 ≤ n) (h':n < 65536) (hsc:scalarB n=true) :
  Calls Tryz.prog 48 #[.int .i64 n] w fun e w' => e=.returned (.string ⟨(encN n).toArray⟩) ∧ Below w.heap.size w w':=by
 have hlen:=Lib.hid (fun w => refLength_any n w)
 have e:lenC n=3:=by rw [lenC_yes hsc,if_neg (by omega),if_neg (by omega),if_pos (by omega)]
 rw [e] at hlen
 have hl:(encN n).length=3:=by have:=(lenC_encC hsc).1;rw [e] at this;simpa [encC] using this
 have hcv:=conv_new (P:=Tryz.prog) w 143 9 5 (encN n) _ 3 Tryz.underlying143 Tryz.underlying5 Tryz.underlying9 (enc_bv_3 h h') hl
 clear e hsc hl
 go_enter Tryz.func48,Tryz.ntmps48
 go_wp2_with (go_at_call 88;refine (hlen.out _).mono ?_;rintro e w' ⟨rfl,rfl⟩)
 go_ret
 exact ⟨rfl,(Below.refl _ _).alloc (Nat.le_refl _) _⟩
theorem one_4 (n:Nat) (w:World) (h:65536 ≤ n) (h':n ≤ 1114111) (hsc:scalarB n=true) :
  Calls Tryz.prog 48 #[.int .i64 n] w fun e w' => e=.returned (.string ⟨(encN n).toArray⟩) ∧ Below w.heap.size w w':=by
 have hlen:=Lib.hid (fun w => refLength_any n w)
 have e:lenC n=4:=by rw [lenC_yes hsc,if_neg (by omega),if_neg (by omega),if_neg (by omega)]
 rw [e] at hlen
 have hl:(encN n).length=4:=by have:=(lenC_encC hsc).1;rw [e] at this;simpa [encC] using this
 have hcv:=conv_new (P:=Tryz.prog) w 143 9 5 (encN n) _ 4 Tryz.underlying143 Tryz.underlying5 Tryz.underlying9 (enc_bv_4 h h') hl
 clear e hsc hl
 go_enter Tryz.func48,Tryz.ntmps48
 go_wp2_with (go_at_call 88;refine (hlen.out _).mono ?_;rintro e w' ⟨rfl,rfl⟩)
 go_ret
 exact ⟨rfl,(Below.refl _ _).alloc (Nat.le_refl _) _⟩
theorem one_any (c:Int) (w:World) (hsc:scalarB c=true) :
  Calls Tryz.prog 48 #[.int .i64 c] w fun e w' => e=.returned (.string ⟨(encC c).toArray⟩) ∧ Below w.heap.size w w':=by
 have hs:=(scalarB_iff _).1 hsc
 obtain ⟨n,rfl⟩:=Int.eq_ofNat_of_zero_le hs.1
 rw [encC,Int.toNat_natCast]
 by_cases h1:n < 128
 ·exact one_1 n w h1 hsc
 ·by_cases h2:n < 2048
  ·exact one_2 n w (by omega) h2 hsc
  ·by_cases h3:n < 65536
   ·exact one_3 n w (by omega) h3 hsc
   ·exact one_4 n w (by omega) (by omega) hsc
end Go.Proofs.YtjafpikjpipbkaaGreatDoor
namespace Go.Proofs.YtjafpikjpipbkaaGreatDoor
open Go.RowKit ND
end Go.Proofs.YtjafpikjpipbkaaGreatDoor
namespace Go.Proofs.YtjafpikjpipbkaaGreatDoor
open Go.RowKit ND
end Go.Proofs.YtjafpikjpipbkaaGreatDoor
namespace Go.Proofs.YtjafpikjpipbkaaGreatDoor
open Go.RowKit ND
theorem refEnc_any (v:Value) (xs:List Int) (w:World) (hv:Ints w w.heap.size .i64 v xs):Calls Tryz.prog 26 #[v] w (RetEnc w (encodeL xs)):=by
 obtain ⟨A,c,rfl,hc1,hc2,_,hcell⟩:=hv
 have HC:=Lib.hid hcell;clear hcell
 have hc2':c ≤ 9223372036854775807:=by unfold maxLen at hc2;omega
 clear hc2
 by_cases h:4096 < xs.length
 ·rw [encodeL_full h]
  go_enter Tryz.func26,Tryz.ntmps26
  go_wp2_with fail
  go_ret2
  exact ⟨rfl,Below.refl _ _⟩
 ·have hl:xs.length ≤ 4096:=by omega
  clear h
  go_enter Tryz.func26,Tryz.ntmps26
  go_wp2_with fail
  go_loopw [4,12] (fun b i wr => ∃ (k:Nat) (s:ByteArray),k ≤ xs.length ∧ i=.int .i64 k ∧ b=.string s ∧ s.size ≤ 4 * k ∧ Hid (s.data.toList=encAll (xs.take k)) ∧
    Hid (∀ x ∈ xs.take k,scalarB x=true) ∧ Below w.heap.size w wr) (fun _ i _ => xs.length - (intOf i).toNat)
  case atStart => exact ⟨0,⟨#[]⟩,by omega,rfl,rfl,by decide,Lib.hid (by simp [encAll]),Lib.hid (by simp),Below.refl _ _⟩
  case round =>
   obtain ⟨k,s,hk,rfl,rfl,hsz,HE,HS,hbel⟩:=hrel
   by_cases hlt:k < xs.length
   ·obtain ⟨x,hxk,hxm⟩:=get_of hlt
    obtain ⟨ad,rfl,hb,hce⟩:=HC.out k x hxk
    have hce':=(hbel.cell (p:=ad.add k) (by rw [block_of_add];exact hb)).trans hce
    have HXK:=Lib.hid hxk
    clear hce hxk hxm hb
    cases hsx:scalarB x
    ·have hsc:=Lib.hid (fun W => refScalar_any x W)
     rw [hsx] at hsc
     have HX:=Lib.hid (encodeL_bad hl HXK.out hsx)
     clear hsx
     go_wp2_with (go_at_call 47;refine (hsc.out _).mono ?_;rintro e w1 ⟨rfl,rfl⟩)
     go_ret2
     rw [HX.out]
     exact ⟨rfl,hbel⟩
    ·have hsc:=Lib.hid (fun W => refScalar_any x W)
     rw [hsx] at hsc
     have hone:=Lib.hid (fun W => one_any x W hsx)
     have hle:=(lenC_encC hsx)
     have hle2:(encC x).length ≤ 4:=by omega
     have hle3:(⟨(encC x).toArray⟩:ByteArray).size ≤ 4:=hle2
     have HD:Hid ((⟨(encC x).toArray⟩:ByteArray).data.toList=encC x):=Lib.hid (by simp)
     generalize (⟨(encC x).toArray⟩:ByteArray)=t at *
     have HSX:=Lib.hid hsx
     clear hsx hle hle2
     go_wp2_with fail
     refine (hsc.out _).mono ?_
     rintro e w1 ⟨rfl,rfl⟩
     go_wp2_with fail
     refine (hone.out _).mono ?_
     rintro e w1 ⟨rfl,b1⟩
     have hbel1:=below_then hbel (Nat.le_refl _) b1
     clear b1 hbel
     go_wp2_with fail
     go_roundw
     case rel =>
      refine ⟨k + 1,s ++ t,by omega,by go_num,rfl,by rw [ByteArray.size_append];omega,Lib.hid ?_,Lib.hid ?_,hbel1⟩
      ·rw [take_snoc_of HXK.out,encAll_snoc,ByteArray.data_append,Array.toList_append,HE.out,HD.out]
      ·intro y hy
       rw [take_snoc_of HXK.out,List.mem_append,List.mem_singleton] at hy
       rcases hy with hy | rfl
       ·exact HS.out y hy
       ·exact HSX.out
     case measure => simp [intOf];omega
   ·obtain rfl:k=xs.length:=by omega
    rw [List.take_length] at HE HS
    have HX:=Lib.hid (encodeL_ok hl HS.out)
    go_wp2_with fail
    go_ret2
    rw [HX.out]
    refine ⟨?_,hbel⟩
    rw [← HE.out]
    rfl
end Go.Proofs.YtjafpikjpipbkaaGreatDoor
namespace Go.Proofs.YtjafpikjpipbkaaGreatDoor
open Go.RowKit ND
end Go.Proofs.YtjafpikjpipbkaaGreatDoor
namespace Go.Proofs.YtjafpikjpipbkaaGreatDoor
open Go.RowKit ND
theorem dec_any (s:ByteArray) (w:World):Calls Tryz.prog 8 #[.string s] w (RetDcd w (decodeL s.data.toList)):=by
 have hsl:=size_list s
 by_cases h:4096 < s.size
 ·rw [decodeL_full (by omega)]
  clear hsl
  go_enter Tryz.func8,Tryz.ntmps8
  go_wp2_with fail
  go_ret3
  exact ⟨_,rfl,Ints.none_,Below.refl _ _⟩
 ·have hsc:=Lib.hid (fun W => scan_any s W (by omega))
  by_cases h2:(scanL s.data.toList).2 < s.size
  ·rw [decodeL_bad (by omega) (by omega)]
   generalize (scanL s.data.toList).2=k at *
   generalize (scanL s.data.toList).1=cs at *
   clear hsl
   go_enter Tryz.func8,Tryz.ntmps8
   go_wp2_with fail
   refine (hsc.out _).mono ?_
   rintro e w1 ⟨v,rfl,_,b1⟩
   go_wp2_with fail
   go_ret3
   exact ⟨_,rfl,Ints.none_,b1⟩
  ·rw [decodeL_ok (by omega) (by omega)]
   generalize (scanL s.data.toList).2=k at *
   generalize (scanL s.data.toList).1=cs at *
   clear hsl
   go_enter Tryz.func8,Tryz.ntmps8
   go_wp2_with fail
   refine (hsc.out _).mono ?_
   rintro e w1 ⟨v,rfl,hv,b1⟩
   have HV:=Lib.hid hv;clear hv
   go_wp2_with fail
   go_ret3
   exact ⟨_,rfl,HV.out,b1⟩
end Go.Proofs.YtjafpikjpipbkaaGreatDoor
namespace Go.Proofs.YtjafpikjpipbkaaGreatDoor
open Go.RowKit ND
def Tv.set (t:Tv) (k:Nat) (v:Value):Tv:=match k with
 | 0 => { t with c0:=v }
 | 1 => { t with c1:=v }
 | 2 => { t with c2:=v }
 | 3 => { t with c3:=v }
 | 4 => { t with c4:=v }
 | 5 => { t with c5:=v }
 | 6 => { t with c6:=v }
 | 7 => { t with c7:=v }
 | 8 => { t with c8:=v }
 | 9 => { t with c9:=v }
 | 10 => { t with c10:=v }
 | _ => { t with c11:=v }
def Tv.arr (t:Tv):Array Value:=#[t.c0,t.c1,t.c2,t.c3,t.c4,t.c5,t.c6,t.c7,t.c8,t.c9,t.c10,t.c11]
theorem Tv.arr_set (t:Tv) {k:Nat} (hk:k < 12) (v:Value):(t.set k v).arr=t.arr.setIfInBounds k v:=by
 match k,hk with
 | 0,_ => rfl
 | 1,_ => rfl
 | 2,_ => rfl
 | 3,_ => rfl
 | 4,_ => rfl
 | 5,_ => rfl
 | 6,_ => rfl
 | 7,_ => rfl
 | 8,_ => rfl
 | 9,_ => rfl
 | 10,_ => rfl
 | 11,_ => rfl
theorem TabR.span {w:World} {B:Nat} {t:Tv} {T:Tab} (h:TabR w B t T) (hck:T.check=0) {k:Nat} (hk:k < 7) :
  ∃ (u:Value) (L:List Sp),t.arr[k]?=some u ∧ Spans w B u L ∧ L.length ≤ 256 ∧ ∀ (w':World) (B':Nat) (v':Value),TabR w' B' t T → Spans w' B' v' L → TabR w' B' (t.set k v') T:=by
 have hs:=shape_of hck
 match k,hk with
 | 0,_ => exact ⟨_,_,rfl,h.r0,hs.c0.2.1,fun w' B' v' h1 h2 => { h1 with r0:=h2 }⟩
 | 1,_ => exact ⟨_,_,rfl,h.r1,hs.c1.2.1,fun w' B' v' h1 h2 => { h1 with r1:=h2 }⟩
 | 2,_ => exact ⟨_,_,rfl,h.r2,hs.c2.2.1,fun w' B' v' h1 h2 => { h1 with r2:=h2 }⟩
 | 3,_ => exact ⟨_,_,rfl,h.r3,hs.c3.2.1,fun w' B' v' h1 h2 => { h1 with r3:=h2 }⟩
 | 4,_ => exact ⟨_,_,rfl,h.r4,hs.c4.2.1,fun w' B' v' h1 h2 => { h1 with r4:=h2 }⟩
 | 5,_ => exact ⟨_,_,rfl,h.r5,hs.c5.2.1,fun w' B' v' h1 h2 => { h1 with r5:=h2 }⟩
 | 6,_ => exact ⟨_,_,rfl,h.r6,hs.c6.2.1,fun w' B' v' h1 h2 => { h1 with r6:=h2 }⟩
def colM (j:Nat):Nat:=match j with
 | 0 => 7
 | 1 => 8
 | 2 => 9
 | _ => 11
theorem TabR.maps {w:World} {B:Nat} {t:Tv} {T:Tab} (h:TabR w B t T) (hck:T.check=0) {j:Nat} (hj:j < 4) :
  ∃ (u:Value) (D:List Mp),t.arr[colM j]?=some u ∧ Mapps w B u D ∧ D.length ≤ 256 ∧ (∀ d ∈ D,d.2.length ≤ 1000) ∧ ∀ (w':World) (B':Nat) (v':Value),TabR w' B' t T → Mapps w' B' v' D → TabR w' B' (t.set (colM j) v') T:=by
 have hs:=shape_of hck
 match j,hj with
 | 0,_ => exact ⟨_,_,rfl,h.r7,hs.lenM _ (by simp [Tab.mps]),fun d hd => ((sized_of hck).nx d hd).2,fun w' B' v' h1 h2 => { h1 with r7:=h2 }⟩
 | 1,_ => exact ⟨_,_,rfl,h.r8,hs.lenM _ (by simp [Tab.mps]),fun d hd => ((sized_of hck).nm d hd).2,fun w' B' v' h1 h2 => { h1 with r8:=h2 }⟩
 | 2,_ => exact ⟨_,_,rfl,h.r9,hs.lenM _ (by simp [Tab.mps]),fun d hd => ((sized_of hck).nd d hd).2,fun w' B' v' h1 h2 => { h1 with r9:=h2 }⟩
 | 3,_ => exact ⟨_,_,rfl,h.r11,hs.lenM _ (by simp [Tab.mps]),fun d hd => ((sized_of hck).np d hd).2,fun w' B' v' h1 h2 => { h1 with r11:=h2 }⟩
end Go.Proofs.YtjafpikjpipbkaaGreatDoor
namespace Go.Proofs.YtjafpikjpipbkaaGreatDoor
open Go.RowKit
theorem step_app_ints {P:Program} {ops:Array Oper} {o:Oper} {a:Act} {w:World} {K:Act → World → Prop} {Q:Exit → Act → World → Prop} {E:Prop} {T e:TypeId} {i0:TypeInfo} (hgd:o.guard=none) (s x:Operand)
  (ho:o.op=.call { callee:=.builtin .append,args:=#[s,x],argTypes:=#[T,T] }) (ht:P.underlying T=some (.slice e)) (hi:P.info? e=some i0) (hz:i0.zero=some (.int .i64 0)) (h1:i0.size=1) (h2:i0.bytes=8)
  (B base:Nat) (v:Value) (acc:List Int) (u:Value) (ys:List Int) (hs:a.eval s=v) (hx:a.eval x=u) (hown:w.ownsRow base e 1 v acc.length (acc.map (Value.int .i64))) (hu:Ints w B .i64 u ys) (hl:acc.length + ys.length ≤ 1000000) (hb:base ≤ w.heap.size)
  (h:∀ v' w',w'.ownsRow base e 1 v' (acc ++ ys).length ((acc ++ ys).map (Value.int .i64)) → w.grownBy w' v.ownBlock → K (a.put o.dst v') w') :
  if Region.wanted o (yielded ops a.tmps)=true then Oper.wp P o a w K Q else E:=by
 rw [if_pos (by simp [Region.wanted,hgd])]
 obtain ⟨A,c,rfl,hc1,hc2,hA,hcell⟩:=hu
 cases A with
 | none =>
   obtain rfl:c=0:=hA rfl
   obtain rfl:ys=[]:=List.eq_nil_of_length_eq_zero (by omega)
   have hr:=run_append_none (P:=P) (ty:=o.type) ht hi hown
   have h3:=h v w (by simpa using hown) (grown_refl w _)
   unfold Oper.wp execOp
   simp only [ho,resolve,invoke,builtin,Sem.run_bind,Sem.run_pure,Result.andThen_ok,List.map_toArray,List.map_cons,List.map_nil,hs,hx,List.length_nil,hr]
   exact h3
 | some ad =>
   refine wp_append_own w s x T ho base e i0 (.int .i64 0) 1 8 ht hi hz h1 h2 rfl (by omega) v acc.length _ hs hown ad ys.length c (ys.map (Value.int .i64)) hx (by simp) ?_ ?_ (by unfold maxLen;omega) (by omega) hb ?_
   ·intro j q hq
    rw [List.getElem?_map] at hq
    cases hy:ys[j]? with
    | none => rw [hy] at hq;cases hq
    | some y =>
      rw [hy] at hq;cases hq
      obtain ⟨ad',e1,_,e2⟩:=hcell j y hy
      cases e1;exact e2
   ·intro q hq
    obtain ⟨y,_,rfl⟩:=List.mem_map.1 hq
    rfl
   ·intro v' w' p q _
    exact h v' w' (by simpa using p) q
end Go.Proofs.YtjafpikjpipbkaaGreatDoor
