/-
  Merged texts: lemmas and walks that the last text of this claim leans on.
-/
import Derived.Test.YtjafpikjpipbkaaGreatDoorMgTS3
import Derived.Test.YtjafpikjpipbkaaGreatDoorMgTS4
import Derived.Test.YtjafpikjpipbkaaGreatDoorMgTS7
import Derived.Test.YtjafpikjpipbkaaGreatDoorMgTS1
set_option maxRecDepth 100000
set_option maxHeartbeats 40000000
namespace Go.Proofs.YtjafpikjpipbkaaGreatDoor
open Go.RowKit ND
def scrOk (last s:Int):Bool:=decide (3 ≤ s ∧ s ≤ 60 ∧ last < s)
theorem scr_go {last c:Int} {xs:List Int} {k:Nat} {R:Bool} (hx:xs[k]?=some c) (h:scrG last (xs.drop k)=R) (h1:scrOk last c=true):scrG c (xs.drop (k + 1))=R:=by
 rw [drop_of_get hx,scrG] at h;unfold scrOk at h1;rw [h1,Bool.true_and] at h;exact h
theorem scr_no {last c:Int} {xs:List Int} {k:Nat} {R:Bool} (hx:xs[k]?=some c) (h:scrG last (xs.drop k)=R) (h1:scrOk last c=false):R=false:=by
 rw [drop_of_get hx,scrG] at h;unfold scrOk at h1;rw [h1,Bool.false_and] at h;exact h.symm
theorem scr_end {last:Int} {xs:List Int} {k:Nat} {R:Bool} (hk:xs.length ≤ k) (h:scrG last (xs.drop k)=R):R=true:=by
 rw [List.drop_eq_nil_of_le hk] at h;exact h.symm
theorem scr_ways (last s:Int) (j:Nat) (h:j=0 → last=2):(scrOk last s=false ∧ decide (s < 3)=true) ∨ (scrOk last s=false ∧ decide (s < 3)=false ∧ decide (60 < s)=true) ∨
  (scrOk last s=true ∧ decide (s < 3)=false ∧ decide (60 < s)=false ∧ j=0) ∨ (scrOk last s=false ∧ decide (s < 3)=false ∧ decide (60 < s)=false ∧ 0 < j ∧ decide (s ≤ last)=true) ∨
  (scrOk last s=true ∧ decide (s < 3)=false ∧ decide (60 < s)=false ∧ 0 < j ∧ decide (s ≤ last)=false):=by
 unfold scrOk
 simp only [decide_eq_true_eq,decide_eq_false_iff_not]
 rcases Nat.eq_zero_or_pos j with hj | hj
 ·have:=h hj;omega
 ·omega
theorem scripts_check (v:Value) (xs:List Int) (w:World) (hv:Ints w w.heap.size .i64 v xs) :
  Calls Tryz.prog 95 #[v] w fun e w' => e=.returned (.bool (scrG 2 xs)) ∧ w=w':=by
 obtain ⟨A,c,rfl,hc1,hc2,_,hcell⟩:=hv
 have HC:=Lib.hid hcell
 have hlm:xs.length ≤ 9223372036854775807:=by unfold maxLen at hc2;omega
 clear hcell hc1 hc2
 obtain ⟨R,hR⟩:∃ R,R=scrG 2 xs:=⟨_,rfl⟩
 rw [← hR]
 have HR:Hid (scrG 2 (xs.drop 0)=R):=Lib.hid hR.symm
 clear hR
 go_enter Tryz.func95,Tryz.ntmps95
 go_wp2_with fail
 go_loop [7] (fun i => ∃ (j:Nat) (last:Int),j ≤ xs.length ∧ i=.int .i64 j ∧ Hid ((j=0 → last=2) ∧ (∀ i,j=i + 1 → xs[i]?=some last)) ∧ Hid (scrG last (xs.drop j)=R)) (fun i => xs.length - (intOf i).toNat)
 case atStart => exact ⟨0,2,by omega,rfl,Lib.hid ⟨fun _ => rfl,fun i h => by omega⟩,HR⟩
 case round =>
  obtain ⟨j,last,hj,rfl,HL,HS⟩:=hrel
  clear HR
  by_cases hjl:j < xs.length
  ·obtain ⟨s,hxj,_⟩:=get_el hjl
   obtain ⟨aj,rfl,ha,d0⟩:=HC.out j _ hxj
   have HX:=Lib.hid hxj
   have HL2:Hid ((j + 1=0 → s=2) ∧ (∀ i,j + 1=i + 1 → xs[i]?=some s)):=Lib.hid ⟨fun h => by omega,fun i h => by rw [show i=j by omega];exact hxj⟩
   have r0:(0:Int) ≤ (j:Int):=by omega
   have r1:(j:Int) < (xs.length:Int):=by omega
   clear hxj ha
   rcases scr_ways last s j HL.out.1 with ⟨ho,p0⟩ | ⟨ho,p0,p1⟩ | ⟨ho,p0,p1,p2⟩ | ⟨ho,p0,p1,p2,p3⟩ | ⟨ho,p0,p1,p2,p3⟩
   ·have HN:=Lib.hid (scr_no HX.out HS.out ho)
    clear ho HL
    go_wp2_with fail
    go_ret
    rw [HN.out]
    exact ⟨rfl,rfl⟩
   ·have HN:=Lib.hid (scr_no HX.out HS.out ho)
    clear ho HL
    go_wp2_with fail
    go_ret
    rw [HN.out]
    exact ⟨rfl,rfl⟩
   ·have HN:=Lib.hid (scr_go HX.out HS.out ho)
    have g0:decide (0 < j)=false:=by rw [decide_eq_false_iff_not];omega
    clear ho HL p2
    go_wp2_with fail
    go_round
    case rel => exact ⟨j + 1,s,by omega,by go_num,HL2,HN⟩
    case measure => simp [intOf];omega
   ·have HN:=Lib.hid (scr_no HX.out HS.out ho)
    obtain ⟨j',hj'⟩:∃ j',j=j' + 1:=⟨j - 1,by omega⟩
    have hxp:=HL.out.2 j' hj'
    obtain ⟨ap,hap,_,e0⟩:=HC.out j' _ hxp
    cases hap
    have hw:IntKind.i64.wrap ((j:Int) - 1)=j':=by rw [IntWalk.i64_in _ (by omega)];omega
    have hw2:(j:Int) - 1=j':=by omega
    have s0:(0:Int) ≤ (j':Int):=by omega
    have s1:(j':Int) < (xs.length:Int):=by omega
    have HJ:=Lib.hid hj'
    clear ho HL hxp hj'
    go_wp2_with fail
    go_ret
    rw [HN.out]
    exact ⟨rfl,rfl⟩
   ·have HN:=Lib.hid (scr_go HX.out HS.out ho)
    obtain ⟨j',hj'⟩:∃ j',j=j' + 1:=⟨j - 1,by omega⟩
    have hxp:=HL.out.2 j' hj'
    obtain ⟨ap,hap,_,e0⟩:=HC.out j' _ hxp
    cases hap
    have hw:IntKind.i64.wrap ((j:Int) - 1)=j':=by rw [IntWalk.i64_in _ (by omega)];omega
    have hw2:(j:Int) - 1=j':=by omega
    have s0:(0:Int) ≤ (j':Int):=by omega
    have s1:(j':Int) < (xs.length:Int):=by omega
    have HJ:=Lib.hid hj'
    clear ho HL hxp hj'
    go_wp2_with fail
    go_round
    case rel => exact ⟨j + 1,s,by omega,by go_num,HL2,HN⟩
    case measure => simp [intOf];omega
  ·have HN:=Lib.hid (scr_end (by omega) HS.out)
   go_wp2_with fail
   go_ret
   rw [HN.out]
   exact ⟨rfl,rfl⟩
def mpTo (p:List Mp × Nat):Bool:=p.1.all (toB (p.2 == 0))
theorem rule4_zip (T:Tab):T.rule4=T.mps.zipIdx.all mpTo:=by
 unfold Tab.rule4 Tab.mps
 simp only [List.zipIdx_cons,List.zipIdx_nil,List.all_cons,List.all_nil,Bool.and_true]
 rfl
theorem zip_at' {T:Tab} {k:Nat} {p:List Mp × Nat} (h:T.mps.zipIdx[k]?=some p):p.2=k ∧ T.mps[k]?=some p.1:=by
 rw [List.getElem?_zipIdx] at h
 cases hm:T.mps[k]? with
 | none => rw [hm] at h;cases h
 | some m => rw [hm] at h;cases h;exact ⟨by simp,rfl⟩
theorem to_ways (k:Nat) (c:Int) (tg:List Int):(toB (k == 0) (c,tg)=false ∧ decide ((tg.length:Int) < 1)=true) ∨ (toB (k == 0) (c,tg)=false ∧ decide ((tg.length:Int) < 1)=false ∧ decide (18 < (tg.length:Int))=true) ∨
  (toB (k == 0) (c,tg)=scrG 2 tg ∧ decide ((tg.length:Int) < 1)=false ∧ decide (18 < (tg.length:Int))=false ∧ ((k:Int) == 0)=true) ∨
  (toB (k == 0) (c,tg)=tg.all scalarB ∧ decide ((tg.length:Int) < 1)=false ∧ decide (18 < (tg.length:Int))=false ∧ ((k:Int) == 0)=false):=by
 unfold toB
 simp only
 by_cases h1:tg.length < 1
 ·exact .inl ⟨by rw [decide_eq_false (by omega)];rfl,decide_eq_true (by omega)⟩
 ·by_cases h2:18 < tg.length
  ·exact .inr (.inl ⟨by rw [decide_eq_false (by omega)];rfl,decide_eq_false (by omega),decide_eq_true (by omega)⟩)
  ·rw [decide_eq_true (show 1 ≤ tg.length ∧ tg.length ≤ 18 by omega),Bool.true_and]
   by_cases hk:k=0
   ·subst hk
    exact .inr (.inr (.inl ⟨rfl,decide_eq_false (by omega),decide_eq_false (by omega),rfl⟩))
   ·have e2:(k == 0)=false:=by rw [beq_eq_false_iff_ne];exact hk
    have e:((k:Int) == 0)=false:=by rw [beq_eq_false_iff_ne];omega
    rw [e,e2]
    exact .inr (.inr (.inr ⟨rfl,decide_eq_false (by omega),decide_eq_false (by omega),rfl⟩))
theorem len_ways (c:Int):(scalarB c=true ∧ ((lenC c:Int) == 0)=false) ∨ (scalarB c=false ∧ ((lenC c:Int) == 0)=true):=by
 cases h:scalarB c
 ·exact .inr ⟨rfl,by rw [beq_iff_eq];have:=lenC_zero.2 h;omega⟩
 ·exact .inl ⟨rfl,by rw [beq_eq_false_iff_ne];intro e;have:=lenC_zero.1 (show lenC c=0 by omega);rw [h] at this;cases this⟩
theorem targets_any (t:Tv) (T:Tab) (w:World) (ht:TabR w w.heap.size t T) :
  Calls Tryz.prog 52 #[t.val] w fun e w' => e=.returned (.bool T.rule4) ∧ Below w.heap.size w w':=by
 obtain ⟨A0,A1,A2,A3,A4,A5,A6,A7,A8,A9,A10,A11,k0,k1,k2,k3,k4,k5,k6,k7,k8,k9,k10,k11,rfl⟩:=ht.shape
 have HR:=Lib.hid (fun o:Obj => ht.later ((Below.refl _ _).alloc (Nat.le_refl _) o))
 clear ht
 obtain ⟨R,hR⟩:∃ R,R=T.rule4:=⟨_,rfl⟩
 rw [← hR]
 have HR2:Hid ((T.mps.zipIdx.drop 0).all mpTo=R):=Lib.hid (by rw [hR,rule4_zip];rfl)
 clear hR
 go_enter Tryz.func52,Tryz.ntmps52
 go_wp2_with fail
 refine (mappings_any _ T _ (HR.out _)).mono ?_
 rintro e w2 ⟨am,rfl,hm,b2⟩
 have HM:=Lib.hid hm.2
 have hma:=hm.1
 have hbel2:=below_next ((Below.refl _ _).alloc (Nat.le_refl _) _) b2
 clear hm b2 HR
 go_wp2_with fail
 go_loopw [12] (fun i wr => ∃ (k:Nat),k ≤ 4 ∧ i=.int .i64 k ∧ Hid ((T.mps.zipIdx.drop k).all mpTo=R) ∧ Below w2.heap.size w2 wr) (fun i _ => 4 - (intOf i).toNat)
 case atStart => exact ⟨0,by omega,rfl,HR2,Below.refl _ _⟩
 case round =>
  obtain ⟨k,hk,rfl,HS,hbel⟩:=hrel
  clear HR2
  by_cases hlt:k < 4
  ·obtain ⟨⟨l,k'⟩,hxk,_⟩:=get_el (xs:=T.mps.zipIdx) (k:=k) hlt
   obtain ⟨hk',hxm⟩:=zip_at' hxk
   simp only at hk' hxm
   subst hk'
   obtain ⟨v,d0,hv⟩:=HM.out k' _ hxm
   obtain ⟨A,c,rfl,hc1,hc2,_,hcell⟩:=id hv
   have HCE:=Lib.hid hcell
   have hlm:l.length ≤ 9223372036854775807:=by unfold maxLen at hc2;omega
   have e0:=(hbel.cell (p:=am.add k') (by rw [block_of_add];exact hma)).trans d0
   have HX:=Lib.hid hxk
   obtain ⟨Ro,hRo⟩:∃ Ro,Ro=l.all (toB (k' == 0)):=⟨_,rfl⟩
   have HO:Hid ((l.drop 0).all (toB (k' == 0))=Ro):=Lib.hid hRo.symm
   have HCO:Hid (mpTo (l,k')=Ro):=Lib.hid hRo.symm
   clear d0 hxk hxm hcell hv hc1 hc2 hRo
   have q0:(0:Int) ≤ (k':Int):=by omega
   have q1:(k':Int) < (4:Int):=by omega
   go_wp2_with fail
   clear e0
   go_loopw [19] (fun i wr => ∃ (j:Nat),j ≤ l.length ∧ i=.int .i64 j ∧ Hid ((l.drop j).all (toB (k' == 0))=Ro) ∧ Below w2.heap.size w2 wr) (fun i _ => l.length - (intOf i).toNat)
   case atStart => exact ⟨0,by omega,rfl,HO,hbel⟩
   case round =>
    obtain ⟨j,hj,rfl,HSj,hbelj⟩:=hrel
    clear HO hbel
    by_cases hjl:j < l.length
    ·obtain ⟨⟨cc,tg⟩,hxj,_⟩:=get_el hjl
     obtain ⟨aj,sv,rfl,ha,d0,d1,hto⟩:=HCE.out j _ hxj
     simp only at d0 d1 hto
     obtain ⟨A',c',rfl,hd1,hd2,_,hcell⟩:=id hto
     have HTO:=Lib.hid (fun o => (hto.below hbelj |>.more hbelj.size).later ((Below.refl _ _).alloc (Nat.le_refl _) o))
     have HTC:=Lib.hid hcell
     obtain ⟨e0,e1⟩:=map_cells hbelj ha d0 d1
     have HXj:=Lib.hid hxj
     have hlt2:tg.length ≤ 9223372036854775807:=by unfold maxLen at hd2;omega
     clear d0 d1 hxj ha hto hcell hd1 hd2
     have r0:(0:Int) ≤ (j:Int):=by omega
     have r1:(j:Int) < (l.length:Int):=by omega
     rcases to_ways k' cc tg with ⟨ho,p0⟩ | ⟨ho,p0,p1⟩ | ⟨ho,p0,p1,p2⟩ | ⟨ho,p0,p1,p2⟩
     ·have HN:=Lib.hid (each_no HXj.out HSj.out ho)
      clear ho HTO
      go_wp2_with fail
      go_ret
      rw [each_no HX.out HS.out (HCO.out.trans HN.out)]
      exact ⟨rfl,below_next hbel2 (hbelj.alloc hbelj.size _)⟩
     ·have HN:=Lib.hid (each_no HXj.out HSj.out ho)
      clear ho HTO
      go_wp2_with fail
      go_ret
      rw [each_no HX.out HS.out (HCO.out.trans HN.out)]
      exact ⟨rfl,below_next hbel2 (hbelj.alloc hbelj.size _)⟩
     ·have HSC:=Lib.hid (fun W h => scripts_check (.slice A' tg.length c') tg W h)
      cases hsc:scrG 2 tg
      ·rw [hsc] at HSC
       have HN:=Lib.hid (each_no HXj.out HSj.out (ho.trans hsc))
       clear ho hsc
       go_wp2_with fail
       refine (HSC.out _ (HTO.out _)).mono ?_
       rintro e w' ⟨rfl,rfl⟩
       go_wp2_with fail
       go_ret
       rw [each_no HX.out HS.out (HCO.out.trans HN.out)]
       exact ⟨rfl,below_next hbel2 (hbelj.alloc hbelj.size _)⟩
      ·rw [hsc] at HSC
       have HN:=Lib.hid (each_go HXj.out HSj.out (ho.trans hsc))
       clear ho hsc
       go_wp2_with fail
       refine (HSC.out _ (HTO.out _)).mono ?_
       rintro e w' ⟨rfl,rfl⟩
       go_wp2_with fail
       go_roundw
       case rel => exact ⟨j + 1,by omega,by go_num,HN,hbelj.alloc hbelj.size _⟩
       case measure => simp [intOf];omega
     ·obtain ⟨Rs,hRs⟩:∃ Rs,Rs=tg.all scalarB:=⟨_,rfl⟩
      have HO:Hid ((tg.drop 0).all scalarB=Rs):=Lib.hid hRs.symm
      have HTS:Hid (toB (k' == 0) (cc,tg)=Rs):=Lib.hid (ho.trans hRs.symm)
      have hbelw:=hbelj.alloc hbelj.size (.cells #[.int .i64 cc,.slice A' tg.length c'] 61)
      clear ho hRs HTO
      go_wp2_with fail
      generalize World.alloc _ (.cells #[.int .i64 cc,.slice A' tg.length c'] 61)=wo at *
      clear e0 e1 hbelj
      go_loop [42] (fun i => ∃ (m:Nat),m ≤ tg.length ∧ i=.int .i64 m ∧ Hid ((tg.drop m).all scalarB=Rs)) (fun i => tg.length - (intOf i).toNat)
      case atStart => exact ⟨0,by omega,rfl,HO⟩
      case round =>
       obtain ⟨m,hm,rfl,HSm⟩:=hrel
       clear HO
       by_cases hml:m < tg.length
       ·obtain ⟨x,hxm,_⟩:=get_el hml
        obtain ⟨ax,rfl,hax,d0⟩:=HTC.out m _ hxm
        have e0:=(hbelw.cell (p:=ax.add m) (by rw [block_of_add];exact hax)).trans d0
        have HXm:=Lib.hid hxm
        have s0:(0:Int) ≤ (m:Int):=by omega
        have s1:(m:Int) < (tg.length:Int):=by omega
        have HLE:=Lib.hid (fun W => length_any x W)
        clear d0 hxm hax
        rcases len_ways x with ⟨hx,pz⟩ | ⟨hx,pz⟩
        ·have HN:=Lib.hid (each_go HXm.out HSm.out hx)
         clear hx
         go_wp2_with fail
         refine (HLE.out _).mono ?_
         rintro e w' ⟨rfl,rfl⟩
         go_wp2_with fail
         go_round
         case rel => exact ⟨m + 1,by omega,by go_num,HN⟩
         case measure => simp [intOf];omega
        ·have HN:=Lib.hid (each_no HXm.out HSm.out hx)
         clear hx
         go_wp2_with fail
         refine (HLE.out _).mono ?_
         rintro e w' ⟨rfl,rfl⟩
         go_wp2_with fail
         go_ret
         rw [each_no HX.out HS.out (HCO.out.trans (each_no HXj.out HSj.out (HTS.out.trans HN.out)))]
         exact ⟨rfl,below_next hbel2 hbelw⟩
       ·have HN:=Lib.hid (each_go HXj.out HSj.out (HTS.out.trans (each_end (by omega) HSm.out)))
        go_wp2_with fail
        go_roundw
        case rel => exact ⟨j + 1,by omega,by go_num,HN,hbelw⟩
        case measure => simp [intOf];omega
    ·have HN:=Lib.hid (each_go HX.out HS.out (HCO.out.trans (each_end (by omega) HSj.out)))
     go_wp2_with fail
     go_roundw
     case rel => exact ⟨k' + 1,by omega,by go_num,HN,hbelj⟩
     case measure => simp [intOf];omega
  ·have HN:=Lib.hid (each_end (by show 4 ≤ k;omega) HS.out)
   go_wp2_with fail
   go_ret
   rw [HN.out]
   exact ⟨rfl,below_next hbel2 hbel⟩
end Go.Proofs.YtjafpikjpipbkaaGreatDoor
namespace Go.Proofs.YtjafpikjpipbkaaGreatDoor
open Go.RowKit ND
theorem plain_any (t:Tv) (T:Tab) (hsh:Shape T) (hne:∀ m ∈ T.decomps,m.2 ≠ [] ∧ m.2.length ≤ 1000) (c:Int) (w:World) (ht:TabR w w.heap.size t T) :
  Calls Tryz.prog 100 #[t.val,.int .i64 c] w fun e w' => e=.returned (.bool (T.plainB c)) ∧ Below w.heap.size w w':=by
 have HT:=Lib.hid (fun W (h:Below w.heap.size w W) => ht.later h)
 have HI:=Lib.hid (fun W h => ignorable_any t T c 0 1114111 W h hsh.c6.1 hsh.c6.2.1)
 obtain ⟨tc,htc⟩:∃ tc,tc=t.cells:=⟨_,rfl⟩
 obtain ⟨A0,A1,A2,A3,A4,A5,A6,A7,A8,A9,A10,A11,k0,k1,k2,k3,k4,k5,k6,k7,k8,k9,k10,k11,rfl⟩:=ht.shape
 have HF:=Lib.hid (fun W (h:Mapps W W.heap.size (.slice A9 T.decomps.length k9) T.decomps) => find_any _ T.decomps c W h (keysB_sort hsh.kd) (fun m hm => (hne m hm).1) hsh.ld)
 have HTC:=Lib.hid htc
 have heq:=fun (w:World) (a:Option Addr) (n c:Nat) => Lib.run_eql_slice_nil (P:=Tryz.prog) w 22 3 a n c 0 0 Tryz.underlying22
 have HB0:=Lib.hid (show Blk (w.alloc (.cells tc 26)) w.heap.size 26 tc from Blk.new _ _ _)
 rw [htc] at HB0
 clear ht htc hne hsh
 obtain ⟨R,hR⟩:∃ R,R=T.plainB c:=⟨_,rfl⟩
 rw [← hR]
 have HR:Hid (R=(decide (findL T.decomps c=[]) && !T.ignB c)):=Lib.hid hR
 clear hR
 go_enter Tryz.func100,Tryz.ntmps100
 go_wp2_with fail
 refine (HF.out _ (HT.out _ ((Below.refl _ _).alloc (Nat.le_refl _) _)).r9).mono ?_
 rintro e w1 ⟨u,rfl,hu,hun,b1⟩
 have HB1:=Lib.hid (HB0.out.later b1)
 have hbel1:=below_next ((Below.refl w.heap.size w).alloc (Nat.le_refl _) _) b1
 rcases nilB_ways hu hun with ⟨hn,rfl⟩ | ⟨hn,ad,cu,rfl⟩
 ·have HR2:Hid (R=!T.ignB c):=Lib.hid (by rw [HR.out,decide_eq_true hn,Bool.true_and])
  obtain ⟨x0,x1,x2,x3,x4,x5,x6,x7,x8,x9,x10,x11⟩:=HB1.out.tab
  have HIW:=Lib.hid (HI.out w1 (HT.out _ hbel1))
  clear hu hun hn HB0 HR b1
  go_wp2_with fail
  refine HIW.out.mono ?_
  rintro e w2 ⟨rfl,b2⟩
  clear x0 x1 x2 x3 x4 x5 x6 x7 x8 x9 x10 x11
  go_wp2_with fail
  go_ret
  rw [HR2.out]
  exact ⟨rfl,below_next hbel1 b2⟩
 ·have HR2:Hid (R=false):=Lib.hid (by rw [HR.out,decide_eq_false hn,Bool.false_and])
  clear hu hun hn HB0 HR b1
  go_wp2_with fail
  go_ret
  rw [HR2.out]
  exact ⟨rfl,hbel1⟩
theorem pel_ways (T:Tab) (c:Int):(T.protoEl c=false ∧ T.plainB c=false) ∨ (T.protoEl c=false ∧ T.plainB c=true ∧ sylB c=true) ∨ (T.plainB c=true ∧ sylB c=false ∧ T.protoEl c=decide (findL T.prototypes c=[])):=by
 unfold Tab.protoEl
 cases T.plainB c <;> cases sylB c <;> simp
theorem prototyped_any (t:Tv) (T:Tab) (hsh:Shape T) (hsz:Sized T) (w:World) (ht:TabR w w.heap.size t T) :
  Calls Tryz.prog 57 #[t.val] w fun e w' => e=.returned (.bool T.rule9) ∧ Below w.heap.size w w':=by
 obtain ⟨tc,htc⟩:∃ tc,tc=t.cells:=⟨_,rfl⟩
 have HPL:=Lib.hid (fun c W h => plain_any t T hsh hsz.nd c W h)
 have HT:=Lib.hid (fun W (h:Below w.heap.size w W) => ht.later h)
 have hmp:=ht.r11
 obtain ⟨A0,A1,A2,A3,A4,A5,A6,A7,A8,A9,A10,A11,k0,k1,k2,k3,k4,k5,k6,k7,k8,k9,k10,k11,rfl⟩:=ht.shape
 have HTC:=Lib.hid htc
 have HFP:=Lib.hid (fun c W (h:Mapps W W.heap.size (.slice A11 T.prototypes.length k11) T.prototypes) => find_any _ T.prototypes c W h (keysB_sort hsh.kp) (fun m hm => (hsz.np m hm).1) hsh.lp)
 obtain ⟨B,cq,hB,_,_,_,hcell2⟩:=hmp
 cases hB
 have HM:=Lib.hid hcell2
 have hlp:=hsh.lp
 have hnq:=fun (w:World) (a:Option Addr) (n c:Nat) => run_neq_slice_nil_any (P:=Tryz.prog) w 22 3 a n c 0 0 Tryz.underlying22
 clear ht htc hcell2 hsh hsz
 obtain ⟨R,hR⟩:∃ R,R=T.rule9:=⟨_,rfl⟩
 rw [← hR]
 have HR0:Hid ((T.prototypes.drop 0).all T.protoOk=R):=Lib.hid hR.symm
 clear hR
 go_enter Tryz.func57,Tryz.ntmps57
 go_wp2_with fail
 go_loopw [10] (fun i wr => ∃ (j:Nat),j ≤ T.prototypes.length ∧ i=.int .i64 j ∧ Hid ((T.prototypes.drop j).all T.protoOk=R) ∧ Below w.heap.size w wr ∧ Hid (Blk wr w.heap.size 26 tc)) (fun i _ => T.prototypes.length - (intOf i).toNat)
 case atStart => exact ⟨0,by omega,rfl,HR0,(Below.refl _ _).alloc (Nat.le_refl _) _,Lib.hid (by rw [HTC.out];exact Blk.new _ _ _)⟩
 case round =>
  obtain ⟨j,hj,rfl,HS,hbel,HB⟩:=hrel
  clear HR0
  by_cases hjl:j < T.prototypes.length
  ·obtain ⟨⟨cc,tg⟩,hxj,_⟩:=get_el hjl
   obtain ⟨aj,sv,rfl,ha,d0,d1,hto⟩:=HM.out j _ hxj
   simp only at d0 d1 hto
   obtain ⟨A',c',rfl,he1,he2,_,hcl⟩:=id hto
   have HTO:=Lib.hid hcl
   have hlt:tg.length ≤ 9223372036854775807:=by unfold maxLen at he2;omega
   obtain ⟨e0,e1⟩:=map_cells hbel ha d0 d1
   have HX:=Lib.hid hxj
   have hbelw:=hbel.alloc hbel.size (.cells #[.int .i64 cc,.slice A' tg.length c'] 61)
   have HB':=Lib.hid (HB.out.alloc (.cells #[.int .i64 cc,.slice A' tg.length c'] 61))
   obtain ⟨x0,x1,x2,x3,x4,x5,x6,x7,x8,x9,x10,x11⟩:=(show Blk _ _ _ #[_,_,_,_,_,_,_,_,_,_,_,_] from by have h:=HB'.out;rw [HTC.out] at h;exact h).tab
   have HP1:=Lib.hid (HPL.out cc _ (HT.out _ hbelw))
   clear d0 d1 hxj ha hto hcl he1 he2 HB
   have r0:(0:Int) ≤ (j:Int):=by omega
   have r1:(j:Int) < (T.prototypes.length:Int):=by omega
   cases hpl:T.plainB cc
   ·have HN:=Lib.hid (each_no HX.out HS.out (by unfold Tab.protoOk;simp only;rw [hpl];rfl))
    rw [hpl] at HP1
    clear hpl
    go_wp2_with fail
    refine HP1.out.mono ?_
    rintro e w2 ⟨rfl,b2⟩
    clear x0 x1 x2 x3 x4 x5 x6 x7 x8 x9 x10 x11 e0 e1
    go_wp2_with fail
    go_ret
    rw [HN.out]
    exact ⟨rfl,below_next hbelw b2⟩
   ·obtain ⟨Rt,hRt⟩:∃ Rt,Rt=tg.all T.protoEl:=⟨_,rfl⟩
    have HO:Hid ((tg.drop 0).all T.protoEl=Rt):=Lib.hid hRt.symm
    have HOK:Hid (T.protoOk (cc,tg)=Rt):=Lib.hid (by rw [hRt];unfold Tab.protoOk;simp only;rw [hpl,Bool.true_and])
    rw [hpl] at HP1
    clear hpl hRt
    go_wp2_with fail
    refine HP1.out.mono ?_
    rintro e w2 ⟨rfl,b2⟩
    have hbel2:=below_next hbelw b2
    have HB2:=Lib.hid (HB'.out.later b2)
    have m1:=((Blk.new wr 61 #[.int .i64 cc,.slice A' tg.length c']).later b2).at_ (i:=1) (u:=.slice A' tg.length c') rfl
    clear x0 x1 x2 x3 x4 x5 x6 x7 x8 x9 x10 x11 e0 e1 hbel hbelw HB' b2
    go_wp2_with fail
    clear m1
    go_loopw [22] (fun i wr => ∃ (q:Nat),q ≤ tg.length ∧ i=.int .i64 q ∧ Hid ((tg.drop q).all T.protoEl=Rt) ∧ Below w.heap.size w wr ∧ Hid (Blk wr w.heap.size 26 tc)) (fun i _ => tg.length - (intOf i).toNat)
    case atStart => exact ⟨0,by omega,rfl,HO,hbel2,HB2⟩
    case round =>
     obtain ⟨q,hq,rfl,HSq,hbelq,HBq⟩:=hrel
     clear HO HB2 hbel2
     by_cases hql:q < tg.length
     ·obtain ⟨y,hyq,_⟩:=get_el hql
      obtain ⟨ay,rfl,hay,d0⟩:=HTO.out q _ hyq
      have e0:=(hbelq.cell (p:=ay.add q) (by rw [block_of_add];exact hay)).trans d0
      have HXq:=Lib.hid hyq
      obtain ⟨x0,x1,x2,x3,x4,x5,x6,x7,x8,x9,x10,x11⟩:=(show Blk _ _ _ #[_,_,_,_,_,_,_,_,_,_,_,_] from by have h:=HBq.out;rw [HTC.out] at h;exact h).tab
      have HP2:=Lib.hid (HPL.out y _ (HT.out _ hbelq))
      have HSY:=Lib.hid (fun W => syl_any y W)
      clear d0 hyq hay
      have s0:(0:Int) ≤ (q:Int):=by omega
      have s1:(q:Int) < (tg.length:Int):=by omega
      rcases pel_ways T y with ⟨ho,u0⟩ | ⟨ho,u0,u1⟩ | ⟨u0,u1,ho⟩
      ·have HN:=Lib.hid (each_no HXq.out HSq.out ho)
       rw [u0] at HP2
       clear ho u0
       go_wp2_with fail
       refine HP2.out.mono ?_
       rintro e w3 ⟨rfl,b3⟩
       clear x0 x1 x2 x3 x4 x5 x6 x7 x8 x9 x10 x11 e0
       go_wp2_with fail
       go_ret
       rw [each_no HX.out HS.out (HOK.out.trans HN.out)]
       exact ⟨rfl,below_next hbelq b3⟩
      ·have HN:=Lib.hid (each_no HXq.out HSq.out ho)
       rw [u0] at HP2
       rw [u1] at HSY
       clear ho u0 u1
       go_wp2_with fail
       refine HP2.out.mono ?_
       rintro e w3 ⟨rfl,b3⟩
       clear x0 x1 x2 x3 x4 x5 x6 x7 x8 x9 x10 x11 e0
       go_wp2_with fail
       refine (HSY.out _).mono ?_
       rintro e w4 ⟨rfl,rfl⟩
       go_wp2_with fail
       go_ret
       rw [each_no HX.out HS.out (HOK.out.trans HN.out)]
       exact ⟨rfl,below_next hbelq b3⟩
      ·have HOE:=Lib.hid ho
       rw [u0] at HP2
       rw [u1] at HSY
       clear ho u0 u1
       go_wp2_with fail
       refine HP2.out.mono ?_
       rintro e w3 ⟨rfl,b3⟩
       have hbel3:=below_next hbelq b3
       have HB3:=Lib.hid (HBq.out.later b3)
       have y11:=(show Blk _ _ _ #[_,_,_,_,_,_,_,_,_,_,_,_] from by have h:=HB3.out;rw [HTC.out] at h;exact h).at_ (i:=11) rfl
       have HFQ:=Lib.hid (HFP.out y _ (HT.out _ hbel3).r11)
       clear x0 x1 x2 x3 x4 x5 x6 x7 x8 x9 x10 x11 e0 b3 HBq
       go_wp2_with fail
       refine (HSY.out _).mono ?_
       rintro e w4 ⟨rfl,rfl⟩
       go_wp2_with fail
       refine HFQ.out.mono ?_
       rintro e w4 ⟨u,rfl,hu,hun,b4⟩
       rcases nilB_ways hu hun with ⟨hn,rfl⟩ | ⟨hn,adu,cu,rfl⟩
       ·have HN:=Lib.hid (each_go HXq.out HSq.out (HOE.out.trans (decide_eq_true hn)))
        have HB4:=Lib.hid (HB3.out.later b4)
        clear hu hun hn y11 HB3
        go_wp2_with fail
        go_roundw
        case rel => exact ⟨q + 1,by omega,by go_num,HN,below_next hbel3 b4,HB4⟩
        case measure => simp [intOf];omega
       ·have HN:=Lib.hid (each_no HXq.out HSq.out (HOE.out.trans (decide_eq_false hn)))
        clear hu hun hn y11 HB3
        go_wp2_with fail
        go_ret
        rw [each_no HX.out HS.out (HOK.out.trans HN.out)]
        exact ⟨rfl,below_next hbel3 b4⟩
     ·have HN:=Lib.hid (each_go HX.out HS.out (HOK.out.trans (each_end (by omega) HSq.out)))
      go_wp2_with fail
      go_roundw
      case rel => exact ⟨j + 1,by omega,by go_num,HN,hbelq,HBq⟩
      case measure => simp [intOf];omega
  ·have HN:=Lib.hid (each_end (by omega) HS.out)
   go_wp2_with fail
   go_ret
   rw [HN.out]
   exact ⟨rfl,hbel⟩
end Go.Proofs.YtjafpikjpipbkaaGreatDoor
namespace Go.Proofs.YtjafpikjpipbkaaGreatDoor
open Go.RowKit ND
def rulesL (T:Tab):List Bool:=[T.rule1,T.rule2,T.rule3,T.rule4,T.rule5,T.rule6,T.rule7,T.rule8,T.rule9]
theorem check_first {T:Tab} {k:Nat} (h:rulesL T=(List.replicate k true ++ false :: (rulesL T).drop (k + 1))):T.check=(k:Int) + 1:=by
 have hk:k < 9:=by
  have:=congrArg List.length h
  simp [rulesL] at this
  omega
 unfold Tab.check
 have h9:k=0 ∨ k=1 ∨ k=2 ∨ k=3 ∨ k=4 ∨ k=5 ∨ k=6 ∨ k=7 ∨ k=8:=by omega
 rcases h9 with rfl | rfl | rfl | rfl | rfl | rfl | rfl | rfl | rfl <;> simp [rulesL,List.replicate] at h <;> simp [h]
theorem check_all {T:Tab} (h:rulesL T=List.replicate 9 true):T.check=0:=by
 simp [rulesL,List.replicate] at h
 unfold Tab.check
 simp [h]
def HoldTo (T:Tab) (k:Nat):Prop:=(rulesL T).take k=List.replicate k true
theorem HoldTo.parts {T:Tab} {k:Nat} (h:HoldTo T k) (hk:k ≤ 9):(1 ≤ k → T.rule1=true) ∧ (2 ≤ k → T.rule2=true) ∧ (3 ≤ k → T.rule3=true) ∧ (4 ≤ k → T.rule4=true) ∧ (5 ≤ k → T.rule5=true) ∧ (6 ≤ k → T.rule6=true) ∧ (7 ≤ k → T.rule7=true) ∧ (8 ≤ k → T.rule8=true) ∧ (9 ≤ k → T.rule9=true):=by
 have key:∀ i,i < k → (rulesL T)[i]?=some true:=by
  intro i hi
  have h1:((rulesL T).take k)[i]?=some true:=by rw [h];simp [hi]
  rw [List.getElem?_take,if_pos hi] at h1
  exact h1
 exact ⟨fun h => Option.some.inj (key 0 (by omega)),fun h => Option.some.inj (key 1 (by omega)),fun h => Option.some.inj (key 2 (by omega)),fun h => Option.some.inj (key 3 (by omega)),fun h => Option.some.inj (key 4 (by omega)),fun h => Option.some.inj (key 5 (by omega)),fun h => Option.some.inj (key 6 (by omega)),fun h => Option.some.inj (key 7 (by omega)),fun h => Option.some.inj (key 8 (by omega))⟩
theorem HoldTo.zero (T:Tab):HoldTo T 0:=rfl
theorem HoldTo.next {T:Tab} {k:Nat} (h:HoldTo T k) (hr:(rulesL T)[k]?=some true):HoldTo T (k + 1):=by
 unfold HoldTo at h ⊢
 rw [take_snoc' hr,h,List.replicate_succ']
theorem HoldTo.fail {T:Tab} {k:Nat} (h:HoldTo T k) (hr:(rulesL T)[k]?=some false):T.check=(k:Int) + 1:=by
 refine check_first ?_
 rw [← h,← drop_of_get hr,List.take_append_drop]
theorem HoldTo.all {T:Tab} (h:HoldTo T 9):T.check=0:=check_all (by rw [← h];rfl)
theorem check_table (t:Tv) (T:Tab) (w:World) (ht:TabR w w.heap.size t T) (hg:Glob w) :
  Calls Tryz.prog 29 #[t.val] w fun e w' => e=.returned (.int .i64 T.check) ∧ Below w.heap.size w w':=by
 obtain ⟨tc,htc⟩:∃ tc,tc=t.cells:=⟨_,rfl⟩
 have HT:=Lib.hid (fun W (h:Below w.heap.size w W) => ht.later h)
 have HG:=Lib.hid (fun W (h:Below w.heap.size w W) => hg.later h)
 have H0:=Lib.hid (fun W h => rows_any t T W h)
 have H1:=Lib.hid (fun W h h2 => shape_any t T W h h2)
 have H2:=Lib.hid (fun W h => values_any t T W h)
 have H3:=Lib.hid (fun W h => targets_any t T W h)
 have H4:=Lib.hid (fun (hs:Shape T) W h => mapped_any t T W h hs.c5)
 have H5:=Lib.hid (fun (hs:Shape T) (hz:Sized T) W h => decomposed_any t T W h (keysB_sort hs.kd) hz.nd hs.ld)
 have H6:=Lib.hid (fun (hs:Shape T) (hz:Sized T) W h => excluded_rule t T W h (keysB_sort hs.kd) hz.nd hs.ld hs.lenX)
 have H7:=Lib.hid (fun (hs:Shape T) (hz:Sized T) (he:Ends T) W h => unique_any t T hs hz.nd he W h)
 have H8:=Lib.hid (fun (hs:Shape T) (hz:Sized T) W h => prototyped_any t T hs hz W h)
 obtain ⟨A0,A1,A2,A3,A4,A5,A6,A7,A8,A9,A10,A11,k0,k1,k2,k3,k4,k5,k6,k7,k8,k9,k10,k11,rfl⟩:=ht.shape
 have HTC:=Lib.hid htc
 clear ht htc hg
 obtain ⟨R,hR⟩:∃ R,R=T.check:=⟨_,rfl⟩
 rw [← hR]
 have HR:=Lib.hid hR
 clear hR
 obtain ⟨fc,hfc⟩:∃ fc:Array Value,fc=#[.func (.func 49) #[] #[],.func (.func 50) #[] #[],.func (.func 51) #[] #[],.func (.func 52) #[] #[],.func (.func 53) #[] #[],.func (.func 54) #[] #[],.func (.func 55) #[] #[],.func (.func 56) #[] #[],.func (.func 57) #[] #[]]:=⟨_,rfl⟩
 have HFC:=Lib.hid hfc
 clear hfc
 go_enter Tryz.func29,Tryz.ntmps29
 go_wp2_with fail
 go_loopw [7] (fun i wr => ∃ (k:Nat),k ≤ 9 ∧ i=.int .i64 k ∧ Hid (HoldTo T k) ∧ Below w.heap.size w wr ∧ Hid (Blk wr w.heap.size 26 tc) ∧ Hid (Blk wr (w.heap.size + 1) 100 fc)) (fun i _ => 9 - (intOf i).toNat)
 case atStart =>
  refine ⟨0,by omega,rfl,Lib.hid (HoldTo.zero T),((Below.refl _ _).alloc (Nat.le_refl _) _).alloc (by simp) _,Lib.hid (by rw [HTC.out];exact (Blk.new _ _ _).alloc _),Lib.hid ?_⟩
  have h:=Blk.new (w.alloc (.cells tc 26)) 100 fc
  rw [show (w.alloc (.cells tc 26)).heap.size=w.heap.size + 1 by simp,HTC.out,HFC.out] at h
  rw [HFC.out]
  exact h
 case round =>
  obtain ⟨k,hk,rfl,HS,hbel,HB,HF⟩:=hrel
  by_cases hlt:k < 9
  ·obtain ⟨x0,x1,x2,x3,x4,x5,x6,x7,x8,x9,x10,x11⟩:=(show Blk _ _ _ #[_,_,_,_,_,_,_,_,_,_,_,_] from by have h:=HB.out;rw [HTC.out] at h;exact h).tab
   have hHT:=HT.out _ hbel
   have HHT:=Lib.hid hHT
   have HHG:=Lib.hid (HG.out _ hbel)
   have hpp:=HS.out.parts hk
   have HPP:=Lib.hid hpp
   have HFB:=Lib.hid (show Blk wr (w.heap.size + 1) 100 #[.func (.func 49) #[] #[],.func (.func 50) #[] #[],.func (.func 51) #[] #[],.func (.func 52) #[] #[],.func (.func 53) #[] #[],.func (.func 54) #[] #[],.func (.func 55) #[] #[],.func (.func 56) #[] #[],.func (.func 57) #[] #[]] from by rw [← HFC.out];exact HF.out)
   clear hHT hpp
   have h9:k=0 ∨ k=1 ∨ k=2 ∨ k=3 ∨ k=4 ∨ k=5 ∨ k=6 ∨ k=7 ∨ k=8:=by omega
   rcases h9 with rfl | rfl | rfl | rfl | rfl | rfl | rfl | rfl | rfl
   ·have HCA:=Lib.hid (H0.out _ HHT.out)
    have f0:=HFB.out.at_ (i:=0) rfl
    cases hr:T.rule1
    ·rw [hr] at HCA
     have HN:=Lib.hid (HR.out.trans (HS.out.fail (by show some T.rule1=some false;rw [hr])))
     clear hr
     go_wp2_with fail
     refine HCA.out.mono ?_
     rintro e w2 ⟨rfl,b2⟩
     clear x0 x1 x2 x3 x4 x5 x6 x7 x8 x9 x10 x11 f0
     go_wp2_with fail
     go_ret
     rw [HN.out]
     exact ⟨rfl,below_next hbel b2⟩
    ·rw [hr] at HCA
     have HN:=Lib.hid (HS.out.next (by show some T.rule1=some true;rw [hr]))
     clear hr
     go_wp2_with fail
     refine HCA.out.mono ?_
     rintro e w2 ⟨rfl,b2⟩
     have HB2:=Lib.hid (HB.out.later b2)
     have HF2:=Lib.hid (HF.out.later b2)
     clear x0 x1 x2 x3 x4 x5 x6 x7 x8 x9 x10 x11 f0
     go_wp2_with fail
     go_roundw
     case rel => exact ⟨1,by omega,by rfl,HN,below_next hbel b2,HB2,HF2⟩
     case measure => simp [intOf]
   ·have HCA:=Lib.hid (H1.out _ HHT.out HHG.out)
    have f0:=HFB.out.at_ (i:=1) rfl
    cases hr:T.rule2
    ·rw [hr] at HCA
     have HN:=Lib.hid (HR.out.trans (HS.out.fail (by show some T.rule2=some false;rw [hr])))
     clear hr
     go_wp2_with fail
     refine HCA.out.mono ?_
     rintro e w2 ⟨rfl,b2⟩
     clear x0 x1 x2 x3 x4 x5 x6 x7 x8 x9 x10 x11 f0
     go_wp2_with fail
     go_ret
     rw [HN.out]
     exact ⟨rfl,below_next hbel b2⟩
    ·rw [hr] at HCA
     have HN:=Lib.hid (HS.out.next (by show some T.rule2=some true;rw [hr]))
     clear hr
     go_wp2_with fail
     refine HCA.out.mono ?_
     rintro e w2 ⟨rfl,b2⟩
     have HB2:=Lib.hid (HB.out.later b2)
     have HF2:=Lib.hid (HF.out.later b2)
     clear x0 x1 x2 x3 x4 x5 x6 x7 x8 x9 x10 x11 f0
     go_wp2_with fail
     go_roundw
     case rel => exact ⟨2,by omega,by rfl,HN,below_next hbel b2,HB2,HF2⟩
     case measure => simp [intOf]
   ·have HCA:=Lib.hid (H2.out _ HHT.out)
    have f0:=HFB.out.at_ (i:=2) rfl
    cases hr:T.rule3
    ·rw [hr] at HCA
     have HN:=Lib.hid (HR.out.trans (HS.out.fail (by show some T.rule3=some false;rw [hr])))
     clear hr
     go_wp2_with fail
     refine HCA.out.mono ?_
     rintro e w2 ⟨rfl,b2⟩
     clear x0 x1 x2 x3 x4 x5 x6 x7 x8 x9 x10 x11 f0
     go_wp2_with fail
     go_ret
     rw [HN.out]
     exact ⟨rfl,below_next hbel b2⟩
    ·rw [hr] at HCA
     have HN:=Lib.hid (HS.out.next (by show some T.rule3=some true;rw [hr]))
     clear hr
     go_wp2_with fail
     refine HCA.out.mono ?_
     rintro e w2 ⟨rfl,b2⟩
     have HB2:=Lib.hid (HB.out.later b2)
     have HF2:=Lib.hid (HF.out.later b2)
     clear x0 x1 x2 x3 x4 x5 x6 x7 x8 x9 x10 x11 f0
     go_wp2_with fail
     go_roundw
     case rel => exact ⟨3,by omega,by rfl,HN,below_next hbel b2,HB2,HF2⟩
     case measure => simp [intOf]
   ·have HCA:=Lib.hid (H3.out _ HHT.out)
    have f0:=HFB.out.at_ (i:=3) rfl
    cases hr:T.rule4
    ·rw [hr] at HCA
     have HN:=Lib.hid (HR.out.trans (HS.out.fail (by show some T.rule4=some false;rw [hr])))
     clear hr
     go_wp2_with fail
     refine HCA.out.mono ?_
     rintro e w2 ⟨rfl,b2⟩
     clear x0 x1 x2 x3 x4 x5 x6 x7 x8 x9 x10 x11 f0
     go_wp2_with fail
     go_ret
     rw [HN.out]
     exact ⟨rfl,below_next hbel b2⟩
    ·rw [hr] at HCA
     have HN:=Lib.hid (HS.out.next (by show some T.rule4=some true;rw [hr]))
     clear hr
     go_wp2_with fail
     refine HCA.out.mono ?_
     rintro e w2 ⟨rfl,b2⟩
     have HB2:=Lib.hid (HB.out.later b2)
     have HF2:=Lib.hid (HF.out.later b2)
     clear x0 x1 x2 x3 x4 x5 x6 x7 x8 x9 x10 x11 f0
     go_wp2_with fail
     go_roundw
     case rel => exact ⟨4,by omega,by rfl,HN,below_next hbel b2,HB2,HF2⟩
     case measure => simp [intOf]
   ·have HCA:=Lib.hid (H4.out (Shape.of (HPP.out.1 (by omega)) (HPP.out.2.1 (by omega))) _ HHT.out)
    have f0:=HFB.out.at_ (i:=4) rfl
    cases hr:T.rule5
    ·rw [hr] at HCA
     have HN:=Lib.hid (HR.out.trans (HS.out.fail (by show some T.rule5=some false;rw [hr])))
     clear hr
     go_wp2_with fail
     refine HCA.out.mono ?_
     rintro e w2 ⟨rfl,b2⟩
     clear x0 x1 x2 x3 x4 x5 x6 x7 x8 x9 x10 x11 f0
     go_wp2_with fail
     go_ret
     rw [HN.out]
     exact ⟨rfl,below_next hbel b2⟩
    ·rw [hr] at HCA
     have HN:=Lib.hid (HS.out.next (by show some T.rule5=some true;rw [hr]))
     clear hr
     go_wp2_with fail
     refine HCA.out.mono ?_
     rintro e w2 ⟨rfl,b2⟩
     have HB2:=Lib.hid (HB.out.later b2)
     have HF2:=Lib.hid (HF.out.later b2)
     clear x0 x1 x2 x3 x4 x5 x6 x7 x8 x9 x10 x11 f0
     go_wp2_with fail
     go_roundw
     case rel => exact ⟨5,by omega,by rfl,HN,below_next hbel b2,HB2,HF2⟩
     case measure => simp [intOf]
   ·have HCA:=Lib.hid (H5.out (Shape.of (HPP.out.1 (by omega)) (HPP.out.2.1 (by omega))) (Sized.of (HPP.out.2.2.2.1 (by omega))) _ HHT.out)
    have f0:=HFB.out.at_ (i:=5) rfl
    cases hr:T.rule6
    ·rw [hr] at HCA
     have HN:=Lib.hid (HR.out.trans (HS.out.fail (by show some T.rule6=some false;rw [hr])))
     clear hr
     go_wp2_with fail
     refine HCA.out.mono ?_
     rintro e w2 ⟨rfl,b2⟩
     clear x0 x1 x2 x3 x4 x5 x6 x7 x8 x9 x10 x11 f0
     go_wp2_with fail
     go_ret
     rw [HN.out]
     exact ⟨rfl,below_next hbel b2⟩
    ·rw [hr] at HCA
     have HN:=Lib.hid (HS.out.next (by show some T.rule6=some true;rw [hr]))
     clear hr
     go_wp2_with fail
     refine HCA.out.mono ?_
     rintro e w2 ⟨rfl,b2⟩
     have HB2:=Lib.hid (HB.out.later b2)
     have HF2:=Lib.hid (HF.out.later b2)
     clear x0 x1 x2 x3 x4 x5 x6 x7 x8 x9 x10 x11 f0
     go_wp2_with fail
     go_roundw
     case rel => exact ⟨6,by omega,by rfl,HN,below_next hbel b2,HB2,HF2⟩
     case measure => simp [intOf]
   ·have HCA:=Lib.hid (H6.out (Shape.of (HPP.out.1 (by omega)) (HPP.out.2.1 (by omega))) (Sized.of (HPP.out.2.2.2.1 (by omega))) _ HHT.out)
    have f0:=HFB.out.at_ (i:=6) rfl
    cases hr:T.rule7
    ·rw [hr] at HCA
     have HN:=Lib.hid (HR.out.trans (HS.out.fail (by show some T.rule7=some false;rw [hr])))
     clear hr
     go_wp2_with fail
     refine HCA.out.mono ?_
     rintro e w2 ⟨rfl,b2⟩
     clear x0 x1 x2 x3 x4 x5 x6 x7 x8 x9 x10 x11 f0
     go_wp2_with fail
     go_ret
     rw [HN.out]
     exact ⟨rfl,below_next hbel b2⟩
    ·rw [hr] at HCA
     have HN:=Lib.hid (HS.out.next (by show some T.rule7=some true;rw [hr]))
     clear hr
     go_wp2_with fail
     refine HCA.out.mono ?_
     rintro e w2 ⟨rfl,b2⟩
     have HB2:=Lib.hid (HB.out.later b2)
     have HF2:=Lib.hid (HF.out.later b2)
     clear x0 x1 x2 x3 x4 x5 x6 x7 x8 x9 x10 x11 f0
     go_wp2_with fail
     go_roundw
     case rel => exact ⟨7,by omega,by rfl,HN,below_next hbel b2,HB2,HF2⟩
     case measure => simp [intOf]
   ·have HCA:=Lib.hid (H7.out (Shape.of (HPP.out.1 (by omega)) (HPP.out.2.1 (by omega))) (Sized.of (HPP.out.2.2.2.1 (by omega))) (Ends.of (Shape.of (HPP.out.1 (by omega)) (HPP.out.2.1 (by omega))).ld (HPP.out.2.2.2.2.2.1 (by omega))) _ HHT.out)
    have f0:=HFB.out.at_ (i:=7) rfl
    cases hr:T.rule8
    ·rw [hr] at HCA
     have HN:=Lib.hid (HR.out.trans (HS.out.fail (by show some T.rule8=some false;rw [hr])))
     clear hr
     go_wp2_with fail
     refine HCA.out.mono ?_
     rintro e w2 ⟨rfl,b2⟩
     clear x0 x1 x2 x3 x4 x5 x6 x7 x8 x9 x10 x11 f0
     go_wp2_with fail
     go_ret
     rw [HN.out]
     exact ⟨rfl,below_next hbel b2⟩
    ·rw [hr] at HCA
     have HN:=Lib.hid (HS.out.next (by show some T.rule8=some true;rw [hr]))
     clear hr
     go_wp2_with fail
     refine HCA.out.mono ?_
     rintro e w2 ⟨rfl,b2⟩
     have HB2:=Lib.hid (HB.out.later b2)
     have HF2:=Lib.hid (HF.out.later b2)
     clear x0 x1 x2 x3 x4 x5 x6 x7 x8 x9 x10 x11 f0
     go_wp2_with fail
     go_roundw
     case rel => exact ⟨8,by omega,by rfl,HN,below_next hbel b2,HB2,HF2⟩
     case measure => simp [intOf]
   ·have HCA:=Lib.hid (H8.out (Shape.of (HPP.out.1 (by omega)) (HPP.out.2.1 (by omega))) (Sized.of (HPP.out.2.2.2.1 (by omega))) _ HHT.out)
    have f0:=HFB.out.at_ (i:=8) rfl
    cases hr:T.rule9
    ·rw [hr] at HCA
     have HN:=Lib.hid (HR.out.trans (HS.out.fail (by show some T.rule9=some false;rw [hr])))
     clear hr
     go_wp2_with fail
     refine HCA.out.mono ?_
     rintro e w2 ⟨rfl,b2⟩
     clear x0 x1 x2 x3 x4 x5 x6 x7 x8 x9 x10 x11 f0
     go_wp2_with fail
     go_ret
     rw [HN.out]
     exact ⟨rfl,below_next hbel b2⟩
    ·rw [hr] at HCA
     have HN:=Lib.hid (HS.out.next (by show some T.rule9=some true;rw [hr]))
     clear hr
     go_wp2_with fail
     refine HCA.out.mono ?_
     rintro e w2 ⟨rfl,b2⟩
     have HB2:=Lib.hid (HB.out.later b2)
     have HF2:=Lib.hid (HF.out.later b2)
     clear x0 x1 x2 x3 x4 x5 x6 x7 x8 x9 x10 x11 f0
     go_wp2_with fail
     go_roundw
     case rel => exact ⟨9,by omega,by rfl,HN,below_next hbel b2,HB2,HF2⟩
     case measure => simp [intOf]
  ·obtain rfl:k=9:=by omega
   have HN:=Lib.hid (HR.out.trans HS.out.all)
   go_wp2_with fail
   go_ret
   rw [HN.out]
   exact ⟨rfl,hbel⟩
end Go.Proofs.YtjafpikjpipbkaaGreatDoor
