/-
  Merged texts: lemmas and walks that the last text of this claim leans on.
-/
import Derived.Test.YtjafpikjpipbkaaGreatDoorMgTS6
import Derived.Test.YtjafpikjpipbkaaGreatDoorMgTS4
import Derived.Test.YtjafpikjpipbkaaGreatDoorMgTS1
import Derived.Test.YtjafpikjpipbkaaGreatDoorMgTS2
import Derived.BigQuiet
import Derived.Test.YtjafpikjpipbkaaGreatDoorMgTS3
set_option maxRecDepth 100000
set_option maxHeartbeats 40000000
namespace Go.Proofs.YtjafpikjpipbkaaGreatDoor
open Go.RowKit ND
def pairsTo (T:Tab) (j:Nat):List (List Int):=((T.decomps.take j).filter (fun m => T.comp m.1)).map (·.2)
theorem pairsTo_sub (T:Tab) (j:Nat):(pairsTo T j).Sublist T.pairs:=((List.take_sublist j _).filter _).map _
theorem pairsTo_all (T:Tab):pairsTo T T.decomps.length=T.pairs:=by unfold pairsTo Tab.pairs;rw [List.take_length]
theorem pairsTo_no {T:Tab} {j:Nat} {m:Mp} (hx:T.decomps[j]?=some m) (h:T.comp m.1=false):pairsTo T (j + 1)=pairsTo T j:=by
 unfold pairsTo;rw [take_snoc' hx,List.filter_append,List.map_append];simp [h]
theorem pairsTo_yes {T:Tab} {j:Nat} {m:Mp} (hx:T.decomps[j]?=some m) (h:T.comp m.1=true):pairsTo T (j + 1)=pairsTo T j ++ [m.2]:=by
 unfold pairsTo;rw [take_snoc' hx,List.filter_append,List.map_append];simp [h]
def twoL (q:Int × Int):List Int:=[q.1,q.2]
theorem comp_form {T:Tab} {c:Int} (h:T.comp c=true):∃ a b,findL T.decomps c=[a,b]:=by
 unfold Tab.comp at h
 cases hl:T.decomps.length with
 | zero => rw [hl] at h;cases h
 | succ f =>
   rw [hl,Tab.compF] at h
   split at h
   ·rename_i a b he;exact ⟨a,b,he⟩
   ·cases h
theorem unique_any (t:Tv) (T:Tab) (hsh:Shape T) (hne:∀ m ∈ T.decomps,m.2 ≠ [] ∧ m.2.length ≤ 1000) (hen:Ends T) (w:World) (ht:TabR w w.heap.size t T) :
  Calls Tryz.prog 56 #[t.val] w fun e w' => e=.returned (.bool T.rule8) ∧ Below w.heap.size w w':=by
 obtain ⟨tc,htc⟩:∃ tc,tc=t.cells:=⟨_,rfl⟩
 have hs:=keysB_sort hsh.kd
 have HCO:=Lib.hid (fun c tg sv W (h:TabR W W.heap.size t T) h2 h3 => composable_any t T hsh hne T.decomps.length c tg sv W h h2 h3 (hen c).1)
 have HT:=Lib.hid (fun W (h:Below w.heap.size w W) => ht.later h)
 have hmp:=ht.r9
 obtain ⟨A0,A1,A2,A3,A4,A5,A6,A7,A8,A9,A10,A11,k0,k1,k2,k3,k4,k5,k6,k7,k8,k9,k10,k11,rfl⟩:=ht.shape
 have HTC:=Lib.hid htc
 obtain ⟨B,cq,hB,_,_,_,hcell2⟩:=hmp
 cases hB
 have HM:=Lib.hid hcell2
 have HFK:=Lib.hid (fun i m (h:T.decomps[i]?=some m) => (findL_at (fun k a hk ha => hs k i a m hk ha h) h rfl:findL T.decomps m.1=m.2))
 have hlen:=hsh.ld
 have hmm:=@run_makeMap Tryz.prog
 obtain ⟨i0,hi,_,_,_⟩:=info_parts Tryz.infoInt'
 clear ht htc hne hcell2 hs hsh hen
 obtain ⟨R,hR⟩:∃ R,R=T.rule8:=⟨_,rfl⟩
 rw [← hR]
 have HR:Hid (R=decide T.pairs.Nodup):=Lib.hid hR
 clear hR
 go_enter Tryz.func56,Tryz.ntmps56
 go_wp2_with fail
 clear hmm
 go_loopw [11] (fun i wr => ∃ (j:Nat) (qs:List (Int × Int)),j ≤ T.decomps.length ∧ i=.int .i64 j ∧ Hid (qs.map twoL=pairsTo T j ∧ qs.Nodup) ∧ Below w.heap.size w wr ∧ Hid (Blk wr w.heap.size 26 tc) ∧ Hid (OwnsP wr (w.heap.size + 1) qs)) (fun i _ => T.decomps.length - (intOf i).toNat)
 case atStart =>
  refine ⟨0,[],by omega,rfl,Lib.hid ⟨rfl,.nil⟩,((Below.refl _ _).alloc (Nat.le_refl _) _).alloc (by simp) _,Lib.hid (by rw [HTC.out];exact (Blk.new _ _ _).alloc _),Lib.hid ?_⟩
  have h:=OwnsP.new (w.alloc (.cells tc 26))
  rw [show (w.alloc (.cells tc 26)).heap.size=w.heap.size + 1 by simp,HTC.out] at h
  exact h
 case round =>
  obtain ⟨j,qs,hj,rfl,HS,hbel,HB,HO⟩:=hrel
  by_cases hjl:j < T.decomps.length
  ·obtain ⟨⟨cc,tg⟩,hxj,_⟩:=get_el hjl
   obtain ⟨aj,sv,rfl,ha,d0,d1,hto⟩:=HM.out j _ hxj
   simp only at d0 d1 hto
   have hto':=(hto.below hbel).more hbel.size
   obtain ⟨A',c',rfl,he1,he2,_,hcl⟩:=id hto
   obtain ⟨e0,e1⟩:=map_cells hbel ha d0 d1
   have HX:=Lib.hid hxj
   have hfk:=HFK.out j _ hxj
   simp only at hfk
   have hbelw:=hbel.alloc hbel.size (.cells #[.int .i64 cc,.slice A' tg.length c'] 61)
   have HB':=Lib.hid (HB.out.alloc (.cells #[.int .i64 cc,.slice A' tg.length c'] 61))
   obtain ⟨x0,x1,x2,x3,x4,x5,x6,x7,x8,x9,x10,x11⟩:=(show Blk _ _ _ #[_,_,_,_,_,_,_,_,_,_,_,_] from by have h:=HB'.out;rw [HTC.out] at h;exact h).tab
   have HCA:=Lib.hid (HCO.out cc tg _ _ (HT.out _ hbelw) (hto'.later ((Below.refl _ _).alloc (Nat.le_refl _) (.cells #[.int .i64 cc,.slice A' tg.length c'] 61))) hfk)
   have HCL:=Lib.hid hcl
   have HFD:=Lib.hid hfk
   have hOb:=HO.out.lt
   clear d0 d1 hxj hto hto' hcl hfk HB
   have r0:(0:Int) ≤ (j:Int):=by omega
   have r1:(j:Int) < (T.decomps.length:Int):=by omega
   cases hco:T.compF T.decomps.length cc
   ·rw [hco] at HCA
    have HN:Hid (qs.map twoL=pairsTo T (j + 1) ∧ qs.Nodup):=Lib.hid ⟨by rw [pairsTo_no HX.out hco];exact HS.out.1,HS.out.2⟩
    have HO':=Lib.hid (HO.out.later ((Below.refl _ _).alloc (Nat.le_refl _) (.cells #[.int .i64 cc,.slice A' tg.length c'] 61)))
    clear hco
    go_wp2_with fail
    refine HCA.out.mono ?_
    rintro e w2 ⟨rfl,b2⟩
    have HB2:=Lib.hid (HB'.out.later b2)
    have HO2:=Lib.hid (HO'.out.later b2)
    clear x0 x1 x2 x3 x4 x5 x6 x7 x8 x9 x10 x11 e0 e1 HB'
    go_wp2_with fail
    go_roundw
    case rel => exact ⟨j + 1,qs,by omega,by go_num,HN,below_next hbelw b2,HB2,HO2⟩
    case measure => simp [intOf];omega
   ·rw [hco] at HCA
    have HO':=Lib.hid (HO.out.later ((Below.refl _ _).alloc (Nat.le_refl _) (.cells #[.int .i64 cc,.slice A' tg.length c'] 61)))
    obtain ⟨a,b,hab⟩:=comp_form (T:=T) (c:=cc) hco
    rw [HFD.out] at hab
    obtain ⟨ad,hA',had,h0⟩:=HCL.out 0 a (by rw [hab];rfl)
    subst hA'
    obtain ⟨_,hA',_,h1⟩:=HCL.out 1 b (by rw [hab];rfl)
    cases hA'
    have hl2:tg.length=2:=by rw [hab];rfl
    have l0:(0:Int) < (tg.length:Int):=by omega
    have l1:(1:Int) < (tg.length:Int):=by omega
    have l0':0 < tg.length:=by omega
    have l1':1 < tg.length:=by omega
    have HAB:=Lib.hid hab
    have HNX:=Lib.hid (pairsTo_yes HX.out hco)
    have HD:=Lib.hid (And.intro h0 (show w.cell? { block:=ad.block,off:=ad.off + 1,spot:=none }=some (.int .i64 b) from h1))
    clear hco HCL h0 h1 hab hl2
    go_wp2_with fail
    refine HCA.out.mono ?_
    rintro e w2 ⟨rfl,b2⟩
    have hbel2:=below_next hbelw b2
    have HB2:=Lib.hid (HB'.out.later b2)
    have HO2:=Lib.hid (HO'.out.later b2)
    have m1:=((Blk.new wr 61 #[.int .i64 cc,.slice (some ad) tg.length c']).later b2).at_ (i:=1) (u:=.slice (some ad) tg.length c') rfl
    have a0:w2.cell? ad=some (.int .i64 a):=(hbel2.cell (p:=ad) had).trans HD.out.1
    have b0:=(hbel2.cell (p:={ block:=ad.block,off:=ad.off + 1,spot:=none }) had).trans HD.out.2
    clear x0 x1 x2 x3 x4 x5 x6 x7 x8 x9 x10 x11 e0 e1 HB'
    go_wp2_with fail
    have:=World.new_ne w2 _ m1
    have:=World.new_ne w2 _ a0
    have:=World.new_ne w2 _ b0
    go_region_held3 (fun w' => w'.cell? ⟨wr.heap.size,1,none⟩=some (.slice (some ad) tg.length c') ∧ w'.cell? ad=some (.int .i64 a) ∧ w'.cell? { block:=ad.block,off:=ad.off + 1,spot:=none }=some (.int .i64 b)) (go_keep) (fail)
    clear m1 a0 b0
    have hO6:OwnsP (w2.alloc (.cells #[.int .i64 a,.int .i64 b] 155)).drew (w.heap.size + 1) qs:=HO2.out.later ((Below.refl w2.heap.size w2).alloc (Nat.le_refl _) (.cells #[.int .i64 a,.int .i64 b] 155)).drew
    have hB6:Blk (w2.alloc (.cells #[.int .i64 a,.int .i64 b] 155)).drew w.heap.size 26 tc:=HB2.out.alloc _
    have hbel6:Below w.heap.size w (w2.alloc (.cells #[.int .i64 a,.int .i64 b] 155)).drew:=(hbel2.alloc hbel2.size _).drew
    have hlk:(Instr.lookup 153 (.map (some (w.heap.size + 1))) (.agg #[.int .i64 a,.int .i64 b]) false).run Tryz.prog (w2.alloc (.cells #[.int .i64 a,.int .i64 b] 155)).drew=.ok (.bool (decide ((a,b) ∈ qs))) (w2.alloc (.cells #[.int .i64 a,.int .i64 b] 155)).drew :=
     hO6.lookup Tryz.underlying153 (fun _ => by kernel_rfl) Tryz.underlying155 Tryz.underlying3 hi (by kernel_rfl) (by kernel_rfl) (a,b)
    have HO6:=Lib.hid hO6
    have HB6:=Lib.hid hB6
    have HT2:Hid (twoL (a,b)=tg):=Lib.hid HAB.out.symm
    clear hO6 hB6
    by_cases hm:(a,b) ∈ qs
    ·have HRF:Hid (R=false):=Lib.hid (by
      rw [HR.out,decide_eq_false_iff_not]
      intro hn
      have h1:=hn.sublist (pairsTo_sub T (j + 1))
      rw [HNX.out,← HS.out.1,← HT2.out,List.nodup_append] at h1
      exact h1.2.2 (twoL (a,b)) (List.mem_map_of_mem hm) (twoL (a,b)) (List.mem_singleton.2 rfl) rfl)
     rw [decide_eq_true hm] at hlk
     clear hm
     go_wp2_with fail
     go_ret
     rw [HRF.out]
     exact ⟨rfl,hbel6⟩
    ·rw [decide_eq_false hm] at hlk
     obtain ⟨w7,hup,hO7,hg7⟩:=HO6.out.update Tryz.underlying153 Tryz.underlying155 Tryz.underlying3 hi (by kernel_rfl) (by kernel_rfl) (a,b) hm
     have hup':(Instr.mapUpdate 153 (.map (some (w.heap.size + 1))) (.agg #[.int .i64 a,.int .i64 b]) (.bool true)).run Tryz.prog (w2.alloc (.cells #[.int .i64 a,.int .i64 b] 155)).drew=.ok () w7:=hup
     have HN:Hid ((qs ++ [(a,b)]).map twoL=pairsTo T (j + 1) ∧ (qs ++ [(a,b)]).Nodup):=Lib.hid ⟨by rw [HNX.out,List.map_append,HS.out.1,← HT2.out];rfl,by
      rw [List.nodup_append]
      exact ⟨HS.out.2,by simp,fun x hx y hy e => by rw [List.mem_singleton] at hy;subst hy;subst e;exact hm hx⟩⟩
     have HB7:=Lib.hid (HB6.out.grown hg7 (by intro e;injection e with e;omega))
     have hbel7:Below w.heap.size w w7:=hbel6.grown hg7 hbel6.size (fun k hk => by cases hk;omega)
     have HO7:=Lib.hid hO7
     clear hm hup hg7 hO7
     go_wp2_with fail
     go_roundw
     case rel => exact ⟨j + 1,qs ++ [(a,b)],by omega,by go_num,HN,hbel7,HB7,HO7⟩
     case measure => simp [intOf];omega
  ·obtain rfl:j=T.decomps.length:=by omega
   have HRT:Hid (R=true):=Lib.hid (by
    rw [HR.out,decide_eq_true_iff,← pairsTo_all,← HS.out.1]
    exact List.Pairwise.map _ (fun p q (h:p ≠ q) e => h (by obtain ⟨p1,p2⟩:=p;obtain ⟨q1,q2⟩:=q;unfold twoL at e;simp at e;rw [e.1,e.2])) HS.out.2)
   go_wp2_with fail
   go_ret
   rw [HRT.out]
   exact ⟨rfl,hbel⟩
end Go.Proofs.YtjafpikjpipbkaaGreatDoor
namespace Go.Proofs.YtjafpikjpipbkaaGreatDoor
open Go.RowKit ND
theorem ignorable_any (t:Tv) (T:Tab) (c lo hi:Int) (w:World) (ht:TabR w w.heap.size t T) (hs:okS lo hi (-1) T.ignorable=true) (hlen:T.ignorable.length ≤ 256) :
  Calls Tryz.prog 140 #[t.val,.int .i64 c] w fun e w' => e=.returned (.bool (T.ignB c)) ∧ Below w.heap.size w w':=by
 have HP:=Lib.hid (fun W (h:Spans W W.heap.size t.c6 T.ignorable) => value_any t.c6 T.ignorable c lo hi W h hs hlen)
 have hr:=ht.r6
 have HR:=Lib.hid (fun o:Obj => hr.later ((Below.refl _ _).alloc (Nat.le_refl _) o))
 clear hr ht hs hlen
 go_enter Tryz.func140,Tryz.ntmps140
 go_wp2_with fail
 refine (HP.out _ (HR.out _)).mono ?_
 rintro e w1 ⟨rfl,b1⟩
 go_wp2_with fail
 go_ret
 exact ⟨rfl,below_next ((Below.refl _ _).alloc (Nat.le_refl _) _) b1⟩
end Go.Proofs.YtjafpikjpipbkaaGreatDoor
namespace Go.Proofs.YtjafpikjpipbkaaGreatDoor
open Go.RowKit ND
theorem outside_any (f t x:Int) (w:World) (hg:Glob w) :
  Calls Tryz.prog 92 #[.agg #[.int .i64 f,.int .i64 t,.int .i64 x]] w fun e w' => e=.returned (.bool (outB f t)) ∧ Below w.heap.size w w':=by
 obtain ⟨v,hv,A,c,rfl,_,_,_,hcell⟩:=hg
 have HC:=Lib.hid hcell;clear hcell
 have hlen:blocksL.length=6:=rfl
 rw [hlen] at hv
 clear hlen
 obtain ⟨R,hR⟩:∃ R,R=outB f t:=⟨_,rfl⟩
 rw [← hR]
 have HR:Hid (blocksL.all (fun b => apartB f t b.1 b.2.1)=R):=Lib.hid hR.symm
 clear hR
 have h0:0 < w.heap.size:=World.block_lt_of_cell? _ _ hv
 have hv1:=fun o:Obj => (World.cell?_alloc_lt w o ⟨0,0,none⟩ h0).trans hv
 have HV:=Lib.hid hv
 clear hv
 go_enter Tryz.func92,Tryz.ntmps92
 go_wp2_with fail
 go_loopw [7] (fun i wr => ∃ k:Nat,k ≤ 6 ∧ i=.int .i64 k ∧ Hid ((blocksL.drop k).all (fun b => apartB f t b.1 b.2.1)=R) ∧ Below w.heap.size w wr ∧ Hid (Blk wr w.heap.size 54 #[.int .i64 f,.int .i64 t,.int .i64 x])) (fun i _ => 6 - (intOf i).toNat)
 case atStart => exact ⟨0,by omega,rfl,HR,(Below.refl _ _).alloc (Nat.le_refl _) _,Lib.hid (Blk.new _ _ _)⟩
 case round =>
  obtain ⟨k,hk,rfl,HS,hbel,HB⟩:=hrel
  clear hv1
  by_cases hlt:k < 6
  ·obtain ⟨⟨lo,hi,y⟩,hxk,_⟩:=get_el (xs:=blocksL) (k:=k) hlt
   obtain ⟨ad,rfl,ha,d0,d1,d2⟩:=HC.out k _ hxk
   simp only at d0 d1 d2
   obtain ⟨e0,e1,e2⟩:=span_cells hbel ha d0 d1 d2
   have hb0:=HB.out.lt
   have g0:=fun o:Obj => (World.cell?_alloc_lt wr o ⟨w.heap.size,0,none⟩ hb0).trans (HB.out.at_ (i:=0) (u:=.int .i64 f) rfl)
   have g1:=fun o:Obj => (World.cell?_alloc_lt wr o ⟨w.heap.size,1,none⟩ hb0).trans (HB.out.at_ (i:=1) (u:=.int .i64 t) rfl)
   have HX:=Lib.hid hxk
   have HB':=Lib.hid (HB.out.alloc (.cells #[.int .i64 lo,.int .i64 hi,.int .i64 y] 54))
   clear d0 d1 d2 hxk ha HB
   have k0:(0:Int) ≤ (k:Int):=by omega
   have k1:(k:Int) < (6:Int):=by omega
   rcases apart_ways f t lo hi with ⟨ho,q0⟩ | ⟨ho,q0,q1⟩ | ⟨ho,q0,q1⟩
   ·have HN:=Lib.hid (show (blocksL.drop (k + 1)).all (fun b => apartB f t b.1 b.2.1)=R by rw [← HS.out,drop_of_get HX.out,List.all_cons,ho,Bool.true_and])
    clear ho
    go_wp2_with fail
    go_roundw
    case rel => exact ⟨k + 1,by omega,by go_num,HN,hbel.alloc hbel.size _,HB'⟩
    case measure => simp [intOf];omega
   ·have HN:=Lib.hid (show (blocksL.drop (k + 1)).all (fun b => apartB f t b.1 b.2.1)=R by rw [← HS.out,drop_of_get HX.out,List.all_cons,ho,Bool.true_and])
    clear ho
    go_wp2_with fail
    go_roundw
    case rel => exact ⟨k + 1,by omega,by go_num,HN,hbel.alloc hbel.size _,HB'⟩
    case measure => simp [intOf];omega
   ·have HN:=Lib.hid (show R=false by rw [← HS.out,drop_of_get HX.out,List.all_cons,ho,Bool.false_and])
    clear ho
    go_wp2_with fail
    go_ret
    rw [HN.out]
    exact ⟨rfl,hbel.alloc hbel.size _⟩
  ·have HN:=Lib.hid (show R=true by rw [← HS.out,List.drop_eq_nil_of_le (by show 6 ≤ k;omega)];rfl)
   go_wp2_with fail
   go_ret
   rw [HN.out]
   exact ⟨rfl,hbel⟩
end Go.Proofs.YtjafpikjpipbkaaGreatDoor
namespace Go.Proofs.YtjafpikjpipbkaaGreatDoor
open Go.RowKit ND
def okOne (lo hi last:Int) (s:Sp):Bool:=decide (last < s.1 ∧ s.1 ≤ s.2.1 ∧ s.2.1 ≤ 1114111 ∧ lo ≤ s.1 ∧ s.2.1 ≤ hi)
theorem okS_go {lo hi last:Int} {xs:List Sp} {k:Nat} {s:Sp} {R:Bool} (hx:xs[k]?=some s) (h:okS lo hi last (xs.drop k)=R) (h1:okOne lo hi last s=true):okS lo hi s.2.1 (xs.drop (k + 1))=R:=by
 rw [drop_of_get hx,okS] at h
 unfold okOne at h1
 rw [h1,Bool.true_and] at h
 exact h
theorem okS_no {lo hi last:Int} {xs:List Sp} {k:Nat} {s:Sp} {R:Bool} (hx:xs[k]?=some s) (h:okS lo hi last (xs.drop k)=R) (h1:okOne lo hi last s=false):R=false:=by
 rw [drop_of_get hx,okS] at h
 unfold okOne at h1
 rw [h1,Bool.false_and] at h
 exact h.symm
theorem okS_end {lo hi last:Int} {xs:List Sp} {k:Nat} {R:Bool} (hk:xs.length ≤ k) (h:okS lo hi last (xs.drop k)=R):R=true:=by
 rw [List.drop_eq_nil_of_le hk] at h;exact h.symm
theorem okOne_ways {lo hi last f t v:Int}:(okOne lo hi last (f,t,v)=true ∧ decide (f ≤ last)=false ∧ decide (t < f)=false ∧ decide (1114111 < t)=false ∧ decide (f < lo)=false ∧ decide (hi < t)=false) ∨
  (okOne lo hi last (f,t,v)=false ∧ (decide (f ≤ last)=true ∨ decide (f ≤ last)=false ∧ decide (t < f)=true ∨ decide (f ≤ last)=false ∧ decide (t < f)=false ∧ decide (1114111 < t)=true ∨
   decide (f ≤ last)=false ∧ decide (t < f)=false ∧ decide (1114111 < t)=false ∧ decide (f < lo)=true ∨ decide (f ≤ last)=false ∧ decide (t < f)=false ∧ decide (1114111 < t)=false ∧ decide (f < lo)=false ∧ decide (hi < t)=true)):=by
 unfold okOne
 simp only [decide_eq_true_eq,decide_eq_false_iff_not]
 omega
theorem check_any (v:Value) (xs:List Sp) (lo hi:Int) (w:World) (hv:Spans w w.heap.size v xs) :
  Calls Tryz.prog 91 #[v,.int .i64 lo,.int .i64 hi] w fun e w' => e=.returned (.bool (checkS xs lo hi)) ∧ Below w.heap.size w w':=by
 obtain ⟨A,c,rfl,hc1,hc2,_,hcell⟩:=hv
 have HC:=Lib.hid hcell;clear hcell
 have hl:xs.length ≤ 9223372036854775807:=by unfold maxLen at hc2;omega
 clear hc2 hc1
 obtain ⟨R,hR⟩:∃ R,R=okS lo hi (-1) xs:=⟨_,rfl⟩
 have hck:checkS xs lo hi=(R && decide (xs.length ≤ 256)):=by rw [hR];rfl
 rw [hck]
 have HR:Hid (okS lo hi (-1) (xs.drop 0)=R):=Lib.hid hR.symm
 clear hR hck
 go_enter Tryz.func91,Tryz.ntmps91
 go_wp2_with fail
 go_loopw [7,12] (fun l i wr => ∃ (k:Nat) (last:Int),k ≤ xs.length ∧ i=.int .i64 k ∧ l=.int .i64 last ∧ Hid (okS lo hi last (xs.drop k)=R) ∧ Below w.heap.size w wr) (fun _ i _ => xs.length - (intOf i).toNat)
 case atStart => exact ⟨0,-1,by omega,rfl,rfl,HR,Below.refl _ _⟩
 case round =>
  obtain ⟨k,last,hk,rfl,rfl,HS,hbel⟩:=hrel
  clear HR
  by_cases hlt:k < xs.length
  ·obtain ⟨⟨f,t,x⟩,hxk,_⟩:=get_el hlt
   obtain ⟨ad,rfl,ha,d0,d1,d2⟩:=HC.out k _ hxk
   simp only at d0 d1 d2
   obtain ⟨e0,e1,e2⟩:=span_cells hbel ha d0 d1 d2
   have HX:=Lib.hid hxk
   clear d0 d1 d2 hxk ha
   have k0:(0:Int) ≤ (k:Int):=by omega
   have k1:(k:Int) < (xs.length:Int):=by omega
   rcases okOne_ways (lo:=lo) (hi:=hi) (last:=last) (f:=f) (t:=t) (v:=x) with ⟨ho,q0,q1,q2,q3,q4⟩ | ⟨ho,hw⟩
   ·have HN:=Lib.hid (okS_go HX.out HS.out ho)
    clear ho
    go_wp2_with fail
    go_roundw
    case rel => exact ⟨k + 1,t,by omega,by go_num,rfl,HN,hbel.alloc hbel.size _⟩
    case measure => simp [intOf];omega
   ·have HN:=Lib.hid (okS_no HX.out HS.out ho)
    clear ho
    rcases hw with q0 | ⟨q0,q1⟩ | ⟨q0,q1,q2⟩ | ⟨q0,q1,q2,q3⟩ | ⟨q0,q1,q2,q3,q4⟩
    all_goals
     go_wp2_with fail
     go_ret
     rw [HN.out]
     exact ⟨rfl,hbel.alloc hbel.size _⟩
  ·have HN:=Lib.hid (okS_end (by omega) HS.out)
   go_wp2_with fail
   go_ret
   rw [HN.out]
   exact ⟨by simp;omega,hbel⟩
end Go.Proofs.YtjafpikjpipbkaaGreatDoor
namespace Go.Proofs.YtjafpikjpipbkaaGreatDoor
open Go.RowKit ND
def colShape (c:List Sp × Int × Int):Bool:=colOk c.1
def spOut (s:Sp):Bool:=outB s.1 s.2.1
def mpKeys (p:List Mp × Nat):Bool:=keysB (p.2 == 3) (-1) (keysOf p.1)
theorem rule2_parts (T:Tab):T.rule2=(T.cols.all colShape && (T.mps.zipIdx.all mpKeys && keysB false (-1) T.excluded)):=by
 unfold Tab.rule2 Tab.rule2m Tab.mps
 simp only [List.zipIdx_cons,List.zipIdx_nil,List.all_cons,List.all_nil,Bool.and_true]
 rfl
theorem zip_at {T:Tab} {k:Nat} {p:List Mp × Nat} (h:T.mps.zipIdx[k]?=some p):p.2=k ∧ T.mps[k]?=some p.1:=by
 rw [List.getElem?_zipIdx] at h
 cases hm:T.mps[k]? with
 | none => rw [hm] at h;cases h
 | some m => rw [hm] at h;cases h;exact ⟨by simp,rfl⟩
theorem keys_go {p:Bool} {last c:Int} {xs:List Int} {k:Nat} {R:Bool} (hx:xs[k]?=some c) (h:keysB p last (xs.drop k)=R) (h1:keyOk p last c=true):keysB p c (xs.drop (k + 1))=R:=by
 rw [drop_of_get hx,keysB,h1,Bool.true_and] at h;exact h
theorem keys_no {p:Bool} {last c:Int} {xs:List Int} {k:Nat} {R:Bool} (hx:xs[k]?=some c) (h:keysB p last (xs.drop k)=R) (h1:keyOk p last c=false):R=false:=by
 rw [drop_of_get hx,keysB,h1,Bool.false_and] at h;exact h.symm
theorem keys_end {p:Bool} {last:Int} {xs:List Int} {k:Nat} {R:Bool} (hk:xs.length ≤ k) (h:keysB p last (xs.drop k)=R):R=true:=by
 rw [List.drop_eq_nil_of_le hk] at h;exact h.symm
theorem keys_get {l:List Mp} {k:Nat} {m:Mp} (h:l[k]?=some m):(keysOf l)[k]?=some m.1:=by unfold keysOf;rw [List.getElem?_map,h];rfl
theorem key_ways (last c:Int) (k:Nat):(keyOk (k == 3) last c=true ∧ pointB last c=true) ∨ (keyOk (k == 3) last c=false ∧ pointB last c=false ∧ ((k:Int) != 3)=true) ∨
  (keyOk (k == 3) last c=false ∧ pointB last c=false ∧ ((k:Int) != 3)=false ∧ decide (c ≤ last)=true) ∨ (keyOk (k == 3) last c=false ∧ pointB last c=false ∧ ((k:Int) != 3)=false ∧ decide (c ≤ last)=false ∧ nameB c=false) ∨
  (keyOk (k == 3) last c=true ∧ pointB last c=false ∧ ((k:Int) != 3)=false ∧ decide (c ≤ last)=false ∧ nameB c=true):=by
 have hn:nameB c=true → c ≤ 1114111:=fun h => by rw [nameB_iff] at h;omega
 unfold keyOk pointB
 by_cases h3:k=3
 ·subst h3
  have e:(((3:Nat):Int) != 3)=false:=by decide
  rw [e]
  by_cases h1:last < c
  ·have e1:decide (c ≤ last)=false:=by rw [decide_eq_false_iff_not];omega
   rw [e1]
   by_cases h2:c ≤ 1114111
   ·rw [decide_eq_true (And.intro h1 h2)]
    cases resB c <;> cases nameB c <;> simp
   ·rw [decide_eq_false (fun h => h2 h.2)]
    have:nameB c=false:=by
     cases hh:nameB c
     ·rfl
     ·exact absurd (hn hh) h2
    rw [this];simp
  ·have e1:decide (c ≤ last)=true:=by rw [decide_eq_true_iff];omega
   rw [e1,decide_eq_false (fun h:last < c ∧ c ≤ 1114111 => h1 h.1)];simp
 ·have e:((k:Int) != 3)=true:=by rw [bne_iff_ne];omega
  have e2:(k == 3)=false:=by rw [beq_eq_false_iff_ne];exact h3
  rw [e,e2]
  cases decide (last < c ∧ c ≤ 1114111) <;> cases resB c <;> simp
theorem keyOk_false (last c:Int):keyOk false last c=pointB last c:=by unfold keyOk pointB;simp
theorem shape_any (t:Tv) (T:Tab) (w:World) (ht:TabR w w.heap.size t T) (hg:Glob w) :
  Calls Tryz.prog 50 #[t.val] w fun e w' => e=.returned (.bool T.rule2) ∧ Below w.heap.size w w':=by
 obtain ⟨A0,A1,A2,A3,A4,A5,A6,A7,A8,A9,A10,A11,k0,k1,k2,k3,k4,k5,k6,k7,k8,k9,k10,k11,rfl⟩:=ht.shape
 have HR:=Lib.hid (fun o:Obj => ht.later ((Below.refl _ _).alloc (Nat.le_refl _) o))
 have HG0:=Lib.hid (fun o:Obj => hg.later ((Below.refl _ _).alloc (Nat.le_refl _) o))
 clear ht hg
 obtain ⟨R,hR⟩:∃ R,R=T.rule2:=⟨_,rfl⟩
 rw [← hR]
 obtain ⟨R1,hR1⟩:∃ R1,R1=T.cols.all colShape:=⟨_,rfl⟩
 obtain ⟨R2,hR2⟩:∃ R2,R2=T.mps.zipIdx.all mpKeys:=⟨_,rfl⟩
 obtain ⟨R3,hR3⟩:∃ R3,R3=keysB false (-1) T.excluded:=⟨_,rfl⟩
 have HR1:Hid ((T.cols.drop 0).all colShape=R1):=Lib.hid hR1.symm
 have HR2:Hid ((T.mps.zipIdx.drop 0).all mpKeys=R2):=Lib.hid hR2.symm
 have HR3:Hid (keysB false (-1) (T.excluded.drop 0)=R3):=Lib.hid hR3.symm
 have HRR:Hid (R=(R1 && (R2 && R3))):=Lib.hid (by rw [hR,hR1,hR2,hR3,rule2_parts])
 clear hR hR1 hR2 hR3
 go_enter Tryz.func50,Tryz.ntmps50
 go_wp2_with fail
 refine (columns_any _ T _ (HR.out _)).mono ?_
 rintro e w1 ⟨ad,rfl,hc,b1⟩
 have HC:=Lib.hid hc.2
 have hca:=hc.1
 have HB:=Lib.hid ((Blk.new w 26 _).later b1)
 have HT:=Lib.hid ((HR.out _).later b1)
 have HG:=Lib.hid ((HG0.out _).later b1)
 have hbel1:=below_next ((Below.refl _ _).alloc (Nat.le_refl _) _) b1
 clear hc b1 HR HG0
 go_wp2_with fail
 go_loopw [18] (fun i wr => ∃ (k:Nat),k ≤ 7 ∧ i=.int .i64 k ∧ Hid ((T.cols.drop k).all colShape=R1) ∧ Below w1.heap.size w1 wr) (fun i _ => 7 - (intOf i).toNat)
 case atStart => exact ⟨0,by omega,rfl,HR1,Below.refl _ _⟩
 case round =>
  obtain ⟨k,hk,rfl,HS,hbel⟩:=hrel
  clear HR1
  by_cases hlt:k < 7
  ·obtain ⟨⟨l,lo,hi⟩,hxk,_⟩:=get_el (xs:=T.cols) (k:=k) hlt
   obtain ⟨v,d0,d1,d2,hv⟩:=HC.out k _ hxk
   simp only at d0 d1 d2 hv
   obtain ⟨A,c,rfl,hc1,hc2,_,hcell⟩:=id hv
   have HCE:=Lib.hid hcell
   have hlm:l.length ≤ 9223372036854775807:=by unfold maxLen at hc2;omega
   have HV:=Lib.hid (fun o => (hv.later hbel).later ((Below.refl _ _).alloc (Nat.le_refl _) o))
   obtain ⟨e0,e1,e2⟩:=span_cells hbel hca d0 d1 d2
   have HX:=Lib.hid hxk
   clear d0 d1 d2 hxk hcell hv hc1 hc2
   have q0:(0:Int) ≤ (k:Int):=by omega
   have q1:(k:Int) < (7:Int):=by omega
   have HK:=Lib.hid (fun W h => check_any (.slice A l.length c) l 0 1114111 W h)
   cases hck:checkS l 0 1114111
   ·rw [hck] at HK
    have HN:=Lib.hid (each_no HX.out HS.out (by unfold colShape colOk;rw [hck];rfl))
    clear hck
    go_wp2_with fail
    refine (HK.out _ (HV.out _)).mono ?_
    rintro e w2 ⟨rfl,b2⟩
    go_wp2_with fail
    go_ret
    rw [HRR.out,HN.out]
    exact ⟨by simp,below_next hbel1 (below_next (hbel.alloc hbel.size _) b2)⟩
   ·rw [hck] at HK
    obtain ⟨Ro,hRo⟩:∃ Ro,Ro=l.all spOut:=⟨_,rfl⟩
    have HO:Hid ((l.drop 0).all spOut=Ro):=Lib.hid hRo.symm
    have HCO:Hid (colShape (l,lo,hi)=Ro):=Lib.hid (by rw [hRo];unfold colShape colOk;rw [hck];rfl)
    clear hck hRo
    go_wp2_with fail
    refine (HK.out _ (HV.out _)).mono ?_
    rintro e w2 ⟨rfl,b2⟩
    have d0:=((Blk.new wr 147 #[.slice A l.length c,.int .i64 lo,.int .i64 hi]).later b2).at_ (i:=0) rfl
    have hbel2:Below w1.heap.size w1 w2:=below_next (hbel.alloc hbel.size _) b2
    clear HK HV b2 e0 e1 e2 hbel
    go_wp2_with fail
    clear d0
    go_loopw [29] (fun i wr => ∃ (j:Nat),j ≤ l.length ∧ i=.int .i64 j ∧ Hid ((l.drop j).all spOut=Ro) ∧ Below w1.heap.size w1 wr) (fun i _ => l.length - (intOf i).toNat)
    case atStart => exact ⟨0,by omega,rfl,HO,hbel2⟩
    case round =>
     obtain ⟨j,hj,rfl,HSj,hbelj⟩:=hrel
     clear HO hbel2
     by_cases hjl:j < l.length
     ·obtain ⟨⟨f,t,x⟩,hxj,_⟩:=get_el hjl
      obtain ⟨aj,rfl,ha,d0,d1,d2⟩:=HCE.out j _ hxj
      simp only at d0 d1 d2
      obtain ⟨e0,e1,e2⟩:=span_cells hbelj ha d0 d1 d2
      have HXj:=Lib.hid hxj
      have HGj:=Lib.hid (fun o => (HG.out.later hbelj).later ((Below.refl _ _).alloc (Nat.le_refl _) o))
      clear d0 d1 d2 hxj ha
      have r0:(0:Int) ≤ (j:Int):=by omega
      have r1:(j:Int) < (l.length:Int):=by omega
      have HOU:=Lib.hid (fun W h => outside_any f t x W h)
      cases ho:outB f t
      ·rw [ho] at HOU
       have HN:=Lib.hid (each_no HXj.out HSj.out ho)
       clear ho
       go_wp2_with fail
       refine (HOU.out _ (HGj.out _)).mono ?_
       rintro e w3 ⟨rfl,b3⟩
       go_wp2_with fail
       go_ret
       rw [HRR.out,each_no HX.out HS.out (HCO.out.trans HN.out)]
       exact ⟨by simp,below_next hbel1 (below_next (hbelj.alloc hbelj.size _) b3)⟩
      ·rw [ho] at HOU
       have HN:=Lib.hid (each_go HXj.out HSj.out ho)
       clear ho
       go_wp2_with fail
       refine (HOU.out _ (HGj.out _)).mono ?_
       rintro e w3 ⟨rfl,b3⟩
       go_wp2_with fail
       go_roundw
       case rel => exact ⟨j + 1,by omega,by go_num,HN,below_next (hbelj.alloc hbelj.size _) b3⟩
       case measure => simp [intOf];omega
     ·have HN:=Lib.hid (each_go HX.out HS.out (HCO.out.trans (each_end (by omega) HSj.out)))
      go_wp2_with fail
      go_roundw
      case rel => exact ⟨k + 1,by omega,by go_num,HN,hbelj⟩
      case measure => simp [intOf];omega
  ·have HN:=Lib.hid (each_end (by show 7 ≤ k;omega) HS.out)
   obtain ⟨x0,x1,x2,x3,x4,x5,x6,x7,x8,x9,x10,x11⟩:=(HB.out.later hbel).tab
   have HT2:=Lib.hid (HT.out.later hbel)
   clear HC hca HS
   go_wp2_with fail
   refine (mappings_any _ T _ HT2.out).mono ?_
   rintro e w2 ⟨am,rfl,hm,b2⟩
   have HM:=Lib.hid hm.2
   have hma:=hm.1
   have HB2:=Lib.hid ((HB.out.later hbel).later b2)
   have HX10:=Lib.hid (HT2.out.r10.later b2)
   have hbel2:=below_next hbel1 (below_next hbel b2)
   clear hm HT2 hbel hbel1 b2 x0 x1 x2 x3 x4 x5 x6 x7 x8 x9 x10 x11 HB HT HG
   go_wp2_with fail
   go_loopw [41] (fun i wr => ∃ (k:Nat),k ≤ 4 ∧ i=.int .i64 k ∧ Hid ((T.mps.zipIdx.drop k).all mpKeys=R2) ∧ Below w2.heap.size w2 wr) (fun i _ => 4 - (intOf i).toNat)
   case atStart => exact ⟨0,by omega,rfl,HR2,Below.refl _ _⟩
   case round =>
    obtain ⟨k,hk,rfl,HS,hbel⟩:=hrel
    clear HR2
    by_cases hlt:k < 4
    ·obtain ⟨⟨l,k'⟩,hxk,_⟩:=get_el (xs:=T.mps.zipIdx) (k:=k) hlt
     obtain ⟨hk',hxm⟩:=zip_at hxk
     simp only at hk' hxm
     subst hk'
     obtain ⟨v,d0,hv⟩:=HM.out k' _ hxm
     obtain ⟨A,c,rfl,hc1,hc2,_,hcell⟩:=id hv
     have HCE:=Lib.hid hcell
     have hlm:l.length ≤ 9223372036854775807:=by unfold maxLen at hc2;omega
     have e0:=(hbel.cell (p:=am.add k') (by rw [block_of_add];exact hma)).trans d0
     have HX:=Lib.hid hxk
     obtain ⟨Ro,hRo⟩:∃ Ro,Ro=mpKeys (l,k'):=⟨_,rfl⟩
     have HO:Hid (keysB (k' == 3) (-1) ((keysOf l).drop 0)=Ro):=Lib.hid hRo.symm
     have HCO:Hid (mpKeys (l,k')=Ro):=Lib.hid hRo.symm
     clear d0 hxk hxm hcell hv hc1 hc2 hRo
     have q0:(0:Int) ≤ (k':Int):=by omega
     have q1:(k':Int) < (4:Int):=by omega
     go_wp2_with fail
     clear e0
     go_loopw [9,48] (fun la i wr => ∃ (j:Nat) (last:Int),j ≤ l.length ∧ i=.int .i64 j ∧ la=.int .i64 last ∧ Hid (keysB (k' == 3) last ((keysOf l).drop j)=Ro) ∧ Below w2.heap.size w2 wr) (fun _ i _ => l.length - (intOf i).toNat)
     case atStart => exact ⟨0,-1,by omega,rfl,rfl,HO,hbel⟩
     case round =>
      obtain ⟨j,last,hj,rfl,rfl,HSj,hbelj⟩:=hrel
      clear HO hbel
      by_cases hjl:j < l.length
      ·obtain ⟨⟨cc,tg⟩,hxj,_⟩:=get_el hjl
       obtain ⟨aj,sv,rfl,ha,d0,d1,A',c',rfl,_⟩:=HCE.out j _ hxj
       simp only at d0 d1
       obtain ⟨e0,e1⟩:=map_cells hbelj ha d0 d1
       have HXj:=Lib.hid (keys_get hxj)
       simp only at HXj
       clear d0 d1 hxj ha
       have r0:(0:Int) ≤ (j:Int):=by omega
       have r1:(j:Int) < (l.length:Int):=by omega
       have HP:=Lib.hid (fun W => point_any last cc W)
       have HNA:=Lib.hid (fun W => name_any cc W)
       rcases key_ways last cc k' with ⟨ho,p0⟩ | ⟨ho,p0,p1⟩ | ⟨ho,p0,p1,p2⟩ | ⟨ho,p0,p1,p2,p3⟩ | ⟨ho,p0,p1,p2,p3⟩
       ·have HN:=Lib.hid (keys_go HXj.out HSj.out ho)
        rw [p0] at HP
        clear ho p0 HNA
        go_wp2_with fail
        refine (HP.out _).mono ?_
        rintro e w' ⟨rfl,rfl⟩
        go_wp2_with fail
        go_roundw
        case rel => exact ⟨j + 1,cc,by omega,by go_num,rfl,HN,hbelj.alloc hbelj.size _⟩
        case measure => simp [intOf];omega
       ·have HN:=Lib.hid (keys_no HXj.out HSj.out ho)
        rw [p0] at HP
        clear ho p0 HNA
        go_wp2_with fail
        refine (HP.out _).mono ?_
        rintro e w' ⟨rfl,rfl⟩
        go_wp2_with fail
        go_ret
        rw [HRR.out,each_no HX.out HS.out (HCO.out.trans HN.out)]
        exact ⟨by simp,below_next hbel2 (hbelj.alloc hbelj.size _)⟩
       ·have HN:=Lib.hid (keys_no HXj.out HSj.out ho)
        rw [p0] at HP
        clear ho p0 HNA
        go_wp2_with fail
        refine (HP.out _).mono ?_
        rintro e w' ⟨rfl,rfl⟩
        go_wp2_with fail
        go_ret
        rw [HRR.out,each_no HX.out HS.out (HCO.out.trans HN.out)]
        exact ⟨by simp,below_next hbel2 (hbelj.alloc hbelj.size _)⟩
       ·have HN:=Lib.hid (keys_no HXj.out HSj.out ho)
        rw [p0] at HP
        rw [p3] at HNA
        clear ho p0 p3
        go_wp2_with fail
        refine (HP.out _).mono ?_
        rintro e w' ⟨rfl,rfl⟩
        go_wp2_with fail
        refine (HNA.out _).mono ?_
        rintro e w' ⟨rfl,rfl⟩
        go_wp2_with fail
        go_ret
        rw [HRR.out,each_no HX.out HS.out (HCO.out.trans HN.out)]
        exact ⟨by simp,below_next hbel2 (hbelj.alloc hbelj.size _)⟩
       ·have HN:=Lib.hid (keys_go HXj.out HSj.out ho)
        rw [p0] at HP
        rw [p3] at HNA
        clear ho p0 p3
        go_wp2_with fail
        refine (HP.out _).mono ?_
        rintro e w' ⟨rfl,rfl⟩
        go_wp2_with fail
        refine (HNA.out _).mono ?_
        rintro e w' ⟨rfl,rfl⟩
        go_wp2_with fail
        go_roundw
        case rel => exact ⟨j + 1,cc,by omega,by go_num,rfl,HN,hbelj.alloc hbelj.size _⟩
        case measure => simp [intOf];omega
      ·have HN:=Lib.hid (each_go HX.out HS.out (HCO.out.trans (keys_end (by unfold keysOf;rw [List.length_map];omega) HSj.out)))
       go_wp2_with fail
       go_roundw
       case rel => exact ⟨k' + 1,by omega,by go_num,HN,hbelj⟩
       case measure => simp [intOf];omega
    ·have HN2:=Lib.hid (each_end (by show 4 ≤ k;omega) HS.out)
     obtain ⟨A,c,hA,hc1,hc2,_,hcell⟩:=HX10.out
     cases hA
     have HCE:=Lib.hid hcell
     have hlm:T.excluded.length ≤ 9223372036854775807:=by unfold maxLen at hc2;omega
     have x10:=(HB2.out.later hbel).at_ (i:=10) rfl
     clear HM hma HS HX10 hcell hc1 hc2 HB2
     go_wp2_with fail
     go_loop [12,80] (fun la i => ∃ (j:Nat) (last:Int),j ≤ T.excluded.length ∧ i=.int .i64 j ∧ la=.int .i64 last ∧ Hid (keysB false last (T.excluded.drop j)=R3)) (fun _ i => T.excluded.length - (intOf i).toNat)
     case atStart => exact ⟨0,-1,by omega,rfl,rfl,HR3⟩
     case round =>
      obtain ⟨j,last,hj,rfl,rfl,HSj⟩:=hrel
      clear HR3
      by_cases hjl:j < T.excluded.length
      ·obtain ⟨cc,hxj,_⟩:=get_el hjl
       obtain ⟨aj,rfl,ha,d0⟩:=HCE.out j _ hxj
       have e0:=(hbel.cell (p:=aj.add j) (by rw [block_of_add];exact ha)).trans d0
       have HXj:=Lib.hid hxj
       clear d0 hxj ha
       have r0:(0:Int) ≤ (j:Int):=by omega
       have r1:(j:Int) < (T.excluded.length:Int):=by omega
       have HP:=Lib.hid (fun W => point_any last cc W)
       cases ho:pointB last cc
       ·have HN3:=Lib.hid (keys_no HXj.out HSj.out ((keyOk_false _ _).trans ho))
        rw [ho] at HP
        clear ho
        go_wp2_with fail
        refine (HP.out _).mono ?_
        rintro e w' ⟨rfl,rfl⟩
        go_wp2_with fail
        go_ret
        rw [HRR.out,HN3.out]
        exact ⟨by simp,below_next hbel2 hbel⟩
       ·have HN3:=Lib.hid (keys_go HXj.out HSj.out ((keyOk_false _ _).trans ho))
        rw [ho] at HP
        clear ho
        go_wp2_with fail
        refine (HP.out _).mono ?_
        rintro e w' ⟨rfl,rfl⟩
        go_wp2_with fail
        go_round
        case rel => exact ⟨j + 1,cc,by omega,by go_num,rfl,HN3⟩
        case measure => simp [intOf];omega
      ·have HN3:=Lib.hid (keys_end (by omega) HSj.out)
       go_wp2_with fail
       go_ret
       rw [HRR.out,HN.out,HN2.out,HN3.out]
       exact ⟨by simp,below_next hbel2 hbel⟩
end Go.Proofs.YtjafpikjpipbkaaGreatDoor
namespace Go.Proofs.YtjafpikjpipbkaaGreatDoor
open Go.RowKit ND
def spVal (lo hi:Int) (s:Sp):Bool:=decide (lo ≤ s.2.2 ∧ s.2.2 ≤ hi)
theorem val_ways (lo hi v:Int):(decide (lo ≤ v ∧ v ≤ hi)=true ∧ decide (v < lo)=false ∧ decide (hi < v)=false) ∨ (decide (lo ≤ v ∧ v ≤ hi)=false ∧ decide (v < lo)=true) ∨
  (decide (lo ≤ v ∧ v ≤ hi)=false ∧ decide (v < lo)=false ∧ decide (hi < v)=true):=by
 simp only [decide_eq_true_eq,decide_eq_false_iff_not];omega
theorem values_any (t:Tv) (T:Tab) (w:World) (ht:TabR w w.heap.size t T) :
  Calls Tryz.prog 51 #[t.val] w fun e w' => e=.returned (.bool T.rule3) ∧ Below w.heap.size w w':=by
 obtain ⟨A0,A1,A2,A3,A4,A5,A6,A7,A8,A9,A10,A11,k0,k1,k2,k3,k4,k5,k6,k7,k8,k9,k10,k11,rfl⟩:=ht.shape
 have HR:=Lib.hid (fun o:Obj => ht.later ((Below.refl _ _).alloc (Nat.le_refl _) o))
 clear ht
 obtain ⟨R,hR⟩:∃ R,R=T.rule3:=⟨_,rfl⟩
 rw [← hR]
 have HR1:Hid ((T.cols.drop 0).all valsOk=R):=Lib.hid hR.symm
 clear hR
 go_enter Tryz.func51,Tryz.ntmps51
 go_wp2_with fail
 refine (columns_any _ T _ (HR.out _)).mono ?_
 rintro e w1 ⟨ad,rfl,hc,b1⟩
 have HC:=Lib.hid hc.2
 have hca:=hc.1
 have hbel1:=below_next ((Below.refl _ _).alloc (Nat.le_refl _) _) b1
 clear hc b1 HR
 go_wp2_with fail
 go_loopw [10] (fun i wr => ∃ (k:Nat),k ≤ 7 ∧ i=.int .i64 k ∧ Hid ((T.cols.drop k).all valsOk=R) ∧ Below w1.heap.size w1 wr) (fun i _ => 7 - (intOf i).toNat)
 case atStart => exact ⟨0,by omega,rfl,HR1,Below.refl _ _⟩
 case round =>
  obtain ⟨k,hk,rfl,HS,hbel⟩:=hrel
  clear HR1
  by_cases hlt:k < 7
  ·obtain ⟨⟨l,lo,hi⟩,hxk,_⟩:=get_el (xs:=T.cols) (k:=k) hlt
   obtain ⟨v,d0,d1,d2,hv⟩:=HC.out k _ hxk
   simp only at d0 d1 d2 hv
   obtain ⟨A,c,rfl,hc1,hc2,_,hcell⟩:=id hv
   have HCE:=Lib.hid hcell
   have hlm:l.length ≤ 9223372036854775807:=by unfold maxLen at hc2;omega
   obtain ⟨e0,e1,e2⟩:=span_cells hbel hca d0 d1 d2
   have HX:=Lib.hid hxk
   clear d0 d1 d2 hxk hcell hv hc1 hc2
   have q0:(0:Int) ≤ (k:Int):=by omega
   have q1:(k:Int) < (7:Int):=by omega
   obtain ⟨Ro,hRo⟩:∃ Ro,Ro=l.all (spVal lo hi):=⟨_,rfl⟩
   have HO:Hid ((l.drop 0).all (spVal lo hi)=Ro):=Lib.hid hRo.symm
   have HCO:Hid (valsOk (l,lo,hi)=Ro):=Lib.hid hRo.symm
   clear hRo
   go_wp2_with fail
   have hbw:=hbel.alloc hbel.size (.cells #[.slice A l.length c,.int .i64 lo,.int .i64 hi] 147)
   have HBC:=Lib.hid (Blk.new wr 147 #[.slice A l.length c,.int .i64 lo,.int .i64 hi])
   generalize wr.alloc (.cells #[.slice A l.length c,.int .i64 lo,.int .i64 hi] 147)=wo at *
   clear e0 e1 e2 hbel
   go_loopw [17] (fun i wj => ∃ (j:Nat),j ≤ l.length ∧ i=.int .i64 j ∧ Hid ((l.drop j).all (spVal lo hi)=Ro) ∧ Below wo.heap.size wo wj) (fun i _ => l.length - (intOf i).toNat)
   case atStart => exact ⟨0,by omega,rfl,HO,Below.refl _ _⟩
   case round =>
    obtain ⟨j,hj,rfl,HSj,hbelj⟩:=hrel
    clear HO
    by_cases hjl:j < l.length
    ·obtain ⟨⟨f,t,x⟩,hxj,_⟩:=get_el hjl
     obtain ⟨aj,rfl,ha,d0,d1,d2⟩:=HCE.out j _ hxj
     simp only at d0 d1 d2
     obtain ⟨e0,e1,e2⟩:=span_cells (below_next hbw hbelj) ha d0 d1 d2
     have HXj:=Lib.hid hxj
     have hbc:=(HBC.out.later hbelj).alloc (.cells #[.int .i64 f,.int .i64 t,.int .i64 x] 54)
     have c1:=hbc.at_ (i:=1) (u:=.int .i64 lo) rfl
     have c2:=hbc.at_ (i:=2) (u:=.int .i64 hi) rfl
     clear d0 d1 d2 hxj ha hbc
     have r0:(0:Int) ≤ (j:Int):=by omega
     have r1:(j:Int) < (l.length:Int):=by omega
     rcases val_ways lo hi x with ⟨ho,p0,p1⟩ | ⟨ho,p0⟩ | ⟨ho,p0,p1⟩
     ·have HN:=Lib.hid (each_go HXj.out HSj.out ho)
      clear ho
      go_wp2_with fail
      go_roundw
      case rel => exact ⟨j + 1,by omega,by go_num,HN,hbelj.alloc hbelj.size _⟩
      case measure => simp [intOf];omega
     ·have HN:=Lib.hid (each_no HXj.out HSj.out ho)
      clear ho
      go_wp2_with fail
      go_ret
      rw [each_no HX.out HS.out (HCO.out.trans HN.out)]
      exact ⟨rfl,below_next hbel1 (below_next hbw (hbelj.alloc hbelj.size _))⟩
     ·have HN:=Lib.hid (each_no HXj.out HSj.out ho)
      clear ho
      go_wp2_with fail
      go_ret
      rw [each_no HX.out HS.out (HCO.out.trans HN.out)]
      exact ⟨rfl,below_next hbel1 (below_next hbw (hbelj.alloc hbelj.size _))⟩
    ·have HN:=Lib.hid (each_go HX.out HS.out (HCO.out.trans (each_end (by omega) HSj.out)))
     go_wp2_with fail
     go_roundw
     case rel => exact ⟨k + 1,by omega,by go_num,HN,below_next hbw hbelj⟩
     case measure => simp [intOf];omega
  ·have HN:=Lib.hid (each_end (by show 7 ≤ k;omega) HS.out)
   go_wp2_with fail
   go_ret
   rw [HN.out]
   exact ⟨rfl,below_next hbel1 hbel⟩
end Go.Proofs.YtjafpikjpipbkaaGreatDoor
namespace Go.Proofs.YtjafpikjpipbkaaGreatDoor
open Go.RowKit ND
theorem refScalar_any (c:Int) (w:World):Calls Tryz.prog 47 #[.int .i64 c] w fun e w' => e=.returned (.bool (scalarB c)) ∧ w=w':=by
 go_enter Tryz.func47,Tryz.ntmps47
 go_wp2
 all_goals go_ret
 all_goals refine ⟨ret_bool (bool_eq ?_),rfl⟩
 all_goals rw [scalarB_iff]
 all_goals simp
 all_goals omega
end Go.Proofs.YtjafpikjpipbkaaGreatDoor
