/-
  Merged texts: lemmas and walks that the last text of this claim leans on.
-/
import Derived.Test.YtjafpikjpipbkaaGreatDoorMgTS4
import Derived.Test.YtjafpikjpipbkaaGreatDoorMgTS1
import Derived.Deep.AppendLies
import Derived.Deep.LoopGhost
import Derived.BigQuiet
import Derived.Test.YtjafpikjpipbkaaGreatDoorMgTS3
set_option maxRecDepth 100000
set_option maxHeartbeats 40000000
namespace Go.Proofs.YtjafpikjpipbkaaGreatDoor
open Go.RowKit ND
theorem findL_len {l:List Mp} {c:Int} (h:∀ m ∈ l,m.2.length ≤ 1000):(findL l c).length ≤ 1000:=by
 by_cases hf:findL l c=[]
 ·rw [hf];simp
 ·exact h _ (findL_mem hf)
def FindsIn (w:World) (v:Value) (c:Int) (u:Value):Prop:=∀ W,Below w.heap.size w W → Calls Tryz.prog 79 #[v,.int .i64 c] W fun e W' => e=.returned u ∧ Below W.heap.size W W'
theorem find_v (v:Value) (xs:List Mp) (c:Int) (w:World) (hv:Mapps w w.heap.size v xs) (hs:sortM xs) (hne:∀ m ∈ xs,m.2 ≠ []) (hlen:xs.length ≤ 256) :
  ∃ u,Ints w w.heap.size .i64 u (findL xs c) ∧ (findL xs c=[] → u=.slice none 0 0) ∧ FindsIn w v c u:=by
 have eg:=enters_of Tryz.func133 (by kernel_rfl) rfl
 have HV:=Lib.hid hv
 obtain ⟨A,cap,rfl,_,_,_,hcell⟩:=hv
 by_cases hk:∃ (k0:Nat) (a:Mp),xs[k0]?=some a ∧ a.1=c
 ·obtain ⟨k0,⟨f,ys⟩,hx0,hfc⟩:=hk
  simp only at hfc
  subst hfc
  obtain ⟨ad,sv,rfl,ha,d0,d1,hsv⟩:=hcell k0 _ hx0
  simp only at d0 d1 hsv
  have hlow0:∀ i a,i < k0 → xs[i]?=some a → a.1 < f:=fun i a hi hxi => hs i k0 a (f,ys) hi hxi hx0
  have hfind:findL xs f=ys:=findL_at hlow0 hx0 rfl
  rw [hfind]
  refine ⟨sv,hsv,fun e => absurd e (hne _ (List.mem_of_getElem? hx0)),fun W hW => ?_⟩
  obtain ⟨e0,e1⟩:=map_cells hW ha d0 d1
  have hk0:k0 < xs.length:=(List.getElem?_eq_some_iff.1 hx0).1
  have HU:Hid (∀ k,k ≤ xs.length → (∀ i,i < k → pF xs f i=false) → (k < xs.length → pF xs f k=true) → k=k0):=Lib.hid (fun k hk hl hh => by
   have h1:k ≤ k0:=by
    rcases Nat.lt_or_ge k0 k with h | h
    ·have:=hl k0 h
     rw [pF_some hx0,decide_eq_false_iff_not] at this
     simp at this
    ·exact h
   have h2:k < xs.length:=by omega
   have h3:=hh h2
   obtain ⟨b,hxb,_⟩:=get_el h2
   rw [pF_some hxb,decide_eq_true_eq] at h3
   rcases Nat.lt_or_ge k k0 with h | h
   ·have:=hlow0 k b h hxb;omega
   ·omega)
  have HVW:=Lib.hid (HV.out.later hW)
  have HE0:=Lib.hid e0
  have HE1:=Lib.hid e1
  have hsvs:∃ A' c',sv=.slice A' ys.length c':=by obtain ⟨A',c',h,_⟩:=hsv;exact ⟨A',c',h⟩
  obtain ⟨A',c',rfl⟩:=hsvs
  have hbA:=Nat.lt_of_lt_of_le ha hW.size
  clear hcell hsv d0 d1 e0 e1 hfind hne ha hx0 hlow0 HV hW
  have hbw:Below W.heap.size W ((W.alloc (.cells #[.slice (some ad) xs.length cap] 24)).alloc (.cells #[.int .i64 f] 3)):=((Below.refl _ _).alloc (Nat.le_refl _) _).alloc (by simp) _
  have hboxes:∀ V,Below ((W.alloc (.cells #[.slice (some ad) xs.length cap] 24)).alloc (.cells #[.int .i64 f] 3)).heap.size ((W.alloc (.cells #[.slice (some ad) xs.length cap] 24)).alloc (.cells #[.int .i64 f] 3)) V →
    V.cell? ⟨W.heap.size,0,none⟩=some (.slice (some ad) xs.length cap) ∧ V.cell? ⟨W.heap.size + 1,0,none⟩=some (.int .i64 f):=by
   intro V hb
   have hsz:(W.alloc (.cells #[.slice (some ad) xs.length cap] 24)).heap.size=W.heap.size + 1:=by simp
   have h1:=cell_new1 W (.slice (some ad) xs.length cap) 24
   have h2:=cell_new1 (W.alloc (.cells #[.slice (some ad) xs.length cap] 24)) (.int .i64 f) 3
   rw [hsz] at h2
   have h1':=(World.cell?_alloc_lt (W.alloc (.cells #[.slice (some ad) xs.length cap] 24)) (.cells #[.int .i64 f] 3) ⟨W.heap.size,0,none⟩ (by simp)).trans h1
   exact ⟨(hb.cell (p:=⟨W.heap.size,0,none⟩) (by simp;omega)).trans h1',(hb.cell (p:=⟨W.heap.size + 1,0,none⟩) (by simp)).trans h2⟩
  have HB:=Lib.hid hboxes
  have HBW:=Lib.hid hbw
  clear hboxes hbw
  have HSR:=Lib.hid (search_any 133 #[.pointer (some ⟨W.heap.size,0,none⟩),.pointer (some ⟨W.heap.size + 1,0,none⟩)] xs.length (pF xs f) ((W.alloc (.cells #[.slice (some ad) xs.length cap] 24)).alloc (.cells #[.int .i64 f] 3)) eg (by omega) (by
   intro V i hb hi
   exact findClos _ _ (some ad) cap xs f V i hi (HB.out V hb).1 (HB.out V hb).2 ((HVW.out.later HBW.out).later hb)) (pF_mono hs))
  go_enter Tryz.func79,Tryz.ntmps79
  go_wp2_with fail
  refine HSR.out.mono ?_
  rintro e w2 ⟨k,rfl,hk,hlow,hhigh,b2⟩
  obtain rfl:=HU.out k hk hlow hhigh
  obtain ⟨q0,q1⟩:=HB.out w2 b2
  have hbel:=HBW.out.trans (b2.mono HBW.out.size)
  have e0:=(hbel.cell (p:=ad.add (k * 2)) (by rw [block_of_add];exact hbA)).trans HE0.out
  have e1:=(hbel.cell (p:={ block:=(ad.add (k * 2)).block,off:=(ad.add (k * 2)).off + 1,spot:=none }) (by show (ad.add (k * 2)).block < _;rw [block_of_add];exact hbA)).trans HE1.out
  clear HSR HB HBW HVW b2 hlow hhigh eg HU HE0 HE1 hs
  have k0':(0:Int) ≤ (k:Int):=by omega
  have k1':(k:Int) < (xs.length:Int):=by omega
  have hb0:((k:Int) == (xs.length:Int))=false:=by rw [beq_eq_false_iff_ne];omega
  go_wp2_with fail
  go_quiet (fail)
  go_wp2_with fail
  go_ret
  exact ⟨rfl,below_drewN hbel nq⟩
 ·have hfind:findL xs c=[]:=findL_no fun i a hi e => hk ⟨i,a,hi,e⟩
  rw [hfind]
  refine ⟨.slice none 0 0,Ints.none_,fun _ => rfl,fun W hW => ?_⟩
  refine (find_any _ xs c W (HV.out.later hW) hs hne hlen).mono ?_
  rintro e w1 ⟨u,rfl,_,hn,b1⟩
  rw [hn hfind]
  exact ⟨rfl,b1⟩
end Go.Proofs.YtjafpikjpipbkaaGreatDoor
namespace Go.Proofs.YtjafpikjpipbkaaGreatDoor
open Go.RowKit ND
theorem Ints.some_ {w:World} {B:Nat} {k:IntKind} {v:Value} {xs:List Int} (h:Ints w B k v xs) (hne:xs ≠ []):∃ ad c,v=.slice (some ad) xs.length c ∧ ad.block < B ∧ xs.length ≤ c ∧ c ≤ maxLen ∧ ∀ i x,xs[i]?=some x → w.cell? (ad.add i)=some (.int k x):=by
 obtain ⟨A,c,rfl,h1,h2,h3,h4⟩:=h
 obtain ⟨x,r,rfl⟩:=List.exists_cons_of_ne_nil hne
 obtain ⟨ad,rfl,ha,_⟩:=h4 0 x rfl
 refine ⟨ad,c,rfl,ha,h1,h2,fun i y hi => ?_⟩
 obtain ⟨ad',e,_,hc⟩:=h4 i y hi
 cases e
 exact hc
theorem sizeF_some {D:List Mp} {f:Nat} {c:Int} (h:findL D c ≠ []):sizeF D (f + 1) c=min 19 ((findL D c).map (sizeF D f)).sum:=by rw [sizeF,if_neg h]
theorem sizeF_none {D:List Mp} {f:Nat} {c:Int} (h:findL D c=[]):sizeF D f c=1:=by
 cases f with
 | zero => rw [sizeF,if_pos h]
 | succ f => rw [sizeF,if_pos h]
theorem sizeF_19 (D:List Mp) (f:Nat) (c:Int):sizeF D f c ≤ 19:=by
 rw [sizeF_eq];split <;> omega
theorem sum_go {D:List Mp} {f:Nat} {ys:List Int} {k n S:Nat} {y:Int} (hx:ys[k]?=some y) (h:n + ((ys.drop k).map (sizeF D f)).sum=S):n + sizeF D f y + ((ys.drop (k + 1)).map (sizeF D f)).sum=S:=by
 rw [drop_of_get hx,List.map_cons,List.sum_cons] at h;omega
theorem sum_end {D:List Mp} {f:Nat} {ys:List Int} {k n S:Nat} (hk:ys.length ≤ k) (h:n + ((ys.drop k).map (sizeF D f)).sum=S):S=n:=by
 rw [List.drop_eq_nil_of_le hk] at h;simpa using h.symm
theorem size_any (t:Tv) (T:Tab) (hs:sortM T.decomps) (hne:∀ m ∈ T.decomps,m.2 ≠ [] ∧ m.2.length ≤ 1000) (hlen:T.decomps.length ≤ 256):∀ (f:Nat) (c depth:Int) (w:World),TabR w w.heap.size t T → depth=(T.decomps.length:Int) + 1 - f → 0 ≤ depth →
  Calls Tryz.prog 98 #[t.val,.int .i64 c,.int .i64 depth] w fun e w' => e=.returned (.int .i64 (sizeF T.decomps f c:Nat)) ∧ Below w.heap.size w w':=by
 intro f
 induction f with
 | zero =>
   intro c depth w ht hd hd0
   obtain ⟨tc,htc⟩:∃ tc,tc=t.cells:=⟨_,rfl⟩
   obtain ⟨A0,A1,A2,A3,A4,A5,A6,A7,A8,A9,A10,A11,k0,k1,k2,k3,k4,k5,k6,k7,k8,k9,k10,k11,rfl⟩:=ht.shape
   have HR:=Lib.hid (fun o:Obj => ht.r9.later ((Below.refl _ _).alloc (Nat.le_refl _) o))
   have HF:=Lib.hid (fun W (h:Mapps W W.heap.size (.slice A9 T.decomps.length k9) T.decomps) => find_any _ T.decomps c W h hs (fun m hm => (hne m hm).1) hlen)
   have hdl:(T.decomps.length:Int) < depth:=by omega
   have HD:=Lib.hid hd
   clear ht hs hne htc hd
   by_cases hn:findL T.decomps c=[]
   ·rw [sizeF_none hn]
    have HN:=Lib.hid hn
    clear hn
    have heq:=fun (w:World) (a:Option Addr) (n c:Nat) => Lib.run_eql_slice_nil (P:=Tryz.prog) w 22 3 a n c 0 0 Tryz.underlying22
    go_enter Tryz.func98,Tryz.ntmps98
    go_wp2_with fail
    refine (HF.out _ (HR.out _)).mono ?_
    rintro e w1 ⟨u,rfl,hu,hun,b1⟩
    obtain rfl:=hun HN.out
    clear hu hun
    go_wp2_with fail
    go_ret
    exact ⟨rfl,below_next ((Below.refl _ _).alloc (Nat.le_refl _) _) b1⟩
   ·have h19:sizeF T.decomps 0 c=19:=by rw [sizeF,if_neg hn]
    rw [h19]
    have HN:=Lib.hid hn
    clear hn h19
    have heq:=fun (w:World) (a:Option Addr) (n c:Nat) => Lib.run_eql_slice_nil (P:=Tryz.prog) w 22 3 a n c 0 0 Tryz.underlying22
    go_enter Tryz.func98,Tryz.ntmps98
    go_wp2_with fail
    have hB0:Blk (w.alloc (.cells #[.slice A0 T.category.length k0,.slice A1 T.cls.length k1,.slice A2 T.joining.length k2,.slice A3 T.bidi.length k3,.slice A4 T.script.length k4,.slice A5 T.status.length k5,.slice A6 T.ignorable.length k6,.slice A7 T.extensions.length k7,.slice A8 T.maps.length k8,.slice A9 T.decomps.length k9,.slice A10 T.excluded.length k10,.slice A11 T.prototypes.length k11] 26)) w.heap.size 26 _:=Blk.new _ _ _
    have HB0:=Lib.hid hB0
    clear hB0
    refine (HF.out _ (HR.out _)).mono ?_
    rintro e w1 ⟨u,rfl,hu,hun,b1⟩
    obtain ⟨ad,cu,rfl,_⟩:=hu.some_ HN.out
    have x9:=(HB0.out.later b1).at_ (i:=9) rfl
    clear hu hun HB0
    go_wp2_with fail
    go_ret
    exact ⟨rfl,below_next ((Below.refl _ _).alloc (Nat.le_refl _) _) b1⟩
 | succ f ih =>
   intro c depth w ht hd hd0
   have HIH:=Lib.hid (fun c W h => ih c (depth + 1) W h (by omega) (by omega))
   have HT:=Lib.hid (fun W (h:Below w.heap.size w W) => ht.later h)
   obtain ⟨tc,htc⟩:∃ tc,tc=t.cells:=⟨_,rfl⟩
   obtain ⟨A0,A1,A2,A3,A4,A5,A6,A7,A8,A9,A10,A11,k0,k1,k2,k3,k4,k5,k6,k7,k8,k9,k10,k11,rfl⟩:=ht.shape
   have HR:=Lib.hid (fun o:Obj => ht.r9.later ((Below.refl _ _).alloc (Nat.le_refl _) o))
   have HF:=Lib.hid (fun W (h:Mapps W W.heap.size (.slice A9 T.decomps.length k9) T.decomps) => find_any _ T.decomps c W h hs (fun m hm => (hne m hm).1) hlen)
   have HNL:=findL_len (c:=c) (fun m hm => (hne m hm).2)
   have hdl:depth ≤ (T.decomps.length:Int):=by omega
   have HTC:=Lib.hid htc
   clear ht hs hne htc hd ih
   by_cases hn:findL T.decomps c=[]
   ·rw [sizeF_none hn]
    have HN:=Lib.hid hn
    clear hn
    have heq:=fun (w:World) (a:Option Addr) (n c:Nat) => Lib.run_eql_slice_nil (P:=Tryz.prog) w 22 3 a n c 0 0 Tryz.underlying22
    go_enter Tryz.func98,Tryz.ntmps98
    go_wp2_with fail
    refine (HF.out _ (HR.out _)).mono ?_
    rintro e w1 ⟨u,rfl,hu,hun,b1⟩
    obtain rfl:=hun HN.out
    clear hu hun
    go_wp2_with fail
    go_ret
    exact ⟨rfl,below_next ((Below.refl _ _).alloc (Nat.le_refl _) _) b1⟩
   ·rw [sizeF_some hn]
    have HN:=Lib.hid hn
    generalize findL T.decomps c=ys at *
    obtain ⟨S,hS⟩:∃ S,S=(ys.map (sizeF T.decomps f)).sum:=⟨_,rfl⟩
    rw [← hS]
    have HS0:Hid (0 + ((ys.drop 0).map (sizeF T.decomps f)).sum=S):=Lib.hid (by rw [hS,Nat.zero_add];rfl)
    clear hn hS
    have heq:=fun (w:World) (a:Option Addr) (n c:Nat) => Lib.run_eql_slice_nil (P:=Tryz.prog) w 22 3 a n c 0 0 Tryz.underlying22
    go_enter Tryz.func98,Tryz.ntmps98
    go_wp2_with fail
    have HB0:=Lib.hid (show Blk (w.alloc (.cells #[.slice A0 T.category.length k0,.slice A1 T.cls.length k1,.slice A2 T.joining.length k2,.slice A3 T.bidi.length k3,.slice A4 T.script.length k4,.slice A5 T.status.length k5,.slice A6 T.ignorable.length k6,.slice A7 T.extensions.length k7,.slice A8 T.maps.length k8,.slice A9 T.decomps.length k9,.slice A10 T.excluded.length k10,.slice A11 T.prototypes.length k11] 26)) w.heap.size 26 tc from by rw [HTC.out];exact Blk.new _ _ _)
    refine (HF.out _ (HR.out _)).mono ?_
    rintro e w1 ⟨u,rfl,hu,hun,b1⟩
    obtain ⟨ad,cu,rfl,hau,hcu1,hcu2,hcell⟩:=hu.some_ HN.out
    have HC:=Lib.hid hcell
    have HB1:=Lib.hid (HB0.out.later b1)
    have hbel1:=below_next ((Below.refl _ _).alloc (Nat.le_refl _) _) b1
    have x9:=(show Blk _ _ _ #[_,_,_,_,_,_,_,_,_,_,_,_] from by have h:=HB1.out;rw [HTC.out] at h;exact h).at_ (i:=9) rfl
    clear hu hun HB0 hcell hcu1 hcu2 HF HR b1
    go_wp2_with fail
    clear x9
    clear heq
    go_loopw [8,24] (fun n i wr => ∃ (q m:Nat),q ≤ ys.length ∧ i=.int .i64 q ∧ n=.int .i64 m ∧ m ≤ 18 ∧ Hid (m + ((ys.drop q).map (sizeF T.decomps f)).sum=S) ∧ Below w.heap.size w wr ∧ Below w1.heap.size w1 wr) (fun _ i _ => ys.length - (intOf i).toNat)
    case atStart => exact ⟨0,0,by omega,rfl,rfl,by omega,HS0,hbel1,Below.refl _ _⟩
    case round =>
     obtain ⟨q,m,hq,rfl,rfl,hm,HS,hbel,hbelq⟩:=hrel
     clear HS0 hbel1
     by_cases hql:q < ys.length
     ·obtain ⟨y,hyq,_⟩:=get_el hql
      have e0:=(hbelq.cell (p:=ad.add q) (by rw [block_of_add];exact hau)).trans (HC.out q y hyq)
      have HNX:=Lib.hid (sum_go hyq HS.out)
      obtain ⟨x0,x1,x2,x3,x4,x5,x6,x7,x8,x9,x10,x11⟩:=(show Blk _ _ _ #[_,_,_,_,_,_,_,_,_,_,_,_] from by have h:=HB1.out.later hbelq;rw [HTC.out] at h;exact h).tab
      have h19:=sizeF_19 T.decomps f y
      have HCA:=Lib.hid (HIH.out y _ (HT.out _ hbel))
      obtain ⟨s,hs⟩:∃ s,s=sizeF T.decomps f y:=⟨_,rfl⟩
      rw [← hs] at HNX h19 HCA
      clear hyq hs HS
      have s0:(0:Int) ≤ (q:Int):=by omega
      have s1:(q:Int) < (ys.length:Int):=by omega
      by_cases hbig:18 < m + s
      ·have p1:(18:Int) < (m:Int) + (s:Int):=by omega
       clear hbig
       go_wp2_with fail
       refine HCA.out.mono ?_
       rintro e w2 ⟨rfl,b2⟩
       clear x0 x1 x2 x3 x4 x5 x6 x7 x8 x9 x10 x11 e0
       go_wp2_with fail
       go_ret
       refine ⟨?_,below_next hbel b2⟩
       have:=HNX.out
       rw [Nat.min_eq_left (by omega)];rfl
      ·have p1:(m:Int) + (s:Int) ≤ 18:=by omega
       clear hbig
       go_wp2_with fail
       refine HCA.out.mono ?_
       rintro e w2 ⟨rfl,b2⟩
       clear x0 x1 x2 x3 x4 x5 x6 x7 x8 x9 x10 x11 e0
       go_wp2_with fail
       go_roundw
       case rel => exact ⟨q + 1,m + s,by omega,by go_num,by go_num,by omega,HNX,below_next hbel b2,below_next hbelq b2⟩
       case measure => simp [intOf];omega
     ·have HE:=Lib.hid (sum_end (by omega) HS.out)
      go_wp2_with fail
      go_ret
      refine ⟨?_,hbel⟩
      rw [HE.out,Nat.min_eq_right (by omega)]
      rfl
theorem el_ways (c:Int):(decEl c=false ∧ (c == 46)=true) ∨ (decEl c=false ∧ (c == 46)=false ∧ sylB c=true) ∨ (decEl c=false ∧ (c == 46)=false ∧ sylB c=false ∧ jamoB c=true) ∨ (decEl c=true ∧ (c == 46)=false ∧ sylB c=false ∧ jamoB c=false):=by
 unfold decEl
 by_cases h:c=46
 ·exact .inl ⟨by rw [decide_eq_true h];rfl,by rw [beq_iff_eq];exact h⟩
 ·have hb:(c == 46)=false:=by rw [beq_eq_false_iff_ne];exact h
  rw [hb,decide_eq_false h]
  cases sylB c <;> cases jamoB c <;> simp
theorem decOk_no {c:Int} {tg:List Int} (h:2 < tg.length):decOk (c,tg)=false:=by unfold decOk;rw [decide_eq_false (by simp only;omega)];rfl
theorem decOk_yes {c:Int} {tg:List Int} (h:¬ 2 < tg.length):decOk (c,tg)=tg.all decEl:=by unfold decOk;rw [decide_eq_true (by simp only;omega)];rfl
theorem decomposed_any (t:Tv) (T:Tab) (w:World) (ht:TabR w w.heap.size t T) (hs:sortM T.decomps) (hne:∀ m ∈ T.decomps,m.2 ≠ [] ∧ m.2.length ≤ 1000) (hlen:T.decomps.length ≤ 256) :
  Calls Tryz.prog 54 #[t.val] w fun e w' => e=.returned (.bool T.rule6) ∧ Below w.heap.size w w':=by
 obtain ⟨tc,htc⟩:∃ tc,tc=t.cells:=⟨_,rfl⟩
 have HSZ:=Lib.hid (fun c W h => size_any t T hs hne hlen (T.decomps.length + 1) c 0 W h (by omega) (by omega))
 have HT:=Lib.hid (fun W (h:Below w.heap.size w W) => ht.later h)
 have hmp:=ht.r9
 obtain ⟨A0,A1,A2,A3,A4,A5,A6,A7,A8,A9,A10,A11,k0,k1,k2,k3,k4,k5,k6,k7,k8,k9,k10,k11,rfl⟩:=ht.shape
 have HTC:=Lib.hid htc
 obtain ⟨B,cq,hB,_,_,_,hcell2⟩:=hmp
 cases hB
 have HM:=Lib.hid hcell2
 clear ht htc hs hne hcell2
 obtain ⟨R,hR⟩:∃ R,R=T.rule6:=⟨_,rfl⟩
 rw [← hR]
 obtain ⟨Ra,hRa⟩:∃ Ra,Ra=T.decomps.all decOk:=⟨_,rfl⟩
 obtain ⟨Rb,hRb⟩:∃ Rb,Rb=T.decomps.all T.szOk:=⟨_,rfl⟩
 have HA0:Hid ((T.decomps.drop 0).all decOk=Ra):=Lib.hid hRa.symm
 have HB0:Hid ((T.decomps.drop 0).all T.szOk=Rb):=Lib.hid hRb.symm
 have HRR:Hid (R=(Ra && Rb)):=Lib.hid (by rw [hR,hRa,hRb];rfl)
 clear hR hRa hRb
 go_enter Tryz.func54,Tryz.ntmps54
 go_wp2_with fail
 go_loopw [12] (fun i wr => ∃ (j:Nat),j ≤ T.decomps.length ∧ i=.int .i64 j ∧ Hid ((T.decomps.drop j).all decOk=Ra) ∧ Below w.heap.size w wr ∧ Hid (Blk wr w.heap.size 26 tc)) (fun i _ => T.decomps.length - (intOf i).toNat)
 case atStart => exact ⟨0,by omega,rfl,HA0,(Below.refl _ _).alloc (Nat.le_refl _) _,Lib.hid (by rw [HTC.out];exact Blk.new _ _ _)⟩
 case round =>
  obtain ⟨j,hj,rfl,HS,hbel,HB⟩:=hrel
  clear HA0
  by_cases hjl:j < T.decomps.length
  ·obtain ⟨⟨cc,tg⟩,hxj,_⟩:=get_el hjl
   obtain ⟨aj,sv,rfl,ha,d0,d1,hto⟩:=HM.out j _ hxj
   simp only at d0 d1 hto
   obtain ⟨A',c',rfl,he1,he2,_,hcl⟩:=id hto
   have HTO:=Lib.hid hcl
   have hlt:tg.length ≤ 9223372036854775807:=by unfold maxLen at he2;omega
   obtain ⟨e0,e1⟩:=map_cells hbel ha d0 d1
   have HX:=Lib.hid hxj
   have hbelw:=hbel.alloc hbel.size (.cells #[.int .i64 cc,.slice A' tg.length c'] 61)
   have HB':=Lib.hid (HB.out.alloc (.cells #[.int .i64 cc,.slice A' tg.length c'] 61))
   clear d0 d1 hxj ha hto hcl he1 he2 HB
   have r0:(0:Int) ≤ (j:Int):=by omega
   have r1:(j:Int) < (T.decomps.length:Int):=by omega
   by_cases h2:2 < tg.length
   ·have HN:=Lib.hid (each_no HX.out HS.out (decOk_no (c:=cc) h2))
    have p1:(2:Int) < (tg.length:Int):=by omega
    clear h2
    go_wp2_with fail
    go_ret
    rw [HRR.out,HN.out]
    exact ⟨by simp,hbelw⟩
   ·have HOK:=Lib.hid (decOk_yes (c:=cc) h2)
    have p1:(tg.length:Int) ≤ 2:=by omega
    obtain ⟨Rt,hRt⟩:∃ Rt,Rt=tg.all decEl:=⟨_,rfl⟩
    have HO:Hid ((tg.drop 0).all decEl=Rt):=Lib.hid hRt.symm
    have HOK2:Hid (decOk (cc,tg)=Rt):=Lib.hid (HOK.out.trans hRt.symm)
    clear h2 HOK hRt
    go_wp2_with fail
    generalize World.alloc _ (.cells #[.int .i64 cc,.slice A' tg.length c'] 61)=wo at *
    clear e0 e1 hbel
    go_loop [23] (fun i => ∃ (q:Nat),q ≤ tg.length ∧ i=.int .i64 q ∧ Hid ((tg.drop q).all decEl=Rt)) (fun i => tg.length - (intOf i).toNat)
    case atStart => exact ⟨0,by omega,rfl,HO⟩
    case round =>
     obtain ⟨q,hq,rfl,HSq⟩:=hrel
     clear HO
     by_cases hql:q < tg.length
     ·obtain ⟨y,hyq,_⟩:=get_el hql
      obtain ⟨ay,rfl,hay,d0⟩:=HTO.out q _ hyq
      have e0:=(hbelw.cell (p:=ay.add q) (by rw [block_of_add];exact hay)).trans d0
      have HXq:=Lib.hid hyq
      clear d0 hyq hay
      have s0:(0:Int) ≤ (q:Int):=by omega
      have s1:(q:Int) < (tg.length:Int):=by omega
      have HSY:=Lib.hid (fun W => syl_any y W)
      have HJA:=Lib.hid (fun W => jamo_any y W)
      rcases el_ways y with ⟨ho,u0⟩ | ⟨ho,u0,u1⟩ | ⟨ho,u0,u1,u2⟩ | ⟨ho,u0,u1,u2⟩
      ·have HN:=Lib.hid (each_no HXq.out HSq.out ho)
       clear ho
       go_wp2_with fail
       go_ret
       rw [HRR.out,each_no HX.out HS.out (HOK2.out.trans HN.out)]
       exact ⟨by simp,hbelw⟩
      ·have HN:=Lib.hid (each_no HXq.out HSq.out ho)
       rw [u1] at HSY
       clear ho u1
       go_wp2_with fail
       refine (HSY.out _).mono ?_
       rintro e w2 ⟨rfl,rfl⟩
       go_wp2_with fail
       go_ret
       rw [HRR.out,each_no HX.out HS.out (HOK2.out.trans HN.out)]
       exact ⟨by simp,hbelw⟩
      ·have HN:=Lib.hid (each_no HXq.out HSq.out ho)
       rw [u1] at HSY
       rw [u2] at HJA
       clear ho u1 u2
       go_wp2_with fail
       refine (HSY.out _).mono ?_
       rintro e w2 ⟨rfl,rfl⟩
       go_wp2_with fail
       refine (HJA.out _).mono ?_
       rintro e w2 ⟨rfl,rfl⟩
       go_wp2_with fail
       go_ret
       rw [HRR.out,each_no HX.out HS.out (HOK2.out.trans HN.out)]
       exact ⟨by simp,hbelw⟩
      ·have HN:=Lib.hid (each_go HXq.out HSq.out ho)
       rw [u1] at HSY
       rw [u2] at HJA
       clear ho u1 u2
       go_wp2_with fail
       refine (HSY.out _).mono ?_
       rintro e w2 ⟨rfl,rfl⟩
       go_wp2_with fail
       refine (HJA.out _).mono ?_
       rintro e w2 ⟨rfl,rfl⟩
       go_wp2_with fail
       go_round
       case rel => exact ⟨q + 1,by omega,by go_num,HN⟩
       case measure => simp [intOf];omega
     ·have HN:=Lib.hid (each_go HX.out HS.out (HOK2.out.trans (each_end (by omega) HSq.out)))
      go_wp2_with fail
      go_roundw
      case rel => exact ⟨j + 1,by omega,by go_num,HN,hbelw,HB'⟩
      case measure => simp [intOf];omega
  ·have HN:=Lib.hid (each_end (by omega) HS.out)
   have HR2:Hid (R=Rb):=Lib.hid (by rw [HRR.out,HN.out,Bool.true_and])
   have x9:=(show Blk _ _ _ #[_,_,_,_,_,_,_,_,_,_,_,_] from by have h:=HB.out;rw [HTC.out] at h;exact h).at_ (i:=9) rfl
   clear HS HN HRR
   go_wp2_with fail
   clear x9
   go_loopw [42] (fun i wr => ∃ (j:Nat),j ≤ T.decomps.length ∧ i=.int .i64 j ∧ Hid ((T.decomps.drop j).all T.szOk=Rb) ∧ Below w.heap.size w wr ∧ Hid (Blk wr w.heap.size 26 tc)) (fun i _ => T.decomps.length - (intOf i).toNat)
   case atStart => exact ⟨0,by omega,rfl,HB0,hbel,HB⟩
   case round =>
    obtain ⟨j,hj,rfl,HS,hbel,HB⟩:=hrel
    clear HB0
    by_cases hjl:j < T.decomps.length
    ·obtain ⟨⟨cc,tg⟩,hxj,_⟩:=get_el hjl
     obtain ⟨aj,sv,rfl,ha,d0,d1,hto⟩:=HM.out j _ hxj
     simp only at d0 d1 hto
     obtain ⟨A',c',rfl,_⟩:=id hto
     obtain ⟨e0,e1⟩:=map_cells hbel ha d0 d1
     have HX:=Lib.hid hxj
     have HB':=Lib.hid (HB.out.alloc (.cells #[.int .i64 cc,.slice A' tg.length c'] 61))
     obtain ⟨x0,x1,x2,x3,x4,x5,x6,x7,x8,x9,x10,x11⟩:=(show Blk _ _ _ #[_,_,_,_,_,_,_,_,_,_,_,_] from by have h:=HB'.out;rw [HTC.out] at h;exact h).tab
     have HCA:=Lib.hid (HSZ.out cc _ (HT.out _ (hbel.alloc hbel.size (.cells #[.int .i64 cc,.slice A' tg.length c'] 61))))
     have HSO:Hid (T.szOk (cc,tg)=decide (sizeF T.decomps (T.decomps.length + 1) cc ≤ 18)):=Lib.hid rfl
     have h19:=sizeF_19 T.decomps (T.decomps.length + 1) cc
     clear d0 d1 hxj ha hto HB
     have r0:(0:Int) ≤ (j:Int):=by omega
     have r1:(j:Int) < (T.decomps.length:Int):=by omega
     generalize sizeF T.decomps (T.decomps.length + 1) cc=s at *
     by_cases hbig:s ≤ 18
     ·have HN:=Lib.hid (each_go HX.out HS.out (HSO.out.trans (decide_eq_true hbig)))
      have p1:(s:Int) ≤ 18:=by omega
      clear hbig
      go_wp2_with fail
      refine HCA.out.mono ?_
      rintro e w2 ⟨rfl,b2⟩
      have HB2:=Lib.hid (HB'.out.later b2)
      clear x0 x1 x2 x3 x4 x5 x6 x7 x8 x9 x10 x11 e0 e1 HB'
      go_wp2_with fail
      go_roundw
      case rel => exact ⟨j + 1,by omega,by go_num,HN,below_next (hbel.alloc hbel.size _) b2,HB2⟩
      case measure => simp [intOf];omega
     ·have HN:=Lib.hid (each_no HX.out HS.out (HSO.out.trans (decide_eq_false hbig)))
      have p1:(18:Int) < (s:Int):=by omega
      clear hbig
      go_wp2_with fail
      refine HCA.out.mono ?_
      rintro e w2 ⟨rfl,b2⟩
      clear x0 x1 x2 x3 x4 x5 x6 x7 x8 x9 x10 x11 e0 e1 HB'
      go_wp2_with fail
      go_ret
      rw [HR2.out,HN.out]
      exact ⟨rfl,below_next (hbel.alloc hbel.size _) b2⟩
    ·have HN:=Lib.hid (each_end (by omega) HS.out)
     go_wp2_with fail
     go_ret
     rw [HR2.out,HN.out]
     exact ⟨rfl,hbel⟩
end Go.Proofs.YtjafpikjpipbkaaGreatDoor
namespace Go.Proofs.YtjafpikjpipbkaaGreatDoor
open Go.RowKit
theorem run_append_none {P:Program} {w:World} {t ty e:TypeId} {i:TypeInfo} (ht:P.underlying t=some (.slice e)) (hi:P.info? e=some i) {base size:Nat} {v:Value} {n:Nat} {xs:List Value} (hown:w.ownsRow base e size v n xs) :
  (Builtin.append_ #[t,t] ty #[v,.slice none 0 0]).run P w=.ok v w:=by
 rcases hown.2 with ⟨rfl,_⟩ | ⟨g,cap,cur,rfl,_,_,hnc,_,_,_⟩
 ·simp [Builtin.append_,run_underlying ht,sizeOf,typeInfo,hi,Builtin.lenOf,Builtin.firstCells]
 ·simp [Builtin.append_,run_underlying ht,sizeOf,typeInfo,hi,Builtin.lenOf,Builtin.firstCells,hnc,storeCells]
theorem wpList_append_ints {P:Program} {ops:Array Oper} {rest:List Oper} {o:Oper} {a:Act} {w:World} {Q:Exit → Act → World → Prop} {T e:TypeId} {i0:TypeInfo} (hw:Region.wanted o (yielded ops a.tmps)=true) (s x:Operand)
  (ho:o.op=.call { callee:=.builtin .append,args:=#[s,x],argTypes:=#[T,T] }) (ht:P.underlying T=some (.slice e)) (hi:P.info? e=some i0) (hz:i0.zero=some (.int .i64 0)) (h1:i0.size=1) (h2:i0.bytes=8)
  (B base:Nat) (v:Value) (acc:List Int) (u:Value) (ys:List Int) (hs:a.eval s=v) (hown:w.ownsRow base e 1 v acc.length (acc.map (Value.int .i64))) (hx:a.eval x=u) (hu:Ints w B .i64 u ys) (hl:acc.length + ys.length ≤ 1000000) (hb:base ≤ w.heap.size)
  (h:∀ v' w',w'.ownsRow base e 1 v' (acc ++ ys).length ((acc ++ ys).map (Value.int .i64)) → w.grownBy w' v.ownBlock → (ys=[] → v=.slice none 0 0 → v'=.slice none 0 0) → wpList P ops Q rest (a.put o.dst v') w'):wpList P ops Q (o :: rest) a w:=by
 refine wpList_step fun K hK => ?_
 rw [if_pos hw]
 have key:∀ v' w',w'.ownsRow base e 1 v' (acc ++ ys).length ((acc ++ ys).map (Value.int .i64)) → w.grownBy w' v.ownBlock → (ys=[] → v=.slice none 0 0 → v'=.slice none 0 0) → K (a.put o.dst v') w':=fun v' w' p q r => hK _ _ (h v' w' p q r)
 obtain ⟨A,c,rfl,hc1,hc2,hA,hcell⟩:=hu
 cases A with
 | none =>
   obtain rfl:c=0:=hA rfl
   obtain rfl:ys=[]:=List.eq_nil_of_length_eq_zero (by omega)
   have hr:=run_append_none (P:=P) (ty:=o.type) ht hi hown
   have h3:=key v w (by simpa using hown) (grown_refl w _) (fun _ e => e)
   unfold Oper.wp execOp
   simp only [ho,resolve,invoke,builtin,Sem.run_bind,Sem.run_pure,Result.andThen_ok,List.map_toArray,List.map_cons,List.map_nil,hs,hx,List.length_nil,hr]
   exact h3
 | some ad =>
   refine wp_append_own w s x T ho base e i0 (.int .i64 0) 1 8 ht hi hz h1 h2 rfl (by omega) v acc.length _ hs hown ad ys.length c (ys.map (Value.int .i64)) hx (by simp) ?_ ?_ (by unfold maxLen;omega) (by omega) hb ?_
   ·intro j q hq
    rw [List.getElem?_map] at hq
    cases hy:ys[j]? with
    | none => rw [hy] at hq;cases hq
    | some y =>
      rw [hy] at hq;cases hq
      obtain ⟨ad',e1,_,e2⟩:=hcell j y hy
      cases e1;exact e2
   ·intro q hq
    obtain ⟨y,_,rfl⟩:=List.mem_map.1 hq
    rfl
   ·intro v' w' p q r
    exact key v' w' (by simpa using p) q (fun e1 e2 => r.2 ⟨e2,by rw [e1];rfl⟩)
end Go.Proofs.YtjafpikjpipbkaaGreatDoor
namespace Go.Proofs.YtjafpikjpipbkaaGreatDoor
open Go.RowKit ND
theorem take_snoc' {α:Type} {l:List α} {k:Nat} {c:α} (h:l[k]?=some c):l.take (k + 1)=l.take k ++ [c]:=by
 rw [List.take_add_one,h];rfl
end Go.Proofs.YtjafpikjpipbkaaGreatDoor
namespace Go.Proofs.YtjafpikjpipbkaaGreatDoor
open Go.RowKit ND
theorem nilB_ways {w:World} {B:Nat} {u:Value} {ys:List Int} (h:Ints w B .i64 u ys) (hn:ys=[] → u=.slice none 0 0):(ys=[] ∧ u=.slice none 0 0) ∨ (ys ≠ [] ∧ ∃ ad c,u=.slice (some ad) ys.length c):=by
 by_cases hy:ys=[]
 ·exact .inl ⟨hy,hn hy⟩
 ·obtain ⟨ad,c,e,_⟩:=h.some_ hy
  exact .inr ⟨hy,ad,c,e⟩
theorem excluded_rule (t:Tv) (T:Tab) (w:World) (ht:TabR w w.heap.size t T) (hs:sortM T.decomps) (hne:∀ m ∈ T.decomps,m.2 ≠ [] ∧ m.2.length ≤ 1000) (hlen:T.decomps.length ≤ 256) (hlx:T.excluded.length ≤ 256) :
  Calls Tryz.prog 55 #[t.val] w fun e w' => e=.returned (.bool T.rule7) ∧ Below w.heap.size w w':=by
 obtain ⟨tc,htc⟩:∃ tc,tc=t.cells:=⟨_,rfl⟩
 have HT:=Lib.hid (fun W (h:Below w.heap.size w W) => (ht.later h).r9)
 have hex:=ht.r10
 obtain ⟨A0,A1,A2,A3,A4,A5,A6,A7,A8,A9,A10,A11,k0,k1,k2,k3,k4,k5,k6,k7,k8,k9,k10,k11,rfl⟩:=ht.shape
 have HF:=Lib.hid (fun c W (h:Mapps W W.heap.size (.slice A9 T.decomps.length k9) T.decomps) => find_any _ T.decomps c W h hs (fun m hm => (hne m hm).1) hlen)
 have HTC:=Lib.hid htc
 obtain ⟨B,cq,hB,_,_,_,hcell2⟩:=hex
 cases hB
 have HC:=Lib.hid hcell2
 have heq:=fun (w:World) (a:Option Addr) (n c:Nat) => Lib.run_eql_slice_nil (P:=Tryz.prog) w 22 3 a n c 0 0 Tryz.underlying22
 clear ht htc hs hne hcell2
 obtain ⟨R,hR⟩:∃ R,R=T.rule7:=⟨_,rfl⟩
 rw [← hR]
 have HR0:Hid ((T.excluded.drop 0).all T.exOk=R):=Lib.hid hR.symm
 clear hR
 go_enter Tryz.func55,Tryz.ntmps55
 go_wp2_with fail
 go_loopw [8] (fun i wr => ∃ (j:Nat),j ≤ T.excluded.length ∧ i=.int .i64 j ∧ Hid ((T.excluded.drop j).all T.exOk=R) ∧ Below w.heap.size w wr ∧ Hid (Blk wr w.heap.size 26 tc)) (fun i _ => T.excluded.length - (intOf i).toNat)
 case atStart => exact ⟨0,by omega,rfl,HR0,(Below.refl _ _).alloc (Nat.le_refl _) _,Lib.hid (by rw [HTC.out];exact Blk.new _ _ _)⟩
 case round =>
  obtain ⟨j,hj,rfl,HS,hbel,HB⟩:=hrel
  clear HR0
  by_cases hjl:j < T.excluded.length
  ·obtain ⟨x,hxj,_⟩:=get_el hjl
   obtain ⟨aj,rfl,ha,d0⟩:=HC.out j _ hxj
   have e0:=(hbel.cell (p:=aj.add j) (by rw [block_of_add];exact ha)).trans d0
   have x9:=(show Blk _ _ _ #[_,_,_,_,_,_,_,_,_,_,_,_] from by have h:=HB.out;rw [HTC.out] at h;exact h).at_ (i:=9) rfl
   have HX:=Lib.hid hxj
   have HCA:=Lib.hid (HF.out x _ (HT.out _ hbel))
   clear d0 hxj ha
   have r0:(0:Int) ≤ (j:Int):=by omega
   have r1:(j:Int) < (T.excluded.length:Int):=by omega
   go_wp2_with fail
   refine HCA.out.mono ?_
   rintro e w2 ⟨u,rfl,hu,hun,b2⟩
   have HB2:=Lib.hid (HB.out.later b2)
   rcases nilB_ways hu hun with ⟨hn,rfl⟩ | ⟨hn,ad,c,rfl⟩
   ·have HN:=Lib.hid (each_no HX.out HS.out (show T.exOk x=false from decide_eq_false (fun h => h hn)))
    clear hu hun hn x9 e0 HB
    go_wp2_with fail
    go_ret
    rw [HN.out]
    exact ⟨rfl,below_next hbel b2⟩
   ·have HN:=Lib.hid (each_go HX.out HS.out (show T.exOk x=true from decide_eq_true hn))
    clear hu hun hn x9 e0 HB
    go_wp2_with fail
    go_roundw
    case rel => exact ⟨j + 1,by omega,by go_num,HN,below_next hbel b2,HB2⟩
    case measure => simp [intOf];omega
  ·have HN:=Lib.hid (each_end (by omega) HS.out)
   go_wp2_with fail
   go_ret
   rw [HN.out]
   exact ⟨rfl,hbel⟩
end Go.Proofs.YtjafpikjpipbkaaGreatDoor
namespace Go.Proofs.YtjafpikjpipbkaaGreatDoor
open Go.RowKit ND
theorem quiet_t {P:Program} {f:FuncId} {args:Array Value} {w:World} {d:Nat} {os:Array Obj} {v:Value} (h:∀ W,Below w.heap.size w W → Calls P f args W fun e w' => e=.returned v ∧ Below W.heap.size W w') :
  Calls P f args (Go.Sort.grow (redrawn w d) os) fun e w'' => e=.returned v ∧ ∃ p:Regrown,w''=Go.Sort.grow (redrawn w p.d) p.os:=Calls.regrown_of (h _ (below_regrown w d os))
theorem getLastD_app {a b:List Int} (h:b ≠ []):(a ++ b).getLastD 0=b.getLastD 0:=by
 rw [List.getLastD_eq_getLast?,List.getLastD_eq_getLast?,List.getLast?_append]
 cases hb:b.getLast? with
 | none => exact absurd (List.getLast?_eq_none_iff.1 hb) h
 | some x => rfl
theorem snoc_of {l:List Int} {n:Nat} (h:l.length=n + 1):∃ a z,l=a ++ [z] ∧ l[n]?=some z:=by
 refine ⟨l.take n,l[n]'(by omega),?_,List.getElem?_eq_getElem (by omega)⟩
 have h1:l.take (n + 1)=l:=List.take_of_length_le (by omega)
 rw [← take_snoc' (List.getElem?_eq_getElem (show n < l.length by omega)),h1]
theorem lastF_step {D:List Mp} {k:Nat} {c:Int} {n:Nat} (hl:(findL D c).length=n + 1) (hf:fin D (k + 1) c=true):∃ z,(findL D c)[n]?=some z ∧ lastF D (k + 1) c=lastF D k z ∧ fin D k z=true:=by
 obtain ⟨a,z,he,hz⟩:=snoc_of hl
 have hne:findL D c ≠ []:=fun e => by rw [e] at hl;cases hl
 refine ⟨z,hz,?_,?_⟩
 ·unfold lastF
  rw [expF_some hne,he,List.flatMap_append,List.flatMap_cons,List.flatMap_nil,List.append_nil,getLastD_app (expF_ne D k z)]
 ·rw [fin_succ hne,he,List.all_append,Bool.and_eq_true] at hf
  simpa using hf.2
theorem lastF_none {D:List Mp} {k:Nat} {c:Int} (h:findL D c=[]):lastF D k c=c:=by unfold lastF;rw [expF_none h];rfl
theorem last_any (t:Tv) (T:Tab) (hs:sortM T.decomps) (hne:∀ m ∈ T.decomps,m.2 ≠ [] ∧ m.2.length ≤ 1000) (hlen:T.decomps.length ≤ 256) (f:Nat) (c:Int) (w:World) (ht:TabR w w.heap.size t T) (hf:fin T.decomps f c=true) :
  Calls Tryz.prog 139 #[t.val,.int .i64 c] w fun e w' => e=.returned (.int .i64 (lastF T.decomps f c)) ∧ Below w.heap.size w w':=by
 obtain ⟨tc,htc⟩:∃ tc,tc=t.cells:=⟨_,rfl⟩
 have HT:=Lib.hid (fun W (h:Below w.heap.size w W) => (ht.later h).r9)
 obtain ⟨A0,A1,A2,A3,A4,A5,A6,A7,A8,A9,A10,A11,k0,k1,k2,k3,k4,k5,k6,k7,k8,k9,k10,k11,rfl⟩:=ht.shape
 have HF:=Lib.hid (fun c W (h:Mapps W W.heap.size (.slice A9 T.decomps.length k9) T.decomps) => find_any _ T.decomps c W h hs (fun m hm => (hne m hm).1) hlen)
 have HNL:=Lib.hid (fun x => findL_len (c:=x) (fun m hm => (hne m hm).2))
 have HTC:=Lib.hid htc
 have hnq:=fun (w:World) (a:Option Addr) (n c:Nat) => run_neq_slice_nil_any (P:=Tryz.prog) w 22 3 a n c 0 0 Tryz.underlying22
 clear ht htc hs hne
 have HFC:=Lib.hid hf
 obtain ⟨R,hR⟩:∃ R,R=lastF T.decomps f c:=⟨_,rfl⟩
 rw [← hR]
 have HR:=Lib.hid hR.symm
 clear hR hf
 go_enter Tryz.func139,Tryz.ntmps139
 go_wp2_with fail
 have HB0:=Lib.hid (show Blk (w.alloc (.cells #[.slice A0 T.category.length k0,.slice A1 T.cls.length k1,.slice A2 T.joining.length k2,.slice A3 T.bidi.length k3,.slice A4 T.script.length k4,.slice A5 T.status.length k5,.slice A6 T.ignorable.length k6,.slice A7 T.extensions.length k7,.slice A8 T.maps.length k8,.slice A9 T.decomps.length k9,.slice A10 T.excluded.length k10,.slice A11 T.prototypes.length k11] 26)) w.heap.size 26 tc from by rw [HTC.out];exact Blk.new _ _ _)
 refine (HF.out c _ (HT.out _ ((Below.refl _ _).alloc (Nat.le_refl _) _))).mono ?_
 rintro e w1 ⟨u,rfl,hu,hun,b1⟩
 have HB1:=Lib.hid (HB0.out.later b1)
 have hbel1:=below_next ((Below.refl _ _).alloc (Nat.le_refl _) _) b1
 have HU:=Lib.hid hu
 have HUN:=Lib.hid hun
 clear hu hun HB0 b1
 go_wp2_with fail
 go_loopg [1,5] f (fun k cv lv wr => ∃ (c':Int),cv=.int .i64 c' ∧ Hid (Ints wr wr.heap.size .i64 lv (findL T.decomps c') ∧ (findL T.decomps c'=[] → lv=.slice none 0 0) ∧ fin T.decomps k c'=true ∧ lastF T.decomps k c'=R) ∧ Below w.heap.size w wr ∧ Hid (Blk wr w.heap.size 26 tc))
 case atStart => exact ⟨c,rfl,Lib.hid ⟨HU.out,HUN.out,HFC.out,HR.out⟩,hbel1,HB1⟩
 case round =>
  obtain ⟨c',rfl,HS,hbel,HB⟩:=hrel
  clear HU HUN HFC HR hbel1 HB1
  obtain ⟨hi,hin,hfc,hla⟩:=HS.out
  rcases nilB_ways hi hin with ⟨hn,rfl⟩ | ⟨hn,ad,cu,rfl⟩
  ·have HN:=Lib.hid ((lastF_none (k:=gk) hn).symm.trans hla)
   clear hi hin hfc hla hn HS
   go_wp2_with fail
   go_ret
   rw [HN.out]
   exact ⟨rfl,hbel⟩
  ·obtain ⟨k',rfl⟩:∃ k',gk=k' + 1:=by
    cases gk with
    | zero => rw [fin_zero,decide_eq_true_eq] at hfc;exact absurd hfc hn
    | succ k' => exact ⟨k',rfl⟩
   have hlen1:=HNL.out c'
   have hpos:=length_pos_ne hn
   obtain ⟨n,hnl⟩:∃ n,(findL T.decomps c').length=n + 1:=⟨(findL T.decomps c').length - 1,by omega⟩
   obtain ⟨z,hz,hlz,hfz⟩:=lastF_step hnl hfc
   obtain ⟨ad',cu',he,hau,_,_,hcell⟩:=hi.some_ hn
   cases he
   have e0:=hcell n z hz
   have HZ:=Lib.hid (And.intro hfz (hlz.symm.trans hla))
   have hw2:((findL T.decomps c').length:Int) - 1=n:=by omega
   have s0:(0:Int) ≤ (n:Int):=by omega
   have s1:(n:Int) < ((findL T.decomps c').length:Int):=by omega
   have x9:=(show Blk _ _ _ #[_,_,_,_,_,_,_,_,_,_,_,_] from by have h:=HB.out;rw [HTC.out] at h;exact h).at_ (i:=9) rfl
   have HCA:=Lib.hid (HF.out z _ (HT.out _ hbel))
   generalize (findL T.decomps c').length=ln at *
   clear hi hin hfc hla hn HS hz hlz hfz hcell hpos hnl
   go_wp2_with fail
   refine HCA.out.mono ?_
   rintro e w2 ⟨u,rfl,hu,hun,b2⟩
   have HU:=Lib.hid (And.intro hu hun)
   have HB2:=Lib.hid (HB.out.later b2)
   clear hu hun x9 e0 HB hnq
   go_wp2_with fail
   go_roundg k'
   case measure => omega
   case rel => exact ⟨z,rfl,Lib.hid ⟨HU.out.1,HU.out.2,HZ.out.1,HZ.out.2⟩,below_next hbel b2,HB2⟩
end Go.Proofs.YtjafpikjpipbkaaGreatDoor
namespace Go.Proofs.YtjafpikjpipbkaaGreatDoor
open Go.RowKit ND
def pE (xs:List Int) (c:Int) (i:Nat):Bool:=match xs[i]? with | some a => decide (c ≤ a) | none => true
theorem pE_some {xs:List Int} {c:Int} {i:Nat} {a:Int} (h:xs[i]?=some a):pE xs c i=decide (c ≤ a):=by unfold pE;rw [h]
theorem asc_at {xs:List Int} (h:xs.Pairwise (· < ·)) {i j:Nat} {a b:Int} (hij:i < j) (ha:xs[i]?=some a) (hb:xs[j]?=some b):a < b:=by
 obtain ⟨hi,rfl⟩:=List.getElem?_eq_some_iff.1 ha
 obtain ⟨hj,rfl⟩:=List.getElem?_eq_some_iff.1 hb
 exact List.pairwise_iff_getElem.1 h i j hi hj hij
theorem pE_mono {xs:List Int} {c:Int} (hs:xs.Pairwise (· < ·)) (a b:Nat) (hab:a ≤ b) (hb:b < xs.length) (h:pE xs c a=true):pE xs c b=true:=by
 rcases Nat.lt_or_ge a b with hlt | hge
 ·have ha:xs[a]?=some (xs[a]'(by omega)):=List.getElem?_eq_getElem (by omega)
  have hb':xs[b]?=some xs[b]:=List.getElem?_eq_getElem hb
  rw [pE_some ha,decide_eq_true_eq] at h
  rw [pE_some hb',decide_eq_true_eq]
  have:=asc_at hs hlt ha hb'
  omega
 ·obtain rfl:a=b:=by omega
  exact h
theorem keysB_asc {p:Bool} {l:List Int}:∀ {last:Int},keysB p last l=true → l.Pairwise (· < ·):=by
 induction l with
 | nil => intro _ _;exact .nil
 | cons a r ih =>
   intro last h
   rw [keysB,Bool.and_eq_true] at h
   exact List.pairwise_cons.2 ⟨fun c hc => (keysB_at h.2 c hc).1,ih h.2⟩
theorem intsClos (bl bc:Nat) (A:Option Addr) (cap:Nat) (xs:List Int) (c:Int) (W:World) (i:Nat) (hi:i < xs.length) (hbl:W.cell? ⟨bl,0,none⟩=some (.slice A xs.length cap)) (hbc:W.cell? ⟨bc,0,none⟩=some (.int .i64 c)) (hv:Ints W W.heap.size .i64 (.slice A xs.length cap) xs) :
  Calls Tryz.prog 199 #[.int .i64 i,.pointer (some ⟨bl,0,none⟩),.pointer (some ⟨bc,0,none⟩)] W fun e W' => e=.returned (.bool (pE xs c i)) ∧ Below W.heap.size W W':=by
 obtain ⟨A',c',hA,_,_,_,hcell⟩:=hv
 cases hA
 obtain ⟨f,hxi,_⟩:=get_el hi
 obtain ⟨ad,rfl,ha,d0⟩:=hcell i _ hxi
 rw [pE_some hxi]
 clear hcell hxi
 have k0:(0:Int) ≤ (i:Int):=by omega
 have k1:(i:Int) < (xs.length:Int):=by omega
 go_enter Tryz.func199,Tryz.ntmps199
 go_wp2_with fail
 go_quiet (fail)
 go_wp2_with fail
 go_ret
 exact ⟨rfl,below_drewN (Below.refl _ _) nq⟩
theorem searchInts_any (v:Value) (xs:List Int) (c:Int) (w:World) (hv:Ints w w.heap.size .i64 v xs) (hs:xs.Pairwise (· < ·)) (hlen:xs.length ≤ 256) :
  Calls Tryz.prog 171 #[v,.int .i64 c] w (RetSearch w xs.length (pE xs c)):=by
 have eg:=enters_of Tryz.func199 (by kernel_rfl) rfl
 have HV:=Lib.hid hv
 obtain ⟨A,cap,rfl,_,_,_,_⟩:=hv
 have hbw:Below w.heap.size w ((w.alloc (.cells #[.slice A xs.length cap] 22)).alloc (.cells #[.int .i64 c] 3)):=((Below.refl _ _).alloc (Nat.le_refl _) _).alloc (by simp) _
 have hboxes:∀ W,Below ((w.alloc (.cells #[.slice A xs.length cap] 22)).alloc (.cells #[.int .i64 c] 3)).heap.size ((w.alloc (.cells #[.slice A xs.length cap] 22)).alloc (.cells #[.int .i64 c] 3)) W →
   W.cell? ⟨w.heap.size,0,none⟩=some (.slice A xs.length cap) ∧ W.cell? ⟨w.heap.size + 1,0,none⟩=some (.int .i64 c):=by
  intro W hb
  have hsz:(w.alloc (.cells #[.slice A xs.length cap] 22)).heap.size=w.heap.size + 1:=by simp
  have h1:=cell_new1 w (.slice A xs.length cap) 22
  have h2:=cell_new1 (w.alloc (.cells #[.slice A xs.length cap] 22)) (.int .i64 c) 3
  rw [hsz] at h2
  have h1':=(World.cell?_alloc_lt (w.alloc (.cells #[.slice A xs.length cap] 22)) (.cells #[.int .i64 c] 3) ⟨w.heap.size,0,none⟩ (by simp)).trans h1
  exact ⟨(hb.cell (p:=⟨w.heap.size,0,none⟩) (by simp;omega)).trans h1',(hb.cell (p:=⟨w.heap.size + 1,0,none⟩) (by simp)).trans h2⟩
 have HB:=Lib.hid hboxes
 have HBW:=Lib.hid hbw
 clear hboxes hbw
 have HSR:=Lib.hid (search_any 199 #[.pointer (some ⟨w.heap.size,0,none⟩),.pointer (some ⟨w.heap.size + 1,0,none⟩)] xs.length (pE xs c) ((w.alloc (.cells #[.slice A xs.length cap] 22)).alloc (.cells #[.int .i64 c] 3)) eg (by omega) (by
  intro W i hb hi
  exact intsClos _ _ A cap xs c W i hi (HB.out W hb).1 (HB.out W hb).2 ((HV.out.later HBW.out).later hb)) (pE_mono hs))
 go_enter Tryz.func171,Tryz.ntmps171
 go_wp2_with fail
 refine HSR.out.mono ?_
 rintro e w2 ⟨k,rfl,hk,hlow,hhigh,b2⟩
 have hbel:=HBW.out.trans (b2.mono HBW.out.size)
 have HR:=Lib.hid (And.intro hlow hhigh)
 clear HSR HB HBW HV b2 hlow hhigh eg
 go_wp2_with fail
 go_ret
 exact ⟨k,rfl,hk,HR.out.1,HR.out.2,hbel⟩
theorem excluded_any (t:Tv) (T:Tab) (c:Int) (w:World) (ht:TabR w w.heap.size t T) (hs:T.excluded.Pairwise (· < ·)) (hlen:T.excluded.length ≤ 256) :
  Calls Tryz.prog 138 #[t.val,.int .i64 c] w fun e w' => e=.returned (.bool (T.excB c)) ∧ Below w.heap.size w w':=by
 obtain ⟨A0,A1,A2,A3,A4,A5,A6,A7,A8,A9,A10,A11,k0,k1,k2,k3,k4,k5,k6,k7,k8,k9,k10,k11,rfl⟩:=ht.shape
 have hex:=ht.r10
 have HR:=Lib.hid (fun o:Obj => ht.r10.later ((Below.refl _ _).alloc (Nat.le_refl _) o))
 clear ht
 obtain ⟨R,hR⟩:∃ R,R=T.excB c:=⟨_,rfl⟩
 rw [← hR]
 have HRB:=Lib.hid hR
 clear hR
 go_enter Tryz.func138,Tryz.ntmps138
 have HSI:=Lib.hid (fun W h => searchInts_any (.slice A10 T.excluded.length k10) T.excluded c W h hs hlen)
 have HS:=Lib.hid hs
 have HEX:=Lib.hid hex
 clear hs hex
 go_wp2_with fail
 have HB0:=Lib.hid (show Blk (w.alloc (.cells #[.slice A0 T.category.length k0,.slice A1 T.cls.length k1,.slice A2 T.joining.length k2,.slice A3 T.bidi.length k3,.slice A4 T.script.length k4,.slice A5 T.status.length k5,.slice A6 T.ignorable.length k6,.slice A7 T.extensions.length k7,.slice A8 T.maps.length k8,.slice A9 T.decomps.length k9,.slice A10 T.excluded.length k10,.slice A11 T.prototypes.length k11] 26)) w.heap.size 26 _ from Blk.new _ _ _)
 refine (HSI.out _ (HR.out _)).mono ?_
 rintro e w2 ⟨k,rfl,hk,hlow,hhigh,b2⟩
 have x10:=(HB0.out.later b2).at_ (i:=10) rfl
 have hbel:=below_next ((Below.refl w.heap.size w).alloc (Nat.le_refl _) _) b2
 have HLO:=Lib.hid hlow
 have HHI:=Lib.hid hhigh
 clear HB0 b2 hlow hhigh HSI HR
 by_cases hkn:k < T.excluded.length
 ·obtain ⟨x,hxk,hxm⟩:=get_el hkn
  obtain ⟨A',c',hA,_,_,_,hcell⟩:=HEX.out
  cases hA
  obtain ⟨ad,rfl,ha,d0⟩:=hcell k _ hxk
  have e0:=(hbel.cell (p:=ad.add k) (by rw [block_of_add];exact ha)).trans d0
  have hge:=HHI.out hkn
  rw [pE_some hxk,decide_eq_true_eq] at hge
  have s0:(0:Int) ≤ (k:Int):=by omega
  have s1:(k:Int) < (T.excluded.length:Int):=by omega
  by_cases hx:x=c
  ·have hr:T.excB c=true:=by unfold Tab.excB;rw [decide_eq_true_eq,← hx];exact hxm
   have HRR:=Lib.hid (HRB.out.trans hr)
   have p1:(x == c)=true:=by rw [beq_iff_eq];exact hx
   clear hcell d0 ha hxk hxm hge hx hr
   go_wp2_with fail
   go_ret
   rw [HRR.out]
   exact ⟨rfl,hbel⟩
  ·have hr:T.excB c=false:=by
    unfold Tab.excB
    rw [decide_eq_false_iff_not]
    intro hm
    obtain ⟨i,hi,he⟩:=List.mem_iff_getElem.1 hm
    have hi':T.excluded[i]?=some c:=by rw [List.getElem?_eq_getElem hi,he]
    rcases Nat.lt_trichotomy i k with h | h | h
    ·have:=HLO.out i h
     rw [pE_some hi',decide_eq_false_iff_not] at this
     omega
    ·subst h;rw [hxk] at hi';cases hi';exact hx rfl
    ·have:=asc_at HS.out h hxk hi'
     omega
   have HRR:=Lib.hid (HRB.out.trans hr)
   have p1:(x == c)=false:=by rw [beq_eq_false_iff_ne];exact hx
   clear hcell d0 ha hxk hxm hge hx hr
   go_wp2_with fail
   go_ret
   rw [HRR.out]
   exact ⟨rfl,hbel⟩
 ·have hr:T.excB c=false:=by
   unfold Tab.excB
   rw [decide_eq_false_iff_not]
   intro hm
   obtain ⟨i,hi,he⟩:=List.mem_iff_getElem.1 hm
   have:=HLO.out i (by omega)
   rw [pE_some (show T.excluded[i]?=some c by rw [List.getElem?_eq_getElem hi,he]),decide_eq_false_iff_not] at this
   omega
  have HRR:=Lib.hid (HRB.out.trans hr)
  have p1:¬ (k:Int) < (T.excluded.length:Int):=by omega
  have p2:decide (k < T.excluded.length)=false:=decide_eq_false hkn
  clear hr hkn
  go_wp2_with fail
  go_ret
  rw [HRR.out]
  exact ⟨rfl,hbel⟩
end Go.Proofs.YtjafpikjpipbkaaGreatDoor
namespace Go.Proofs.YtjafpikjpipbkaaGreatDoor
open Go.RowKit ND
theorem class_any (t:Tv) (T:Tab) (c lo hi:Int) (w:World) (ht:TabR w w.heap.size t T) (hs:okS lo hi (-1) T.cls=true) (hlen:T.cls.length ≤ 256) :
  Calls Tryz.prog 82 #[t.val,.int .i64 c] w fun e w' => e=.returned (.int .i64 (T.classOf c)) ∧ Below w.heap.size w w':=by
 have HP:=Lib.hid (fun W (h:Spans W W.heap.size t.c1 T.cls) => value_any t.c1 T.cls c lo hi W h hs hlen)
 have hr:=ht.r1
 have HR:=Lib.hid (fun o:Obj => hr.later ((Below.refl _ _).alloc (Nat.le_refl _) o))
 clear hr ht hs hlen
 go_enter Tryz.func82,Tryz.ntmps82
 go_wp2_with fail
 refine (HP.out _ (HR.out _)).mono ?_
 rintro e w1 ⟨rfl,b1⟩
 go_wp2_with fail
 go_ret
 exact ⟨rfl,below_next ((Below.refl _ _).alloc (Nat.le_refl _) _) b1⟩
end Go.Proofs.YtjafpikjpipbkaaGreatDoor
