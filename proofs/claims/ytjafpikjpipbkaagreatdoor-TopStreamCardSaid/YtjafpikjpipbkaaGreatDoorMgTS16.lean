/-
  Merged texts: lemmas and walks that the last text of this claim leans on.
-/
import Derived.Test.YtjafpikjpipbkaaGreatDoorMgTS4
import Derived.Test.YtjafpikjpipbkaaGreatDoorMgTS14
import Derived.Test.YtjafpikjpipbkaaGreatDoorMgTS15
import Derived.WalkKit
import Derived.Test.YtjafpikjpipbkaaGreatDoorMgTS1
import Derived.Test.YtjafpikjpipbkaaGreatDoorProg
import Derived.WalkSpells
import Derived.WalkLawsBesides
import Derived.Lib.Hide
import Derived.Deep.CutBlock
import Derived.BigQuiet
import Derived.WalkSmall
import Derived.Test.YtjafpikjpipbkaaGreatDoorMgTS3
set_option maxRecDepth 100000
set_option maxHeartbeats 40000000
namespace Go.Proofs.YtjafpikjpipbkaaGreatDoor
open Go.RowKit ND
theorem ownCategory (W:World) (q:Int × Int × Int × Int):Calls Tryz.prog 147 #[fixV q] W fun e W' => e=.returned (.int .i64 (q.1)) ∧ Below W.heap.size W W':=by
 unfold fixV
 go_enter Tryz.func147,Tryz.ntmps147
 go_wp2_with fail
 go_ret
 exact ⟨rfl,(Below.refl _ _).alloc (Nat.le_refl _) _⟩
theorem category_any (t:Tv) (T:Tab) (c lo hi:Int) (w:World) (ht:TabR w w.heap.size t T) (hs:okS lo hi (-1) T.category=true) (hlen:T.category.length ≤ 256) :
  Calls Tryz.prog 107 #[t.val,.int .i64 c] w fun e w' => e=.returned (.int .i64 (T.categoryOf c)) ∧ Below w.heap.size w w':=by
 have HP:=Lib.hid (fun W (h:Spans W W.heap.size t.c0 T.category) => pick_prop 147 (fun q => q.1) t.c0 T.category c lo hi W (enters_of Tryz.func147 (by kernel_rfl) rfl) ownCategory h hs hlen)
 have hr:=ht.r0
 have HR:=Lib.hid (fun o:Obj => hr.later ((Below.refl _ _).alloc (Nat.le_refl _) o))
 clear hr ht hs hlen
 go_enter Tryz.func107,Tryz.ntmps107
 go_wp2_with fail
 refine (HP.out _ (HR.out _)).mono ?_
 rintro e w1 ⟨rfl,b1⟩
 go_wp2_with fail
 go_ret
 exact ⟨rfl,below_next ((Below.refl _ _).alloc (Nat.le_refl _) _) b1⟩
end Go.Proofs.YtjafpikjpipbkaaGreatDoor
namespace Go.Proofs.YtjafpikjpipbkaaGreatDoor
open Go.RowKit ND
def RetE (w:World) (good:Prop) (e:Ending) (w':World):Prop:=∃ k:Int,e=.returned (.int .i64 k) ∧ (good → k=0) ∧ Below w.heap.size w w'
structure GoodV (T:Tab) (xs:List Int):Prop where
 acc:accE T xs=0
 len:xs.length ≠ 0
 nfc:isNfcB T xs=true
 hyp:∀ x ∈ xs,x ≠ 45
 cat:∀ x,xs[0]?=some x → T.categoryOf x ≠ 2
 sta:∀ x ∈ xs,x ≠ 46 ∧ (T.statusOf x=1 ∨ T.statusOf x=4)
 joi:∀ x ∈ xs,x ≠ 8204 ∧ x ≠ 8205
 con:∀ x ∈ xs,plainC x
theorem vcheck_any (t:Tv) (T:Tab) (v:Value) (xs:List Int) (w:World) (ht:TabR w w.heap.size t T) (hg:Glob w) (hv:Ints w w.heap.size .i64 v xs) :
  Calls Tryz.prog 62 #[t.val,v] w (RetE w (GoodV T xs)):=by
 have HB0:Hid (Below w.heap.size w (w.alloc (.cells t.cells 26))):=Lib.hid ((Below.refl _ _).alloc (Nat.le_refl _) _)
 have HT:Hid (Tbl (w.alloc (.cells t.cells 26)) w.heap.size t T):=Lib.hid ⟨Blk.new _ _ _,ht.later HB0.out⟩
 have hv1:=hv.later HB0.out
 have HVI:=Lib.hid hv1
 obtain ⟨A,c,rfl,hc1,hc2,_,hcell⟩:=hv1
 have HC:=Lib.hid hcell
 have hl:xs.length ≤ 9223372036854775807:=by unfold maxLen at hc2;omega
 have HG:=Lib.hid (hg.later HB0.out)
 have HO:=Lib.hid (order_any t T _ xs _ HT.out.2 HG.out HVI.out)
 clear ht hv hg hcell hc1 hc2
 obtain ⟨P,hP⟩:∃ P,P=GoodV T xs:=⟨_,rfl⟩
 have HP:=Lib.hid hP
 rw [← hP]
 clear hP
 obtain ⟨er,her⟩:∃ er,er=accE T xs:=⟨_,rfl⟩
 rw [← her] at HO
 by_cases h0:er=0
 case neg =>
  have hb:(er != 0)=true:=by simpa using h0
  have HN:Hid (¬ P):=Lib.hid (by rw [HP.out];intro h;exact h0 (her.trans h.acc))
  go_enter Tryz.func62,Tryz.ntmps62
  go_upto_region 1 with fail
  generalize w.alloc (.cells t.cells 26)=w1 at *
  obtain ⟨x0,x1,x2,x3,x4,x5,x6,x7,x8,x9,x10,x11⟩:=HT.out.1.tab
  go_wp2_with (go_at_call 37;refine HO.out.mono ?_;rintro e w2 ⟨u2,rfl,ho2,b2⟩)
  go_ret
  exact ⟨_,rfl,fun h => absurd h HN.out,below_next HB0.out b2⟩
 have hck:T.check=0:=(accE_zero (her.symm.trans h0)).1
 have hb:(er != 0)=false:=by simp [h0]
 have HNF:=Lib.hid (fun W (h:TabR W W.heap.size t T) (hg:Glob W) (hu:Ints W W.heap.size .i64 (.slice A xs.length c) xs) => isNfc_any t T _ xs W h hg hu)
 have HHY:=Lib.hid (fun W (hu:Ints W W.heap.size .i64 (.slice A xs.length c) xs) => hyphens_any _ xs W hu)
 have HCA:=Lib.hid (fun d W (h:TabR W W.heap.size t T) => category_any t T d 0 1114111 W h (shape_of hck).c0.1 (shape_of hck).c0.2.1)
 have HST:=Lib.hid (fun d W (h:TabR W W.heap.size t T) => status_any t T d 0 1114111 W h (shape_of hck).c5.1 (shape_of hck).c5.2.1)
 have HJC:=Lib.hid (fun W (h:TabR W W.heap.size t T) (hg:Glob W) (hu:Ints W W.heap.size .i64 (.slice A xs.length c) xs) => jcheck_any t T _ xs W h hg hu)
 have HCC:=Lib.hid (fun W (h:TabR W W.heap.size t T) (hg:Glob W) (hu:Ints W W.heap.size .i64 (.slice A xs.length c) xs) => ccheck_any t T _ xs W h hg hu)
 clear hck her
 go_enter Tryz.func62,Tryz.ntmps62
 go_upto_region 1 with fail
 generalize w.alloc (.cells t.cells 26)=w1 at *
 obtain ⟨x0,x1,x2,x3,x4,x5,x6,x7,x8,x9,x10,x11⟩:=HT.out.1.tab
 go_upto_region 4 with (go_at_call 37;refine HO.out.mono ?_;rintro e w2 ⟨u2,rfl,ho2,b2⟩)
 clear x0 x1 x2 x3 x4 x5 x6 x7 x8 x9 x10 x11 ho2 HO
 by_cases hlen:xs.length=0
 case pos =>
  have z1:((xs.length:Int) == 0)=true:=beq_iff_eq.2 (by omega)
  have HN:Hid (¬ P):=Lib.hid (by rw [HP.out];intro h;exact h.len hlen)
  go_wp2_with fail
  go_ret
  exact ⟨_,rfl,fun h => absurd h HN.out,below_next HB0.out b2⟩
 have z1:((xs.length:Int) == 0)=false:=beq_eq_false_iff_ne.2 (by omega)
 have hlen0:0 < xs.length:=by omega
 obtain ⟨x0,x1,x2,x3,x4,x5,x6,x7,x8,x9,x10,x11⟩:=(HT.out.later b2).1.tab
 have HX:=Lib.hid (HNF.out w2 (HT.out.later b2).2 (HG.out.later b2) (HVI.out.later b2))
 cases hnf:isNfcB T xs
 case false =>
  rw [hnf] at HX
  have HN:Hid (¬ P):=Lib.hid (by rw [HP.out];intro h;have:=h.nfc;rw [hnf] at this;cases this)
  clear hnf
  go_wp2_with (go_at_call 105;refine HX.out.mono ?_;rintro e w3 ⟨rfl,b3⟩)
  go_ret
  exact ⟨_,rfl,fun h => absurd h HN.out,below_next (below_next HB0.out b2) b3⟩
 rw [hnf] at HX
 clear hnf
 go_upto_region 8 with (go_at_call 105;refine HX.out.mono ?_;rintro e w3 ⟨rfl,b3⟩)
 have b13:=below_next b2 b3
 clear x0 x1 x2 x3 x4 x5 x6 x7 x8 x9 x10 x11 b2 b3 HX HNF
 have HX:=Lib.hid (HHY.out w3 (HVI.out.later b13))
 go_upto_region 9 with (go_at_call 106;refine HX.out.mono ?_;rintro e w4 ⟨bh,rfl,hbh,b4⟩;cases bh)
 ·have HN:Hid (¬ P):=Lib.hid (by rw [HP.out];intro h;have:=hbh h.hyp;cases this)
  go_wp2_with fail
  go_ret
  exact ⟨_,rfl,fun h => absurd h HN.out,below_next (below_next HB0.out b13) b4⟩
 have b14:=below_next b13 b4
 clear b13 b4 HX HHY hbh
 obtain ⟨xa,hxa,hma⟩:=get_of hlen0
 obtain ⟨ad,rfl,hba,hca⟩:=HC.out 0 xa hxa
 have hca0:=cell_zero ((b14.cell (p:=ad.add 0) (by rw [block_of_add];exact hba)).trans hca)
 have HXA:=Lib.hid hxa
 have hcg:=cell_regrown hca0
 have q1:(0:Int) < (xs.length:Int):=by omega
 clear hca hba hxa hma hca0
 have HT4:=Lib.hid (HT.out.later b14)
 have HV:Hid (∀ V,Below w4.heap.size w4 V → Calls Tryz.prog 107 #[.agg #[t.c0,t.c1,t.c2,t.c3,t.c4,t.c5,t.c6,t.c7,t.c8,t.c9,t.c10,t.c11],.int .i64 xa] V fun e V' => e=.returned (.int .i64 (T.categoryOf xa)) ∧ Below V.heap.size V V'):=Lib.hid fun V hV => HCA.out xa V (HT4.out.later hV).2
 obtain ⟨cat,hcat⟩:∃ cat,cat=T.categoryOf xa:=⟨_,rfl⟩
 have HCAT:=Lib.hid hcat
 rw [← hcat] at HV
 clear hcat
 go_upto_region 10 with fail
 obtain ⟨x0,x1,x2,x3,x4,x5,x6,x7,x8,x9,x10,x11⟩:=HT4.out.1.tabG
 refine wp_region_quiet_below (by kernel_rfl) (by kernel_rfl) ?_
 repeat (go_big_quiet_step ((go_at_call 107;with_reducible exact quiet_t HV.out)))
 refine wpQuiet_nil ?_
 rintro _ ⟨⟨dq,osq⟩,rfl⟩
 have b15:=below_next b14 (below_regrown w4 dq osq)
 clear x0 x1 x2 x3 x4 x5 x6 x7 x8 x9 x10 x11 hcg HV
 generalize Go.Sort.grow (redrawn w4 dq) osq=w5 at *
 clear b14 HT4
 by_cases hc2:cat=2
 case pos =>
  have z2:(cat == 2)=true:=beq_iff_eq.2 hc2
  have HN:Hid (¬ P):=Lib.hid (by rw [HP.out];intro h;exact h.cat xa HXA.out (HCAT.out.symm.trans hc2))
  go_wp2_with fail
  go_ret
  exact ⟨_,rfl,fun h => absurd h HN.out,below_next HB0.out b15⟩
 have z2:(cat == 2)=false:=beq_eq_false_iff_ne.2 hc2
 rw [z2]
 clear HCAT HCA HXA z2
 go_upto_region 13 with fail
 go_loopw [41] (fun ii wr => ∃ k:Nat,k ≤ xs.length ∧ ii=.int .i64 k ∧ Below w1.heap.size w1 wr) (fun ii _ => xs.length - (intOf ii).toNat)
 case atStart => exact ⟨0,by omega,rfl,b15⟩
 case round =>
  obtain ⟨k,hk,rfl,hbel⟩:=hrel
  have HB:=Lib.hid (below_next HB0.out hbel)
  by_cases hlt:k < xs.length
  ·obtain ⟨x,hxk,hxm⟩:=get_of hlt
   obtain ⟨ad',hA,hb1,hce⟩:=HC.out k x hxk
   cases hA
   have hce':=(hbel.cell (p:=ad.add k) (by rw [block_of_add];exact hb1)).trans hce
   have k0:(0:Int) ≤ (k:Int):=by omega
   have k1:(k:Int) < (xs.length:Int):=by omega
   have HXM:=Lib.hid hxm
   have HS:=Lib.hid (HST.out x wr (HT.out.later hbel).2)
   clear hce hxk hxm hb1
   obtain ⟨st,hst⟩:∃ st,st=T.statusOf x:=⟨_,rfl⟩
   have HSTE:=Lib.hid hst
   rw [← hst] at HS
   clear hst
   obtain ⟨x0,x1,x2,x3,x4,x5,x6,x7,x8,x9,x10,x11⟩:=(HT.out.later hbel).1.tab
   by_cases hgood:x ≠ 46 ∧ (st=1 ∨ st=4)
   ·have y1:(x == 46)=false:=by simpa using hgood.1
    have y2:(st != 1)=false ∨ ((st != 1)=true ∧ (st != 4)=false):=by
     rcases hgood.2 with h | h
     ·exact .inl (by simp [h])
     ·exact .inr ⟨by simp [h],by simp [h]⟩
    clear hgood
    rcases y2 with y2 | ⟨y2,y3⟩
    all_goals
     go_wp2_with (go_at_call 38;refine HS.out.mono ?_;rintro e w6 ⟨rfl,b6⟩)
     have hb6:=below_next hbel b6
     go_roundw
     case rel => exact ⟨k + 1,by omega,by go_num,hb6⟩
     case measure => simp [intOf];omega
   ·have HN:Hid (¬ P):=Lib.hid (by rw [HP.out];intro h;exact hgood (by rw [HSTE.out];exact h.sta x HXM.out))
    have y1:(x == 46)=true ∨ ((x == 46)=false ∧ (st != 1)=true ∧ (st != 4)=true):=by
     by_cases h:x=46
     ·exact .inl (by simp [h])
     ·refine .inr ⟨by simpa using h,?_,?_⟩
      ·simp;intro h2;exact hgood ⟨h,.inl h2⟩
      ·simp;intro h2;exact hgood ⟨h,.inr h2⟩
    clear hgood
    rcases y1 with y1 | ⟨y1,y2,y3⟩
    all_goals
     go_wp2_with (go_at_call 38;refine HS.out.mono ?_;rintro e w6 ⟨rfl,b6⟩)
     go_ret
     exact ⟨_,rfl,fun h => absurd h HN.out,below_next HB.out b6⟩
  ·have HX:=Lib.hid (HJC.out wr (HT.out.later hbel).2 (HG.out.later hbel) (HVI.out.later hbel))
   obtain ⟨x0,x1,x2,x3,x4,x5,x6,x7,x8,x9,x10,x11⟩:=(HT.out.later hbel).1.tab
   go_upto_region 20 with (go_at_call 108;refine HX.out.mono ?_;rintro e w6 ⟨ij,ej,rfl,hej,b6⟩)
   have hb6:=below_next hbel b6
   clear x0 x1 x2 x3 x4 x5 x6 x7 x8 x9 x10 x11 HX b6 hbel
   by_cases hj:ej=0
   case neg =>
    have y1:(ej != 0)=true:=by simpa using hj
    have HN:Hid (¬ P):=Lib.hid (by rw [HP.out];intro h;exact hj (hej ⟨h.acc,h.joi⟩))
    go_wp2_with fail
    go_ret
    exact ⟨_,rfl,fun h => absurd h HN.out,below_next HB0.out hb6⟩
   have y1:(ej != 0)=false:=by simp [hj]
   have HX:=Lib.hid (HCC.out w6 (HT.out.later hb6).2 (HG.out.later hb6) (HVI.out.later hb6))
   obtain ⟨x0,x1,x2,x3,x4,x5,x6,x7,x8,x9,x10,x11⟩:=(HT.out.later hb6).1.tab
   go_wp2_with (go_at_call 109;refine HX.out.mono ?_;rintro e w7 ⟨ic,ec,rfl,hec,b7⟩)
   go_ret
   exact ⟨_,rfl,fun h => by rw [HP.out] at h;exact hec ⟨h.acc,h.con⟩,below_next (below_next HB0.out hb6) b7⟩
end Go.Proofs.YtjafpikjpipbkaaGreatDoor
namespace Go.Proofs.YtjafpikjpipbkaaGreatDoor
open Go.RowKit
def clear_ (fz:Nat × Nat) (k:Nat):Prop:=fz=(0,0) ∨ k ≤ fz.1
def ownsT (w:World) (base:Nat) (e:TypeId) (size:Nat) (v:Value) (n:Nat) (xs:List Value):Prop :=
 xs.length=n * size ∧
 ((v=.slice none 0 0 ∧ n=0) ∨
  ∃ g cap cur fz,v=.slice (some ⟨g,0,none⟩) n cap ∧ base ≤ g ∧ w.heap[g]?=some (.cells cur e fz) ∧ clear_ fz cur.size ∧ n ≤ cap ∧ cap ≤ maxLen ∧ cur.size=cap * size ∧ cur.toList.take (n * size)=xs)
section
variable {w:World} {base:Nat} {e:TypeId} {size:Nat} {v:Value} {n:Nat} {xs:List Value}
theorem ownsT_of (h:w.ownsRow base e size v n xs):ownsT w base e size v n xs:=by
 refine ⟨h.1,?_⟩
 rcases h.2 with hn | ⟨g,cap,cur,hv,hb,hg,rest⟩
 ·exact .inl hn
 ·exact .inr ⟨g,cap,cur,(0,0),hv,hb,hg,.inl rfl,rest⟩
theorem ownsT_lt (h:ownsT w base e size v n xs):∀ k,v.ownBlock=some k → base ≤ k ∧ k < w.heap.size:=by
 intro k hk
 rcases h.2 with ⟨rfl,_⟩ | ⟨g,cap,cur,fz,rfl,hb,hg,_⟩
 ·simp [Value.ownBlock] at hk
 ·simp [Value.ownBlock] at hk
  subst hk
  exact ⟨hb,(Array.getElem?_eq_some_iff.1 hg).1⟩
theorem ownsT_kept {w':World} {row:Option Nat} (h:ownsT w base e size v n xs) (hg:w.grownBy w' row) (hne:v.ownBlock=none ∨ v.ownBlock ≠ row):ownsT w' base e size v n xs:=by
 refine ⟨h.1,?_⟩
 rcases h.2 with hn | ⟨g,cap,cur,fz,rfl,hb,hgg,rest⟩
 ·exact .inl hn
 ·refine .inr ⟨g,cap,cur,fz,rfl,hb,?_,rest⟩
  rw [hg.block g (Array.getElem?_eq_some_iff.1 hgg).1 (by simpa [Value.ownBlock] using hne)]
  exact hgg
theorem ownsT_alloc (h:ownsT w base e size v n xs) (o:Obj):ownsT (w.alloc o) base e size v n xs :=
 ownsT_kept h (World.grownBy_alloc w o none) (by cases hv:v.ownBlock <;> simp)
theorem ownsT_cells (h:ownsT w base e size v n xs) {g:Nat} (hg:v.ownBlock=some g):∀ j u,xs[j]?=some u → w.cell? ((⟨g,0,none⟩:Addr).add j)=some u:=by
 intro j u hu
 rcases h.2 with ⟨rfl,_⟩ | ⟨g',cap,cur,fz,rfl,_,hgg,_,_,_,_,htake⟩
 ·simp [Value.ownBlock] at hg
 ·simp [Value.ownBlock] at hg
  subst hg
  have hadd:(⟨g',0,none⟩:Addr).add j=⟨g',j,none⟩:=by unfold Addr.add;split <;> simp_all
  rw [hadd,cell_of_row w g' j cur e fz hgg]
  rw [← htake,List.getElem?_take] at hu
  split at hu
  ·simpa using hu
  ·cases hu
end
theorem run_storeCells_atT (P:Program) (g o:Nat) (t:TypeId) (fz:Nat × Nat):∀ (vs:List Value) (i:Nat) (cur:Array Value) (w:World),w.heap[g]?=some (.cells cur t fz) → clear_ fz cur.size → o + i + vs.length ≤ cur.size → (∀ v ∈ vs,v.oneCell'=true) →
  (storeCells ⟨g,o,none⟩ vs i).run P w=.ok () (w.setRow g (cur.toList.take (o + i) ++ vs ++ cur.toList.drop (o + i + vs.length)).toArray)
 | [],i,cur,w,hg,_,_,_ => by
   simp only [storeCells,List.append_nil,List.length_nil,Nat.add_zero,List.take_append_drop,Array.toArray_toList]
   rw [setRow_self w g cur t fz hg]
   rfl
 | v :: rest,i,cur,w,hg,hfz,hl,h1 => by
   have hi:o + i < cur.size:=by simp at hl;omega
   have hadd:(⟨g,o,none⟩:Addr).add i=⟨g,o + i,none⟩:=by unfold Addr.add;split <;> simp_all
   have hcell:w.cell? ⟨g,o + i,none⟩=some cur[o + i]:=by simp [World.cell?,hg,hi]
   have hfro:w.frozen? ⟨g,o + i,none⟩=false:=by
    obtain ⟨lo,hi'⟩:=fz
    simp only [World.frozen?,hg,Bool.and_eq_false_iff,decide_eq_false_iff_not]
    rcases hfz with h | h
    ·simp only [Prod.mk.injEq] at h;right;omega
    ·left;simp only at h;omega
   have hst:(store ((⟨g,o,none⟩:Addr).add i) v).run P w=.ok () (w.setRow g (cur.setIfInBounds (o + i) v)):=by
    rw [hadd,run_store P w _ v _ (h1 v (by simp)),hcell]
    simp [hfro,setCell_eq_setRow w g (o + i) cur t fz v hg]
   have ih:=run_storeCells_atT P g o t fz rest (i + 1) (cur.setIfInBounds (o + i) v) (w.setRow g (cur.setIfInBounds (o + i) v)) (setRow_heap w g cur _ t _ hg) (by simpa using hfz) (by simp at hl ⊢;omega) (fun x hx => h1 x (by simp [hx]))
   simp only [storeCells,Sem.run_bind,hst,Result.andThen_ok,ih,setRow_setRow]
   congr 3
   have e:=list_seg_step cur.toList (o + i) v rest (by simp at hl ⊢;omega)
   simpa [Array.toList_setIfInBounds,Nat.add_assoc] using e
section
variable {P:Program} (w:World)
theorem run_append_ownT (base:Nat) (t ty e:TypeId) (i:TypeInfo) (z:Value) (size bytes:Nat) (ht:P.underlying t=some (.slice e)) (hi:P.info? e=some i) (hz:i.zero=some z)
  (hsize:i.size=size) (hby:i.bytes=bytes) (hzs:z.cells.size=size) (hsz:0 < size)
  (v:Value) (n:Nat) (xs:List Value) (hown:ownsT w base e size v n xs)
  (a:Addr) (m c:Nat) (news:List Value) (hl:news.length=m * size) (hnews:∀ j u,news[j]?=some u → w.cell? (a.add j)=some u) (h1:∀ u ∈ news,u.oneCell'=true)
  (h63:n + m ≤ maxLen) (hbytes:(n + m) * bytes ≤ 140737488355328) (hbase:base ≤ w.heap.size) :
  ∃ v' w',(Builtin.append_ #[t,t] ty #[v,.slice (some a) m c]).run P w=.ok v' w' ∧ ownsT w' base e size v' (n + m) (xs ++ news) ∧ w.grownBy w' v.ownBlock:=by
 rcases hown.2 with ⟨rfl,rfl⟩ | ⟨g,cap,cur,fz,rfl,hbg,hg,hcl,hnc,hcm,hcs,htake⟩
 ·obtain ⟨v',w',h1,h2,h3,_⟩:=run_append_own (P:=P) w base t ty e i z size bytes ht hi hz hsize hby hzs hsz (.slice none 0 0) 0 xs ⟨hown.1,.inl ⟨rfl,rfl⟩⟩ a m c news hl hnews h1 h63 hbytes hbase
  exact ⟨v',w',h1,ownsT_of h2,h3⟩
 ·subst hsize
  subst hby
  have hsmall:n + m ≤ 9223372036854775807:=by simp only [maxLen] at h63;omega
  have hlen:(xs ++ news).length=(n + m) * i.size:=by rw [List.length_append,hown.1,hl,Nat.add_mul]
  by_cases hroom:n + m ≤ cap
  ·have hfit:n * i.size + news.length ≤ cur.size:=by rw [hl,hcs,← Nat.add_mul];exact Nat.mul_le_mul_right _ hroom
   have hf:=run_firstCells_some (P:=P) w i.size m a m c news hl hnews
   have hst:=run_storeCells_atT P g (n * i.size) e fz news 0 cur w hg hcl (by simpa using hfit) h1
   simp only [Nat.add_zero] at hst
   have hr:(Builtin.append_ #[t,t] ty #[.slice (some ⟨g,0,none⟩) n cap,.slice (some a) m c]).run P w =
     .ok (.slice (some ⟨g,0,none⟩) (n + m) cap) (w.setRow g (cur.toList.take (n * i.size) ++ news ++ cur.toList.drop (n * i.size + news.length)).toArray):=by
    simp [Builtin.append_,run_underlying ht,sizeOf,typeInfo,hi,Builtin.lenOf,hroom,hf,Addr.add_lit,hst]
   have hsz':(cur.toList.take (n * i.size) ++ news ++ cur.toList.drop (n * i.size + news.length)).toArray.size=cur.size:=by
    simp only [List.size_toArray,List.length_append,List.length_take,List.length_drop,Array.length_toList]
    omega
   refine ⟨_,_,hr,⟨hlen,.inr ⟨g,cap,_,fz,rfl,hbg,setRow_heap w g cur _ e _ hg,by rw [hsz'];exact hcl,hroom,hcm,by rw [hsz',hcs],?_⟩⟩,⟨rfl,rfl,rfl,by simp,fun k _ hk => setRow_other w g k _ (fun e => hk (by simp [Value.ownBlock,e]))⟩⟩
   rw [htake,← hlen]
   exact List.take_left
  ·have holds:∀ j u,xs[j]?=some u → w.cell? ((⟨g,0,none⟩:Addr).add j)=some u:=ownsT_cells hown (g:=g) rfl
   have hr:=run_append_grow (P:=P) w t ty e i z ht hi hz ⟨g,0,none⟩ n cap xs hown.1 holds a m c news hl hnews (by omega) (by omega) (growslice_fits (by omega) hbytes)
   have hge:=grownCap_ge w (n + m) cap e
   have hcm2:grownCap w (n + m) cap e ≤ maxLen:=grownCap_le_maxLen w (n + m) cap e h63
   refine ⟨_,_,hr,⟨hlen,.inr ⟨w.heap.size,_,_,(0,0),rfl,hbase,heap_alloc_new w.drew _,.inl rfl,hge,hcm2,?_,?_⟩⟩,⟨rfl,rfl,rfl,by simp,fun k hk _ => Below.heap_alloc w.drew _ k hk⟩⟩
   ·simp only [Array.size_append,List.size_toArray,size_zeroCells,hzs,hown.1,hl,← Nat.add_mul]
    congr 1
    omega
   ·simp only [Array.toList_append,List.append_assoc]
    rw [← List.append_assoc,← hlen]
    exact List.take_left
theorem wpList_append_ownT {ops:Array Oper} {rest:List Oper} {o:Oper} {a:Act} {Q:Exit → Act → World → Prop} (hgd:o.guard=none) (s x:Operand) (t:TypeId)
  (ho:o.op=.call { callee:=.builtin .append,args:=#[s,x],argTypes:=#[t,t] })
  (base:Nat) (e:TypeId) (i:TypeInfo) (z:Value) (size bytes:Nat) (ht:P.underlying t=some (.slice e)) (hi:P.info? e=some i) (hz:i.zero=some z)
  (hsize:i.size=size) (hby:i.bytes=bytes) (hzs:z.cells.size=size) (hsz:0 < size)
  (v:Value) (n:Nat) (xs:List Value) (hs:a.eval s=v) (hown:ownsT w base e size v n xs)
  (ad:Addr) (m c:Nat) (news:List Value) (hx:a.eval x=.slice (some ad) m c) (hl:news.length=m * size) (hnews:∀ j u,news[j]?=some u → w.cell? (ad.add j)=some u) (h1:∀ u ∈ news,u.oneCell'=true)
  (h63:n + m ≤ maxLen) (hbytes:(n + m) * bytes ≤ 140737488355328) (hbase:base ≤ w.heap.size)
  (h:∀ v' w',ownsT w' base e size v' (n + m) (xs ++ news) → w.grownBy w' v.ownBlock → wpList P ops Q rest (a.put o.dst v') w'):wpList P ops Q (o :: rest) a w :=
 wpList_plain hgd fun _ hK => by
  obtain ⟨v',w',hr,h2,h3⟩:=run_append_ownT (P:=P) w base t o.type e i z size bytes ht hi hz hsize hby hzs hsz v n xs hown ad m c news hl hnews h1 h63 hbytes hbase
  unfold Oper.wp execOp
  simp only [ho,resolve,invoke,builtin,Sem.run_bind,Sem.run_pure,Result.andThen_ok,List.map_toArray,List.map_cons,List.map_nil,hs,hx,hr]
  exact hK _ _ (h v' w' h2 h3)
end
end Go.Proofs.YtjafpikjpipbkaaGreatDoor
namespace Go.Proofs.YtjafpikjpipbkaaGreatDoor
open Go.RowKit ND
theorem Tryz.infoU8:(Tryz.prog.info? 5).map (fun i => (i.zero,i.size,i.bytes))=some (some (.int .u8 0),1,1):=by kernel_rfl
def bv (c:UInt8):Value:=.int .u8 (c.toNat:Int)
theorem ownsT_bytes (w:World) (B:Nat) (e:TypeId) (s:ByteArray) (cap:Nat) (hB:B ≤ w.heap.size) (h1:s.size ≤ cap) (h2:cap ≤ maxLen) :
  ownsT (w.alloc (.cells (bytesRow s cap) e ((bytesRow s cap).size,(bytesRow s cap).size + 1))) B e 1 (.slice (some ⟨w.heap.size,0,none⟩) s.size cap) s.data.toList.length (s.data.toList.map bv):=by
 have hl:s.data.toList.length=s.size:=by simp
 have hsz:(bytesRow s cap).size=cap:=by unfold bytesRow;simp;omega
 refine ⟨by simp,.inr ⟨w.heap.size,cap,bytesRow s cap,_,by rw [hl],hB,heap_alloc_new w _,.inr (Nat.le_refl _),by omega,h2,by omega,?_⟩⟩
 rw [hl,Nat.mul_one]
 unfold bytesRow
 rw [Array.toList_append,List.take_append_of_le_length (by simp)]
 rw [List.take_of_length_le (by simp)]
 simp only [Array.toList_map]
 rfl
theorem bytes_of_ownsT {w:World} {P:Program} {B:Nat} {e:TypeId} {v:Value} {l:List UInt8} (src dst:TypeId) (h:ownsT w B e 1 v l.length (l.map bv)) (hs:P.underlying src=some (.slice e)) (he:P.underlying e=some (.int .u8)) (hd:P.underlying dst=some .string) :
  (convert src dst v).run P w=.ok (.string ⟨l.toArray⟩) w:=by
 rcases h.2 with ⟨rfl,hn⟩ | ⟨g,cap,cur,fz,rfl,hb,hgg,_⟩
 ·have:l=[]:=List.eq_nil_of_length_eq_zero hn
  subst this
  rw [run_convert_bytes_string w src dst e none 0 0 hs he hd];rfl
 ·refine run_convert_bytes_back w src dst e _ cap l hs he hd (fun j hj => ?_)
  exact ownsT_cells h (g:=g) rfl j _ (by simp [hj,bv])
theorem conv_new {P:Program} (w:World) (src dst e:TypeId) (l:List UInt8) (cells:List Value) (n:Nat) (hs:P.underlying src=some (.slice e)) (he:P.underlying e=some (.int .u8)) (hd:P.underlying dst=some .string) (hc:cells=l.map bv) (hn:l.length=n) :
  (convert src dst (.slice (some ⟨w.heap.size,0,none⟩) n n)).run P (w.alloc (.cells cells.toArray e))=.ok (.string ⟨l.toArray⟩) (w.alloc (.cells cells.toArray e)):=by
 subst hn;subst hc
 refine run_convert_bytes_back _ src dst e _ _ l hs he hd (fun j hj => ?_)
 have hadd:(⟨w.heap.size,0,none⟩:Addr).add j=⟨w.heap.size,j,none⟩:=by unfold Addr.add;split <;> simp_all
 rw [hadd,cell_of_row (w.alloc (.cells (l.map bv).toArray e)) w.heap.size j _ _ _ (heap_alloc_new w _)]
 simp [hj,bv]
end Go.Proofs.YtjafpikjpipbkaaGreatDoor
namespace Go.Proofs.YtjafpikjpipbkaaGreatDoor
open Go.RowKit
theorem threshold_any (j b:Int) (w:World) :
  Calls Tryz.prog 174 #[.int .i64 j,.int .i64 b] w fun e w' => (∃ t:Int,1 ≤ t ∧ t ≤ 26 ∧ e=.returned (.int .i64 t)) ∧ w=w':=by
 go_enter Tryz.func174,Tryz.ntmps174
 go_wp2_with fail
 all_goals
  go_ret
  generalize RowKit.wrap64 (RowKit.wrap64 (36 * RowKit.wrap64 (j + 1)) - b)=x at *
  refine ⟨⟨_,?_,?_,rfl⟩,rfl⟩ <;> (first | omega | (split at * <;> omega))
theorem adapt_any (d p:Int) (f:Bool) (w:World) (hd:0 ≤ d) (hd2:d ≤ 1099511627776) (hp:1 ≤ p) (hp2:p ≤ 4096) :
  Calls Tryz.prog 144 #[.int .i64 d,.int .i64 p,.bool f] w fun e w' => (∃ r:Int,e=.returned (.int .i64 r)) ∧ w=w':=by
 have y1:decide (d < 0)=false:=by simp;omega
 have y2:decide (1099511627776 < d)=false:=by simp;omega
 have y3:decide (p < 1)=false:=by simp;omega
 have y4:decide (4096 < p)=false:=by simp;omega
 have q2:0 ≤ d / 2 / p ∧ d / 2 / p ≤ d / 2:=⟨Int.ediv_nonneg (by omega) (by omega),Int.ediv_le_self _ (by omega)⟩
 have q7:0 ≤ d / 700 / p ∧ d / 700 / p ≤ d / 700:=⟨Int.ediv_nonneg (by omega) (by omega),Int.ediv_le_self _ (by omega)⟩
 have HQ:=Lib.hid (And.intro q2 q7)
 clear q2 q7
 cases f
 all_goals
  go_enter Tryz.func144,Tryz.ntmps144
  go_wp2_with fail
  go_loopw [0,7] (fun dv kv wr => ∃ x y:Int,0 ≤ x ∧ x ≤ 2199023255552 ∧ dv=.int .i64 x ∧ kv=.int .i64 y ∧ w=wr) (fun dv _ _ => (intOf dv).toNat)
  case atStart =>
   obtain ⟨⟨z1,z2⟩,z3,z4⟩:=HQ.out
   refine ⟨_,_,?_,?_,rfl,rfl,rfl⟩ <;> (unfold RowKit.wrap64;omega)
  case round =>
   obtain ⟨x,y,x0,x1,rfl,rfl,rfl⟩:=hrel
   by_cases hx:455 < x
   ·have z1:decide (455 < x)=true:=by simp;omega
    go_wp2_with fail
    go_roundw
    case rel => exact ⟨_,_,by omega,by omega,rfl,rfl,trivial⟩
    case measure => simp [intOf];omega
   ·have z1:decide (455 < x)=false:=by simp;omega
    have z2:((x + 38) == 0)=false:=by simp;omega
    have z3:¬ (x + 38=0):=by omega
    go_wp2_with fail
    go_ret
    exact ⟨⟨_,rfl⟩,rfl⟩
theorem digit_any (d:Int) (w:World) (h0:0 ≤ d) (h1:d < 36) :
  Calls Tryz.prog 201 #[.int .i64 d] w fun e w' => (∃ b:UInt8,e=.returned (.int .u8 (b.toNat:Int))) ∧ w=w':=by
 go_enter Tryz.func201,Tryz.ntmps201
 go_wp2_with fail
 go_ret
 exact ⟨⟨_,rfl⟩,rfl⟩
def RetVal (w:World) (e:Ending) (w':World):Prop:=∃ (v:Int) (o:Bool),e=.returned (.tuple #[.int .i64 v,.bool o]) ∧ 0 ≤ v ∧ v ≤ 36 ∧ w=w'
theorem pvalue_any (b:UInt8) (w:World) :
  Calls Tryz.prog 173 #[.int .u8 (b.toNat:Int)] w (RetVal w):=by
 have hbl:b.toNat < 256:=b.toNat_lt
 obtain ⟨x,hx⟩:∃ x:Int,x=(b.toNat:Int):=⟨_,rfl⟩
 rw [← hx]
 have h0:0 ≤ x:=by omega
 have h1:x < 256:=by omega
 clear hx hbl
 go_enter Tryz.func173,Tryz.ntmps173
 go_wp2_with fail
 all_goals
  go_ret2
  exact ⟨_,_,rfl,by omega,by omega,rfl⟩
end Go.Proofs.YtjafpikjpipbkaaGreatDoor
namespace Go.Proofs.YtjafpikjpipbkaaGreatDoor
open Go.RowKit
theorem mul_bounds {a b m n:Int} (h0:0 ≤ a) (h1:a ≤ m) (h2:0 ≤ b) (h3:b ≤ n):0 ≤ a * b ∧ a * b ≤ m * n :=
 ⟨Int.mul_nonneg h0 h2,Int.mul_le_mul h1 h3 h2 (by omega)⟩
def RetNum (w:World) (s:ByteArray) (e:Ending) (w':World):Prop :=
 ∃ (v:Int) (r:ByteArray) (o:Bool),e=.returned (.tuple #[.int .i64 v,.string r,.bool o]) ∧ 0 ≤ v ∧ v ≤ 2147483648 ∧ (o=true → r.size < s.size) ∧ Below w.heap.size w w'
theorem number_any (s:ByteArray) (b:Int) (w:World) (hs:s.size ≤ 100000) :
  Calls Tryz.prog 142 #[.string s,.int .i64 b] w (RetNum w s):=by
 go_enter Tryz.func142,Tryz.ntmps142
 go_wp2_with fail
 go_loopw [7,8,9] (fun vv ww jj wr => ∃ (x y:Int) (j:Nat),0 ≤ x ∧ x ≤ 2147483648 ∧ 0 ≤ y ∧ y ≤ 2147483648 ∧ j ≤ s.size ∧ vv=.int .i64 x ∧ ww=.int .i64 y ∧ jj=.int .i64 j ∧ w=wr) (fun _ _ jj _ => s.size - (intOf jj).toNat)
 case atStart => exact ⟨0,1,0,by omega,by omega,by omega,by omega,by omega,rfl,rfl,rfl,rfl⟩
 case round =>
  obtain ⟨x,y,j,x0,x1,y0,y1,hj,rfl,rfl,rfl,rfl⟩:=hrel
  by_cases hlt:j < s.size
  ·have k0:(0:Int) ≤ (j:Int):=by omega
   have k1:(j:Int) < (s.size:Int):=by omega
   have k2:(0:Int) ≤ (j:Int) + 1:=by omega
   have k3:(j:Int) + 1 ≤ (s.size:Int):=by omega
   go_upto_region 6 with (go_at_call 173;refine (pvalue_any _ _).mono ?_;rintro e w1 ⟨d,o,rfl,d0,d1,rfl⟩)
   cases o
   ·go_wp2_with fail
    go_ret3
    exact ⟨_,_,_,rfl,by omega,by omega,by simp,Below.refl _ _⟩
   ·have hm:=mul_bounds d0 d1 y0 y1
    go_upto_region 10 with (go_at_call 174;refine (threshold_any _ _ _).mono ?_;rintro e w1 ⟨⟨t,t0,t1,rfl⟩,rfl⟩)
    obtain ⟨X,hX⟩:∃ X:Int,X=if 2147483648 < x + d * y then 2147483648 else x + d * y:=⟨_,rfl⟩
    have X0:0 ≤ X ∧ X ≤ 2147483648:=by rw [hX];split <;> omega
    rw [← hX]
    clear hX hm
    obtain ⟨X0,X1⟩:=X0
    by_cases hdt:d < t
    ·have z1:decide (d < t)=true:=decide_eq_true hdt
     have z2:RowKit.wrap64 ((j:Int) + 1)=(j:Int) + 1:=by unfold RowKit.wrap64;omega
     go_wp2_with fail
     go_quiet (fail)
     go_wp2_with fail
     go_ret3
     exact ⟨_,_,_,rfl,by omega,by omega,fun _ => by simp [ByteArray.size_extract];omega,below_drewN (Below.refl _ _) _⟩
    ·have z1:decide (d < t)=false:=decide_eq_false hdt
     have hm:=mul_bounds y0 y1 (show 0 ≤ 36 - t by omega) (show 36 - t ≤ 35 by omega)
     go_wp2_with fail
     go_roundw
     case rel => exact ⟨X,_,j + 1,X0,X1,by split <;> omega,by split <;> omega,by omega,rfl,rfl,by go_num,trivial⟩
     case measure => simp [intOf];omega
  ·go_wp2_with fail
   go_ret3
   exact ⟨_,_,_,rfl,by omega,by omega,by simp,Below.refl _ _⟩
theorem pput_any (v:Int) (b:Int) (bs:List UInt8) (out:Value) (B:Nat) (w:World) (h0:0 ≤ v) (h1:v ≤ 1099511627776) (hown:ownsT w B 5 1 out bs.length (bs.map bv)) (hB:B ≤ w.heap.size) (hl:bs.length ≤ 100000) :
  Calls Tryz.prog 177 #[out,.int .i64 v,.int .i64 b] w fun e w' => ∃ (v':Value) (bs':List UInt8),e=.returned v' ∧ ownsT w' B 5 1 v' bs'.length (bs'.map bv) ∧ bs'.length ≤ bs.length + 60 ∧ Below B w w':=by
 obtain ⟨i0,hi,hz0,hz1,hz2⟩:=info_parts Tryz.infoU8
 go_enter Tryz.func177,Tryz.ntmps177
 go_wp2_with fail
 go_loopw [0,1,7] (fun o vv jj wr => ∃ (x:Int) (acc:List UInt8) (f:Nat) (j:Int),0 ≤ x ∧ Hid (x.toNat < 2 ^ f) ∧ f ≤ 50 ∧ vv=.int .i64 x ∧ jj=.int .i64 j ∧ ownsT wr B 5 1 o acc.length (acc.map bv) ∧ acc.length + f ≤ bs.length + 50 ∧ Below B w wr ∧ B ≤ wr.heap.size) (fun _ vv _ _ => (intOf vv).toNat)
 case atStart => exact ⟨v,bs,50,0,h0,Lib.hid (by omega),by omega,rfl,rfl,hown,by omega,Below.refl _ _,hB⟩
 case round =>
  obtain ⟨x,acc,f,j,x0,HX,hf,rfl,rfl,hown,hal,hbel,hB⟩:=hrel
  have x1:x < 1125899906842624:=by
   have h:=HX.out
   have:2 ^ f ≤ 2 ^ 50:=Nat.pow_le_pow_right (by omega) hf
   omega
  go_upto_region 4 with (go_at_call 174;refine (threshold_any _ _ _).mono ?_;rintro e w1 ⟨⟨t,t0,t1,rfl⟩,rfl⟩)
  by_cases hxt:x < t
  ·have z1:decide (x < t)=true:=decide_eq_true hxt
   have d0:x < 36:=by omega
   go_wp2_with (first | (go_at_call 201;refine (digit_any _ _ x0 d0).mono ?_;rintro e w2 ⟨⟨c,rfl⟩,rfl⟩) | (at_builtin;refine wpList_append_ownT _ rfl _ _ 143 rfl B 5 i0 (.int .u8 0) 1 1 Tryz.underlying143 hi hz0 hz1 hz2 rfl (by decide) _ _ _ rfl (ownsT_alloc hown _) ⟨wr.heap.size,0,none⟩ 1 1 [bv c] rfl rfl (cell_one_new _ _ _) ?c2 ?c3 ?c4 ?c5 ?_))
   case c2 => intro u hu;simp at hu;subst hu;rfl
   case c3 => unfold maxLen;omega
   case c4 => omega
   case c5 => simp;omega
   ·intro v' w3 hown3 hgrow
    have hbel3:Below B w w3:=(hbel.alloc hB _).grown hgrow (by simp;omega) (fun k hk => (ownsT_lt hown k hk).1)
    have hB3:B ≤ w3.heap.size:=by have:=hgrow.size;simp at this;omega
    clear hgrow hown hbel hB
    go_wp2_with fail
    go_ret
    exact ⟨_,acc ++ [c],rfl,by simpa [bv] using hown3,by simp;omega,hbel3⟩
  ·have z1:decide (x < t)=false:=decide_eq_false hxt
   have hr0:0 ≤ (x - t) % (36 - t):=Int.emod_nonneg _ (by omega)
   have hr1:(x - t) % (36 - t) < 36 - t:=Int.emod_lt_of_pos _ (by omega)
   have e0:0 ≤ t + (x - t) % (36 - t):=by omega
   have e1:t + (x - t) % (36 - t) < 36:=by omega
   have z2:¬ (36 - t=0):=by omega
   have hq0:0 ≤ (x - t) / (36 - t):=Int.ediv_nonneg (by omega) (by omega)
   have hq1:(x - t) / (36 - t) * 10 ≤ x - t:=by
    have h:=Int.mul_ediv_self_le (x:=x - t) (k:=36 - t) (by omega)
    have h2:(x - t) / (36 - t) * 10 ≤ (x - t) / (36 - t) * (36 - t):=Int.mul_le_mul_of_nonneg_left (by omega) hq0
    rw [Int.mul_comm ((x - t) / (36 - t)) (36 - t)] at h2
    omega
   go_wp2_with (first | (go_at_call 201;refine (digit_any _ _ (by first | exact e0 | omega) (by first | exact e1 | omega)).mono ?_;rintro e w2 ⟨⟨c,rfl⟩,rfl⟩) | (at_builtin;refine wpList_append_ownT _ rfl _ _ 143 rfl B 5 i0 (.int .u8 0) 1 1 Tryz.underlying143 hi hz0 hz1 hz2 rfl (by decide) _ _ _ rfl (ownsT_alloc hown _) ⟨wr.heap.size,0,none⟩ 1 1 [bv c] rfl rfl (cell_one_new _ _ _) ?c2 ?c3 ?c4 ?c5 ?_))
   case c2 => intro u hu;simp at hu;subst hu;rfl
   case c3 => unfold maxLen;omega
   case c4 => omega
   case c5 => simp;omega
   ·intro v' w3 hown3 hgrow
    have hbel3:Below B w w3:=(hbel.alloc hB _).grown hgrow (by simp;omega) (fun k hk => (ownsT_lt hown k hk).1)
    have hB3:B ≤ w3.heap.size:=by have:=hgrow.size;simp at this;omega
    clear hgrow hown hbel hB
    go_wp2_with fail
    go_roundw
    case rel =>
     obtain ⟨g,rfl⟩:∃ g,f=g + 1:=by
      cases f with
      | zero => have:=HX.out;omega
      | succ g => exact ⟨g,rfl⟩
     refine ⟨(x - t) / (36 - t),acc ++ [c],g,_,hq0,Lib.hid ?_,by omega,rfl,rfl,by simpa [bv] using hown3,by simp;omega,hbel3,hB3⟩
     have h:=HX.out
     rw [Nat.pow_succ] at h
     omega
    case measure => simp [intOf];omega
end Go.Proofs.YtjafpikjpipbkaaGreatDoor
namespace Go.Proofs.YtjafpikjpipbkaaGreatDoor
open Go.RowKit ND
def sumStep (x:Nat) (c:UInt8):Nat:=(x ^^^ c.toNat) * 16777619 % 4294967296
def sumL (l:List UInt8):Nat:=l.foldl sumStep 2166136261
theorem sumStep_lt (x:Nat) (c:UInt8):sumStep x c < 4294967296:=Nat.mod_lt _ (by decide)
theorem foldl_lt (l:List UInt8) (x:Nat) (hx:x < 4294967296):l.foldl sumStep x < 4294967296:=by
 induction l generalizing x with
 | nil => exact hx
 | cons c l ih => exact ih _ (sumStep_lt _ _)
theorem sumL_lt (l:List UInt8):sumL l < 4294967296:=foldl_lt l _ (by decide)
theorem sumStep_cast (x:Nat) (c:UInt8):((x ^^^ c.toNat:Nat):Int) * 16777619 % 4294967296=((sumStep x c:Nat):Int):=by
 rw [sumStep]
 simp only [Int.natCast_emod,Int.natCast_mul,Int.cast_ofNat_Int]
theorem xor_bits {x:Nat} (c:UInt8) (hx:x < 4294967296):bits .xor .u32 (x:Int) (c.toNat:Int)=((x ^^^ c.toNat:Nat):Int):=by
 have hc:=c.toNat_lt
 exact u32_xor_nat _ _ hx (by omega)
theorem byte_mod (c:UInt8):(c.toNat:Int) % 4294967296=(c.toNat:Int):=by
 have hc:=c.toNat_lt
 omega
theorem bits_byte (c:UInt8) (x:Int):bits .xor .u32 x ((c.toNat:Int) % 4294967296)=bits .xor .u32 x (c.toNat:Int):=by
 rw [byte_mod]
theorem sumStep_of {x:Nat} (c:UInt8) {z:Int} (h:z=((x ^^^ c.toNat:Nat):Int)):z * 16777619 % 4294967296=(sumStep x c:Int):=by
 subst h;exact sumStep_cast x c
theorem sumStep_bits {x:Nat} (c:UInt8) (hx:x < 4294967296):bits .xor .u32 (x:Int) ((c.toNat:Int) % 4294967296) * 16777619 % 4294967296=(sumStep x c:Int):=by
 have h:bits .xor .u32 (x:Int) ((c.toNat:Int) % 4294967296)=((x ^^^ c.toNat:Nat):Int):=(bits_byte c _).trans (xor_bits c hx)
 exact sumStep_of c h
theorem take_snoc (s:ByteArray) (k:Nat) (h:k < s.size):s.data.toList.take (k + 1)=s.data.toList.take k ++ [s[k]]:=by
 rw [List.take_succ_eq_append_getElem (by simpa using h)];rfl
theorem sumL_snoc (s:ByteArray) (k:Nat) (h:k < s.size):sumL (s.data.toList.take (k + 1))=sumStep (sumL (s.data.toList.take k)) s[k]:=by
 rw [take_snoc s k h];unfold sumL;rw [List.foldl_append,List.foldl_cons,List.foldl_nil]
theorem conv_bytes {P:Program} (w:World) (src dst e:TypeId) (s:ByteArray) (hs:P.underlying src=some .string) (hd:P.underlying dst=some (.slice e)) (he:P.underlying e=some (.int .u8)) :
  ∃ W cap,(convert src dst (.string s)).run P w=.ok (.slice (some ⟨w.heap.size,0,none⟩) s.size cap) W ∧ (∀ k (h:k < s.size),W.cell? ⟨w.heap.size,k,none⟩=some (bv s[k])) ∧ Below w.heap.size w W ∧ s.size ≤ cap:=by
 refine ⟨_,_,run_bytes_of_string w src dst e s hs hd he,fun k hk => ?_,((Below.refl _ w).drew).alloc (Nat.le_refl _) _,grownCap_ge _ _ _ _⟩
 have h:=cell_of_row (w.drew.alloc (.cells (bytesRow s (grownCap w s.size 0 e)) e ((bytesRow s (grownCap w s.size 0 e)).size,(bytesRow s (grownCap w s.size 0 e)).size + 1))) w.heap.size k _ _ _ (heap_alloc_new w.drew _)
 rw [h,bytesRow_at s _ k hk]
 rfl
end Go.Proofs.YtjafpikjpipbkaaGreatDoor
namespace Go.Proofs.YtjafpikjpipbkaaGreatDoor
open Go.RowKit
def lowU (b:UInt8):UInt8:=if 65 ≤ b.toNat ∧ b.toNat ≤ 90 then UInt8.ofNat (b.toNat + 32) else b
def lowS (s:ByteArray):ByteArray:=⟨(s.data.toList.map lowU).toArray⟩
section
variable {w:World} {base:Nat} {e:TypeId} {n:Nat} {xs:List Value}
theorem ownsT_at {v:Value} (h:ownsT w base e 1 v n xs) {g:Nat} (hg:v.ownBlock=some g) {i:Nat} (hi:i < n) (u:Value) :
  w.cell? ⟨g,i,none⟩=xs[i]? ∧ w.frozen? ⟨g,i,none⟩=false ∧ ownsT (w.setCell ⟨g,i,none⟩ u) base e 1 v n (xs.set i u):=by
 obtain ⟨hl,h2⟩:=h
 rcases h2 with ⟨rfl,h0⟩ | ⟨g',cap,cur,fz,rfl,hb,hgg,hc,hnc,hcm,hcs,ht⟩
 ·omega
 ·simp only [Value.ownBlock,Option.some.injEq] at hg
  subst hg
  have hic:i < cur.size:=by omega
  refine ⟨?_,?_,by simpa using hl,.inr ⟨g',cap,cur.setIfInBounds i u,fz,rfl,hb,?_,by simpa using hc,hnc,hcm,by simpa using hcs,?_⟩⟩
  ·rw [cell_of_row w g' i cur e fz hgg,← ht,List.getElem?_take]
   rw [if_pos (by omega)]
   simp
  ·obtain ⟨lo,hi'⟩:=fz
   simp only [World.frozen?,hgg,Bool.and_eq_false_iff,decide_eq_false_iff_not]
   rcases hc with h | h
   ·simp only [Prod.mk.injEq] at h;right;omega
   ·left;simp only at h;omega
  ·simp [World.setCell,Array.getElem?_modify,hgg]
  ·rw [Array.toList_setIfInBounds,List.take_set,ht]
end
theorem conv_ownsT {P:Program} (w:World) (src dst e:TypeId) (s:ByteArray) (hl:s.size ≤ 1000000) (hs:P.underlying src=some .string) (hd:P.underlying dst=some (.slice e)) (he:P.underlying e=some (.int .u8)) :
  ∃ W cap,(convert src dst (.string s)).run P w=.ok (.slice (some ⟨w.heap.size,0,none⟩) s.size cap) W ∧ ownsT W w.heap.size e 1 (.slice (some ⟨w.heap.size,0,none⟩) s.size cap) s.size (s.data.toList.map bv) ∧ Below w.heap.size w W:=by
 have h0:=ownsT_bytes w.drew w.heap.size e s (grownCap w s.size 0 e) (Nat.le_refl _) (grownCap_ge _ _ _ _) (grownCap_le_maxLen _ _ _ _ (by unfold maxLen;omega))
 exact ⟨_,_,run_bytes_of_string w src dst e s hs hd he,by simpa using h0,((Below.refl _ w).drew).alloc (Nat.le_refl _) _⟩
theorem low_step {l:List UInt8} {k:Nat} {b:UInt8} (h:l[k]?=some b):((l.take k).map lowU ++ l.drop k)[k]?=some b ∧ ((l.take k).map lowU ++ l.drop k).set k (lowU b)=(l.take (k + 1)).map lowU ++ l.drop (k + 1):=by
 have hk:=(List.getElem?_eq_some_iff.1 h).1
 have e:l[k]=b:=(List.getElem?_eq_some_iff.1 h).2
 have hl:((l.take k).map lowU).length=k:=by simp;omega
 refine ⟨?_,?_⟩
 ·rw [List.getElem?_append_right (by omega),hl]
  simp [h]
 ·rw [List.set_append_right _ _ (by omega),hl,Nat.sub_self,List.drop_eq_getElem_cons hk,List.set_cons_zero,ND.take_snoc_get h]
  simp
theorem low_same {l:List UInt8} {k:Nat} {b:UInt8} (h:l[k]?=some b) (hn:lowU b=b):(l.take k).map lowU ++ l.drop k=(l.take (k + 1)).map lowU ++ l.drop (k + 1):=by
 have hk:=(List.getElem?_eq_some_iff.1 h).1
 have e:l[k]=b:=(List.getElem?_eq_some_iff.1 h).2
 rw [List.drop_eq_getElem_cons hk,e,ND.take_snoc_get h]
 simp [hn]
theorem low_end {l:List UInt8} {k:Nat} (h:l.length ≤ k):(l.take k).map lowU ++ l.drop k=l.map lowU:=by
 rw [List.take_of_length_le h,List.drop_of_length_le h,List.append_nil]
theorem low_bv {b:UInt8} (h:65 ≤ b.toNat) (h2:b.toNat ≤ 90):Value.int .u8 ((b.toNat:Int) + 97 - 65)=bv (lowU b):=by
 unfold bv lowU
 rw [if_pos ⟨h,h2⟩,ND.u8_ofNat_toNat (by omega)]
 congr 1
 omega
theorem lower_any (s:ByteArray) (w:World) (hs:s.size ≤ 1000000) :
  Calls Tryz.prog 102 #[.string s] w fun e w' => e=.returned (.string (lowS s)) ∧ Below w.heap.size w w':=by
 obtain ⟨W,cap,hcv,hown,hbel⟩:=conv_ownsT (P:=Tryz.prog) w 9 143 5 s hs Tryz.underlying9 Tryz.underlying143 Tryz.underlying5
 have HO:=Lib.hid hown;clear hown
 have HB:=Lib.hid hbel;clear hbel
 have hl:s.size ≤ 9223372036854775807:=by omega
 go_enter Tryz.func102,Tryz.ntmps102
 go_wp2_with fail
 clear hcv
 go_loopw [10] (fun i wr => ∃ k:Nat,k ≤ s.size ∧ i=.int .i64 k ∧ Hid (ownsT wr w.heap.size 5 1 (.slice (some ⟨w.heap.size,0,none⟩) s.size cap) s.size (((s.data.toList.take k).map lowU ++ s.data.toList.drop k).map bv)) ∧ Hid (Below w.heap.size w wr)) (fun i _ => s.size - (intOf i).toNat)
 case atStart => exact ⟨0,by omega,rfl,Lib.hid (by simpa using HO.out),HB⟩
 case round =>
  obtain ⟨k,hk,rfl,HK,HW⟩:=hrel
  by_cases hlt:k < s.size
  ·obtain ⟨b,hb⟩:∃ b,s.data.toList[k]?=some b:=⟨_,List.getElem?_eq_getElem (by simpa using hlt)⟩
   have HS:=Lib.hid (low_step hb)
   have k0:(0:Int) ≤ (k:Int):=by omega
   have k1:(k:Int) < (s.size:Int):=by omega
   have hat:=ownsT_at HK.out (g:=w.heap.size) rfl hlt
   have hc:wr.cell? ⟨w.heap.size,k,none⟩=some (.int .u8 (b.toNat:Int)):=by
    rw [(hat (.int .u8 0)).1,List.getElem?_map,HS.out.1];rfl
   have hf:=(hat (.int .u8 0)).2.1
   have HAT:=Lib.hid hat
   have HL:=Lib.hid (fun hn:lowU b=b => low_same hb hn)
   clear hb hat
   have hbl:b.toNat < 256:=b.toNat_lt
   by_cases h1:65 ≤ b.toNat
   ·by_cases h2:b.toNat ≤ 90
    ·have y1:decide ((65:Int) ≤ (b.toNat:Int))=true:=by simp;omega
     have y2:decide ((b.toNat:Int) ≤ 90)=true:=by simp;omega
     go_wp2_with fail
     refine ⟨⟨k + 1,by omega,by go_num,Lib.hid ?_,Lib.hid (HW.out.setCell (p:=⟨w.heap.size,k,none⟩) (Nat.le_refl _) _)⟩,by simp [intOf];omega⟩
     have h3:=(HAT.out (bv (lowU b))).2.2
     rw [← List.map_set,HS.out.2] at h3
     rw [low_bv h1 h2]
     exact h3
    ·have y1:decide ((65:Int) ≤ (b.toNat:Int))=true:=by simp;omega
     have y2:decide ((b.toNat:Int) ≤ 90)=false:=by simp;omega
     have hn:lowU b=b:=by unfold lowU;rw [if_neg (by omega)]
     go_wp2_with fail
     go_roundw
     case rel => exact ⟨k + 1,by omega,by go_num,Lib.hid (HL.out hn ▸ HK.out),HW⟩
     case measure => simp [intOf];omega
   ·have y1:decide ((65:Int) ≤ (b.toNat:Int))=false:=by simp;omega
    have hn:lowU b=b:=by unfold lowU;rw [if_neg (by omega)]
    go_wp2_with fail
    go_roundw
    case rel => exact ⟨k + 1,by omega,by go_num,Lib.hid (HL.out hn ▸ HK.out),HW⟩
    case measure => simp [intOf];omega
  ·have hlen:(s.data.toList.map lowU).length=s.size:=by simp
   have hcv:=bytes_of_ownsT (P:=Tryz.prog) (w:=wr) (B:=w.heap.size) (e:=5) (v:=.slice (some ⟨w.heap.size,0,none⟩) s.size cap) (l:=s.data.toList.map lowU) 143 9 (by rw [hlen,← low_end (l:=s.data.toList) (k:=k) (by simp;omega)];exact HK.out) Tryz.underlying143 Tryz.underlying5 Tryz.underlying9
   go_wp2_with fail
   go_ret
   exact ⟨rfl,HW.out⟩
end Go.Proofs.YtjafpikjpipbkaaGreatDoor
namespace Go.Proofs.YtjafpikjpipbkaaGreatDoor
open Go.RowKit
def isB (s:ByteArray):Bool:=decide (4 ≤ s.size) && ((lowS (s.extract 0 4)).toList == [120,110,45,45])
theorem is_any (s:ByteArray) (w:World) (hs:s.size ≤ 1000000) :
  Calls Tryz.prog 60 #[.string s] w fun e w' => e=.returned (.bool (isB s)) ∧ Below w.heap.size w w':=by
 by_cases h4:4 ≤ s.size
 ·have HL:=Lib.hid (lower_any (s.extract 0 4) w (by simp [ByteArray.size_extract];omega))
  have z1:decide ((4:Int) ≤ (s.size:Int))=true:=by simp;omega
  have z2:(4:Int) ≤ (s.size:Int):=by omega
  go_enter Tryz.func60,Tryz.ntmps60
  go_wp2_with (go_at_call 102;refine HL.out.mono ?_;rintro e w1 ⟨rfl,b1⟩)
  go_ret
  exact ⟨by unfold isB;rw [decide_eq_true h4,Bool.true_and];rfl,b1⟩
 ·have z1:decide ((4:Int) ≤ (s.size:Int))=false:=by simp;omega
  go_enter Tryz.func60,Tryz.ntmps60
  go_wp2_with fail
  go_ret
  exact ⟨by unfold isB;rw [decide_eq_false h4,Bool.false_and];rfl,Below.refl _ _⟩
end Go.Proofs.YtjafpikjpipbkaaGreatDoor
