/-
  Merged texts: lemmas and walks that the last text of this claim leans on.
-/
import Derived.Test.YtjafpikjpipbkaaGreatDoorMgTS10
import Derived.Test.YtjafpikjpipbkaaGreatDoorMgTS9
import Derived.Test.YtjafpikjpipbkaaGreatDoorMgTS4
import Derived.Test.YtjafpikjpipbkaaGreatDoorMgTS3
import Derived.Test.YtjafpikjpipbkaaGreatDoorMgTS1
set_option maxRecDepth 100000
set_option maxHeartbeats 40000000
namespace Go.Proofs.YtjafpikjpipbkaaGreatDoor
open Go.RowKit ND
theorem maps_any (t:Tv) (T:Tab) (c:Int) (w:World) (ht:TabR w w.heap.size t T) (hs:sortM T.maps) (hne:∀ m ∈ T.maps,m.2 ≠ [] ∧ m.2.length ≤ 1000) (hlen:T.maps.length ≤ 256) :
  Calls Tryz.prog 39 #[t.val,.int .i64 c] w (RetSeq w (T.mapsOf c)):=by
 have HP:=Lib.hid (fun W (h:Mapps W W.heap.size t.c8 T.maps) => find_any t.c8 T.maps c W h hs (fun m hm => (hne m hm).1) hlen)
 have HS:=Lib.hid (find_len (c:=c) (fun m hm => (hne m hm).2))
 have hr:=ht.r8
 have HR:=Lib.hid (fun o:Obj => hr.later ((Below.refl _ _).alloc (Nat.le_refl _) o))
 clear hr ht hs hlen hne
 by_cases hc:65 ≤ c ∧ c ≤ 90
 ·have hm:T.mapsOf c=[c + 32]:=by unfold Tab.mapsOf;rw [if_pos hc]
  rw [hm]
  clear hm HP HS HR
  obtain ⟨h0,h1⟩:=hc
  have hw:c + 97 - 65=c + 32:=by omega
  have HW:=Lib.hid hw
  clear hw
  go_enter Tryz.func39,Tryz.ntmps39
  go_wp2_with fail
  go_ret
  refine ⟨_,rfl,⟨some ⟨w.heap.size + 1,0,none⟩,1,rfl,Nat.le_refl _,by decide,(by intro h;cases h),fun i x hi => ⟨_,rfl,by simp,?_⟩⟩,fun h => (by cases h),((Below.refl _ _).alloc (Nat.le_refl _) _).alloc (by simp) _⟩
  have h:=cells_new (w.alloc (.cells t.cells 26)) [.int .i64 (c + 32)] 3 i (.int .i64 x) (by
   cases i with
   | zero => simp at hi ⊢;exact hi
   | succ i => simp at hi)
  rw [show (w.alloc (.cells t.cells 26)).heap.size=w.heap.size + 1 by simp,← HW.out] at h
  exact h
 ·have hm:T.mapsOf c=findL T.maps c:=by unfold Tab.mapsOf;rw [if_neg hc]
  rw [hm]
  clear hm
  have hc':c < 65 ∨ 90 < c:=by omega
  clear hc
  rcases hc' with hc | hc
  all_goals
   go_enter Tryz.func39,Tryz.ntmps39
   go_wp2_with fail
   refine (HP.out _ (HR.out _)).mono ?_
   rintro e w1 ⟨v,rfl,hv,hn,b1⟩
   go_wp2_with fail
   refine (copied_any v _ w1 hv HS.out).mono ?_
   rintro e w2 ⟨v',rfl,hv',hn',b2⟩
   go_wp2_with fail
   go_ret
   exact ⟨_,rfl,hv',hn',below_next ((Below.refl _ _).alloc (Nat.le_refl _) _) (below_next b1 b2)⟩
end Go.Proofs.YtjafpikjpipbkaaGreatDoor
namespace Go.Proofs.YtjafpikjpipbkaaGreatDoor
open Go.RowKit ND
def mapOne (T:Tab) (c:Int):List Int:=if T.statusOf c=1 ∨ T.statusOf c=4 then [c] else if T.statusOf c=3 then T.mapsOf c else []
def badAt (T:Tab):Nat → List Int → Option Nat
 | _,[] => none
 | i,c :: r => if T.statusOf c=0 then some i else badAt T (i + 1) r
def mapOut (T:Tab) (l:List Int):List Int:=l.flatMap (mapOne T)
def mapR (T:Tab) (l:List Int):List Int × Int × Int :=
 if accE T l ≠ 0 then ([],0,accE T l) else match badAt T 0 l with
  | some i => ([],(i:Int),16)
  | none => if 4096 < (mapOut T l).length then ([],0,7) else (mapOut T l,0,0)
theorem mapR_err {T:Tab} {l:List Int} (h:accE T l ≠ 0):mapR T l=([],0,accE T l):=by unfold mapR;rw [if_pos h]
theorem mapR_bad {T:Tab} {l:List Int} {i:Nat} (h:accE T l=0) (h2:badAt T 0 l=some i):mapR T l=([],(i:Int),16):=by unfold mapR;rw [if_neg (by omega),h2]
theorem mapR_full {T:Tab} {l:List Int} (h:accE T l=0) (h2:badAt T 0 l=none) (h3:4096 < (mapOut T l).length):mapR T l=([],0,7):=by unfold mapR;rw [if_neg (by omega),h2];simp only;rw [if_pos h3]
theorem mapR_ok {T:Tab} {l:List Int} (h:accE T l=0) (h2:badAt T 0 l=none) (h3:(mapOut T l).length ≤ 4096):mapR T l=(mapOut T l,0,0):=by unfold mapR;rw [if_neg (by omega),h2];simp only;rw [if_neg (by omega)]
theorem drop_at {l:List Int} {i:Nat} {c:Int} (h:l[i]?=some c):l.drop i=c :: l.drop (i + 1):=by
 obtain ⟨h1,e⟩:=List.getElem?_eq_some_iff.1 h
 rw [List.drop_eq_getElem_cons h1,e]
theorem bad_hit {T:Tab} {l:List Int} {i:Nat} {c:Int} {R:Option Nat} (hc:l[i]?=some c) (h:badAt T i (l.drop i)=R) (h0:T.statusOf c=0):R=some i:=by
 rw [drop_at hc,badAt,if_pos h0] at h;exact h.symm
theorem bad_go {T:Tab} {l:List Int} {i:Nat} {c:Int} {R:Option Nat} (hc:l[i]?=some c) (h:badAt T i (l.drop i)=R) (h0:T.statusOf c ≠ 0):badAt T (i + 1) (l.drop (i + 1))=R:=by
 rw [drop_at hc,badAt,if_neg h0] at h;exact h
theorem bad_end {T:Tab} {l:List Int} {i:Nat} {R:Option Nat} (hi:l.length ≤ i) (h:badAt T i (l.drop i)=R):R=none:=by
 rw [List.drop_of_length_le hi,badAt] at h;exact h.symm
theorem out_step {T:Tab} {l:List Int} {i:Nat} {c:Int} (hc:l[i]?=some c):mapOut T (l.take (i + 1))=mapOut T (l.take i) ++ mapOne T c:=by
 obtain ⟨h1,e⟩:=List.getElem?_eq_some_iff.1 hc
 unfold mapOut
 rw [List.take_succ_eq_append_getElem h1,List.flatMap_append,e];simp
theorem mapsOf_len {T:Tab} (h:T.check=0) (c:Int):(T.mapsOf c).length ≤ 18:=by
 unfold Tab.mapsOf
 split
 ·simp
 ·by_cases h0:findL T.maps c=[]
  ·rw [h0];simp
  ·have h4:=(rules_of h).2.2.2.1
   unfold Tab.rule4 at h4
   simp only [Bool.and_eq_true] at h4
   exact (toB_iff.1 (List.all_eq_true.1 h4.2.1 _ (findL_mem h0))).2.1
def RetMap (w:World) (r:List Int × Int × Int) (e:Ending) (w':World):Prop:=∃ v,e=.returned (.tuple #[v,.int .i64 r.2.1,.int .i64 r.2.2]) ∧ w'.ownsRow w.heap.size 3 1 v r.1.length (r.1.map (Value.int .i64)) ∧ Below w.heap.size w w'
theorem map_any (t:Tv) (T:Tab) (v:Value) (xs:List Int) (w:World) (ht:TabR w w.heap.size t T) (hg:Glob w) (hv:Ints w w.heap.size .i64 v xs) :
  Calls Tryz.prog 9 #[t.val,v] w (RetMap w (mapR T xs)):=by
 obtain ⟨A,c,rfl,_⟩:=id hv
 have HB0:Hid (Below w.heap.size w (w.alloc (.cells t.cells 26))):=Lib.hid ((Below.refl _ _).alloc (Nat.le_refl _) _)
 have HT:Hid (Tbl (w.alloc (.cells t.cells 26)) w.heap.size t T):=Lib.hid ⟨Blk.new _ _ _,ht.later HB0.out⟩
 have HV:=Lib.hid (hv.later HB0.out)
 have HO:=Lib.hid (order_any t T _ xs _ HT.out.2 (hg.later HB0.out) HV.out)
 clear hv ht hg
 by_cases h0:accE T xs=0
 ·obtain ⟨hck,hlen,_⟩:=accE_zero h0
  have H0:=Lib.hid h0
  have HCK:=Lib.hid hck
  have hsh:=shape_of hck
  have hsz:=sized_of hck
  have HC:Hid (∀ (b:Nat) (W:World) (x:Int),Tbl W b t T → Calls Tryz.prog 38 #[.agg #[t.c0,t.c1,t.c2,t.c3,t.c4,t.c5,t.c6,t.c7,t.c8,t.c9,t.c10,t.c11],.int .i64 x] W fun e W' => e=.returned (.int .i64 (T.statusOf x)) ∧ Below W.heap.size W W'):=Lib.hid fun b W x h => status_any t T x 0 1114111 W h.2 hsh.c5.1 hsh.c5.2.1
  have HM:Hid (∀ (b:Nat) (W:World) (x:Int),Tbl W b t T → Calls Tryz.prog 39 #[.agg #[t.c0,t.c1,t.c2,t.c3,t.c4,t.c5,t.c6,t.c7,t.c8,t.c9,t.c10,t.c11],.int .i64 x] W (RetSeq W (T.mapsOf x))):=Lib.hid fun b W x h => maps_any t T x W h.2 (keysB_sort hsh.km) hsz.nm hsh.lm
  rw [h0] at HO
  clear h0 hck hsh hsz
  generalize ordL T xs=ol at *
  go_enter Tryz.func9,Tryz.ntmps9
  go_upto_region 1 with fail
  generalize w.alloc (.cells t.cells 26)=w1 at *
  obtain ⟨x0,x1,x2,x3,x4,x5,x6,x7,x8,x9,x10,x11⟩:=HT.out.1.tab
  go_upto_region 2 with (go_at_call 37;refine HO.out.mono ?_;rintro e w2 ⟨u2,rfl,ho2,b2⟩;obtain ⟨A2,c2,rfl,_⟩:=id (Ints.of_own ho2);clear ho2)
  clear x0 x1 x2 x3 x4 x5 x6 x7 x8 x9 x10 x11
  obtain ⟨tb,htb⟩:∃ tb,w.heap.size=tb:=⟨_,rfl⟩
  have HT2:Hid (Tbl w2 tb t T):=Lib.hid (htb ▸ HT.out.later b2)
  have HV2:=Lib.hid (HV.out.later b2)
  have HB2:=Lib.hid (below_next HB0.out b2)
  simp only [htb]
  clear HT HV HB0 HO b2
  obtain ⟨i0,hi,hz0,hz1,hz2⟩:=info_parts Tryz.infoInt'
  go_wp2_with fail
  go_loopw [23,9] (fun s23 s9 wr => ∃ (k:Nat) (acc:List Int) (A9:Option Addr) (c9:Nat),k ≤ xs.length ∧ s23=.int .i64 k ∧ s9=.slice A9 acc.length c9 ∧ acc.length ≤ 18 * k ∧ Hid (acc=mapOut T (xs.take k) ∧ badAt T k (xs.drop k)=badAt T 0 xs) ∧ Hid (wr.ownsRow w2.heap.size 3 1 (.slice A9 acc.length c9) acc.length (acc.map (Value.int .i64))) ∧ Hid (Below w2.heap.size w2 wr)) (fun i _ _ => xs.length - (intOf i).toNat)
  case atStart => exact ⟨0,[],none,0,by omega,rfl,rfl,by simp,Lib.hid ⟨rfl,rfl⟩,Lib.hid (World.ownsRow_nil _ _ _ _),Lib.hid (Below.refl _ _)⟩
  case round =>
   obtain ⟨k,acc,A9,c9,hk,rfl,rfl,hal,HS,HOr,HBr⟩:=hrel
   by_cases hlt:k < xs.length
   ·obtain ⟨x,hxk,_⟩:=get_of hlt
    obtain ⟨_,_,hve,_,_,_,hcell⟩:=HV2.out
    cases hve
    obtain ⟨ad,rfl,ha,hce⟩:=hcell k x hxk
    have e1:=(HBr.out.cell (p:=ad.add k) (by rw [block_of_add];exact ha)).trans hce
    have HX:=Lib.hid hxk
    have k0:(0:Int) ≤ (k:Int):=by omega
    have k1:(k:Int) < (xs.length:Int):=by omega
    have HTr:=Lib.hid (HT2.out.later HBr.out)
    obtain ⟨x0,x1,x2,x3,x4,x5,x6,x7,x8,x9,x10,x11⟩:=HTr.out.1.tab
    have HCx:=Lib.hid (HC.out tb wr x HTr.out)
    have HOS:=Lib.hid (out_step (T:=T) HX.out)
    clear hcell hxk ha hce
    obtain ⟨st,hst⟩:∃ st,T.statusOf x=st:=⟨_,rfl⟩
    rw [hst] at HCx
    by_cases s1:st=1
    ·subst s1
     have HN:Hid (acc ++ [x]=mapOut T (xs.take (k + 1)) ∧ badAt T (k + 1) (xs.drop (k + 1))=badAt T 0 xs):=Lib.hid ⟨by rw [HOS.out,← HS.out.1];unfold mapOne;rw [if_pos (.inl hst)],bad_go HX.out HS.out.2 (by omega)⟩
     clear hst
     go_upto_region 11 with (go_at_call 38;refine HCx.out.mono ?_;rintro e w5 ⟨rfl,b5⟩)
     have HO5:=Lib.hid (own_later HOr.out b5)
     have HB5:=Lib.hid (below_then HBr.out (Nat.le_refl _) b5)
     clear x0 x1 x2 x3 x4 x5 x6 x7 x8 x9 x10 x11 e1 HCx HTr HOr HBr b5 HS HX HOS
     go_wp2_with (at_builtin;refine wpList_append_ints (by rfl) (.tmp 34) (.tmp 36) rfl Tryz.underlying22 hi hz0 hz1 hz2 (w5.heap.size + 1) w2.heap.size (.slice A9 acc.length c9) acc (.slice (some ⟨w5.heap.size,0,none⟩) 1 1) [x] rfl (HO5.out.alloc _) rfl (by have h:=Ints.of_own (own_new w5 3 [x] (by simp));simpa using h) (by simp;omega) (by have:=HB5.out.size;simp;omega) ?_;intro v6 w6 ho6 hg6 _;obtain ⟨A6,c6,rfl,_⟩:=id (Ints.of_own ho6);have HO6:=Lib.hid ho6;have HB6:=Lib.hid ((HB5.out.alloc HB5.out.size (.cells #[.int .i64 x] 3)).grown hg6 (by have:=HB5.out.size;simp;omega) (fun q hq => (HO5.out.lt q hq).1));clear ho6 hg6)
     go_roundw
     case rel => exact ⟨k + 1,acc ++ [x],A6,c6,by omega,by go_num,by simp,by simp;omega,HN,HO6,HB6⟩
     case measure => simp [intOf];omega
    by_cases s4:st=4
    ·subst s4
     have HN:Hid (acc ++ [x]=mapOut T (xs.take (k + 1)) ∧ badAt T (k + 1) (xs.drop (k + 1))=badAt T 0 xs):=Lib.hid ⟨by rw [HOS.out,← HS.out.1];unfold mapOne;rw [if_pos (.inr hst)],bad_go HX.out HS.out.2 (by omega)⟩
     clear hst
     go_upto_region 11 with (go_at_call 38;refine HCx.out.mono ?_;rintro e w5 ⟨rfl,b5⟩)
     have HO5:=Lib.hid (own_later HOr.out b5)
     have HB5:=Lib.hid (below_then HBr.out (Nat.le_refl _) b5)
     clear x0 x1 x2 x3 x4 x5 x6 x7 x8 x9 x10 x11 e1 HCx HTr HOr HBr b5 HS HX HOS
     go_wp2_with (at_builtin;refine wpList_append_ints (by rfl) (.tmp 34) (.tmp 36) rfl Tryz.underlying22 hi hz0 hz1 hz2 (w5.heap.size + 1) w2.heap.size (.slice A9 acc.length c9) acc (.slice (some ⟨w5.heap.size,0,none⟩) 1 1) [x] rfl (HO5.out.alloc _) rfl (by have h:=Ints.of_own (own_new w5 3 [x] (by simp));simpa using h) (by simp;omega) (by have:=HB5.out.size;simp;omega) ?_;intro v6 w6 ho6 hg6 _;obtain ⟨A6,c6,rfl,_⟩:=id (Ints.of_own ho6);have HO6:=Lib.hid ho6;have HB6:=Lib.hid ((HB5.out.alloc HB5.out.size (.cells #[.int .i64 x] 3)).grown hg6 (by have:=HB5.out.size;simp;omega) (fun q hq => (HO5.out.lt q hq).1));clear ho6 hg6)
     go_roundw
     case rel => exact ⟨k + 1,acc ++ [x],A6,c6,by omega,by go_num,by simp,by simp;omega,HN,HO6,HB6⟩
     case measure => simp [intOf];omega
    by_cases s3:st=3
    ·subst s3
     have HN:Hid (acc ++ T.mapsOf x=mapOut T (xs.take (k + 1)) ∧ badAt T (k + 1) (xs.drop (k + 1))=badAt T 0 xs):=Lib.hid ⟨by rw [HOS.out,← HS.out.1];unfold mapOne;rw [if_neg (by omega),if_pos hst],bad_go HX.out HS.out.2 (by omega)⟩
     have hml:=mapsOf_len HCK.out x
     have HMx:=Lib.hid (fun W (h:Below wr.heap.size wr W) => HM.out tb W x (HTr.out.later h))
     clear hst HX
     generalize T.mapsOf x=ml at *
     go_upto_region 13 with (go_at_call 38;refine HCx.out.mono ?_;rintro e w5 ⟨rfl,b5⟩)
     have HO5:=Lib.hid (own_later HOr.out b5)
     have HB5:=Lib.hid (below_then HBr.out (Nat.le_refl _) b5)
     clear x0 x1 x2 x3 x4 x5 x6 x7 x8 x9 x10 x11 e1 HCx HOr HOS
     obtain ⟨x0,x1,x2,x3,x4,x5,x6,x7,x8,x9,x10,x11⟩:=(HTr.out.later b5).1.tab
     go_wp2_with (first
      | (go_at_call 39;refine (HMx.out _ b5).mono ?_;rintro e w7 ⟨u7,rfl,hi7,_,b7⟩;obtain ⟨A7,c7,rfl,_⟩:=id hi7;have HI7:=Lib.hid hi7;have HO7:=Lib.hid (own_later HO5.out b7);have HB7:=Lib.hid (below_then HB5.out (Nat.le_refl _) b7);clear hi7 b7)
      | (at_builtin;refine wpList_append_ints (by rfl) (.tmp 40) (.tmp 43) rfl Tryz.underlying22 hi hz0 hz1 hz2 w7.heap.size w2.heap.size (.slice A9 acc.length c9) acc (.slice A7 ml.length c7) ml rfl HO7.out rfl HI7.out (by omega) HB7.out.size ?_;intro v6 w6 ho6 hg6 _;obtain ⟨A6,c6,rfl,_⟩:=id (Ints.of_own ho6);have HO6:=Lib.hid ho6;have HB6:=Lib.hid (HB7.out.grown hg6 HB7.out.size (fun q hq => (HO7.out.lt q hq).1));clear ho6 hg6))
     go_roundw
     case rel => exact ⟨k + 1,acc ++ ml,A6,c6,by omega,by go_num,by simp,by simp;omega,HN,HO6,HB6⟩
     case measure => simp [intOf];omega
    by_cases s0:st=0
    ·subst s0
     have HR:Hid (mapR T xs=([],(k:Int),16)):=Lib.hid (mapR_bad H0.out (bad_hit HX.out HS.out.2 hst))
     clear hst
     go_wp2_with (go_at_call 38;refine HCx.out.mono ?_;rintro e w5 ⟨rfl,b5⟩)
     go_ret3
     rw [HR.out]
     exact ⟨_,rfl,World.ownsRow_nil _ _ _ _,below_next HB2.out (below_then HBr.out (Nat.le_refl _) b5)⟩
    ·have g1:(st == 1)=false:=by simpa using s1
     have g4:(st == 4)=false:=by simpa using s4
     have g3:(st == 3)=false:=by simpa using s3
     have g0:(st == 0)=false:=by simpa using s0
     have HN:Hid (acc=mapOut T (xs.take (k + 1)) ∧ badAt T (k + 1) (xs.drop (k + 1))=badAt T 0 xs):=Lib.hid ⟨by rw [HOS.out,← HS.out.1];unfold mapOne;rw [if_neg (by omega),if_neg (by omega)];simp,bad_go HX.out HS.out.2 (by omega)⟩
     clear hst s1 s4 s3 s0
     go_wp2_with (go_at_call 38;refine HCx.out.mono ?_;rintro e w5 ⟨rfl,b5⟩)
     go_roundw
     case rel => exact ⟨k + 1,acc,A9,c9,by omega,by go_num,rfl,by omega,HN,Lib.hid (own_later HOr.out b5),Lib.hid (below_then HBr.out (Nat.le_refl _) b5)⟩
     case measure => simp [intOf];omega
   ·have HE:=Lib.hid (bad_end (by omega) HS.out.2)
    have HA:Hid (acc=mapOut T xs):=Lib.hid (by have:=HS.out.1;rwa [List.take_of_length_le (by omega)] at this)
    by_cases hfl:4096 < acc.length
    ·have HR:Hid (mapR T xs=([],0,7)):=Lib.hid (mapR_full H0.out HE.out (by rw [← HA.out];exact hfl))
     have g:(4096:Int) < (acc.length:Int):=by omega
     clear hfl
     go_wp2_with fail
     go_ret3
     rw [HR.out]
     exact ⟨_,rfl,World.ownsRow_nil _ _ _ _,below_next HB2.out HBr.out⟩
    ·have HR:Hid (mapR T xs=(acc,0,0)):=Lib.hid (by rw [mapR_ok H0.out HE.out (by rw [← HA.out];omega),HA.out])
     have g:¬ (4096:Int) < (acc.length:Int):=by omega
     clear hfl
     go_wp2_with fail
     go_ret3
     rw [HR.out]
     exact ⟨_,rfl,row_le HOr.out HB2.out.size,below_next HB2.out HBr.out⟩
 ·have HR:=Lib.hid (mapR_err h0)
  have hb:(accE T xs != 0)=true:=by simpa using h0
  clear h0
  go_enter Tryz.func9,Tryz.ntmps9
  go_upto_region 1 with fail
  generalize w.alloc (.cells t.cells 26)=w1 at *
  obtain ⟨x0,x1,x2,x3,x4,x5,x6,x7,x8,x9,x10,x11⟩:=HT.out.1.tab
  go_wp2_with (go_at_call 37;refine HO.out.mono ?_;rintro e w2 ⟨u2,rfl,ho2,b2⟩;obtain ⟨A2,c2,rfl,_⟩:=id (Ints.of_own ho2);clear ho2)
  go_ret3
  rw [HR.out]
  exact ⟨_,rfl,World.ownsRow_nil _ _ _ _,below_next HB0.out b2⟩
end Go.Proofs.YtjafpikjpipbkaaGreatDoor
namespace Go.Proofs.YtjafpikjpipbkaaGreatDoor
open Go.RowKit
def unl (n:Nat) (listed:Array Bool):Nat:=(List.range n).countP fun i => !listed.getD i true
theorem countP_one {l:List Nat} {p q:Nat → Bool} {i:Nat} (hnd:l.Nodup) (hi:i ∈ l) (hp:p i=true) (hq:q i=false) (he:∀ j,j ≠ i → q j=p j):l.countP q + 1=l.countP p:=by
 induction l with
 | nil => cases hi
 | cons a r ih =>
   rw [List.nodup_cons] at hnd
   rw [List.countP_cons,List.countP_cons]
   by_cases h:a=i
   ·subst h
    rw [hp,hq]
    have:r.countP q=r.countP p:=List.countP_congr fun j hj => by
     have hne:j ≠ a:=fun e => hnd.1 (e ▸ hj)
     rw [he j hne]
    simp [this]
   ·have hi':i ∈ r:=by
     rcases List.mem_cons.1 hi with e | e
     ·exact absurd e.symm h
     ·exact e
    have:=ih hnd.2 hi'
    rw [he a h]
    omega
theorem unl_set {n i:Nat} {listed:Array Bool} (hi:i < n) (hs:i < listed.size) (hu:listed.getD i true=false):unl n (listed.setIfInBounds i true) + 1=unl n listed:=by
 unfold unl
 refine countP_one List.nodup_range (List.mem_range.2 hi) (by rw [hu];rfl) ?_ fun j hj => ?_
 ·simp [Array.getD_eq_getD_getElem?,hs]
 ·simp [Array.getD_eq_getD_getElem?,Ne.symm hj]
theorem ready_spec {md:Region.Mode} {ops:Array Oper} {listed:Array Bool} {i:Nat} (h:i ∈ Region.ready md ops listed):i < ops.size ∧ listed.getD i true=false ∧ ∃ o,ops[i]?=some o ∧ ∀ e ∈ o.after,Region.binds md e=true → listed.getD e.on false=true:=by
 unfold Region.ready at h
 obtain ⟨h1,h2⟩:=List.mem_filter.1 h
 have h1:=List.mem_range.1 h1
 rw [Bool.and_eq_true] at h2
 refine ⟨h1,by simpa using h2.1,ops[i],Array.getElem?_eq_getElem h1,fun e he hb => ?_⟩
 have h3:=h2.2
 rw [Array.getElem?_eq_getElem h1] at h3
 simp only [Option.map_some,Option.getD_some,Array.all_eq_true'] at h3
 have h4:=h3 e he
 rw [hb] at h4
 simpa using h4
theorem ready_nil {md:Region.Mode} {ops:Array Oper} {listed:Array Bool} (hs:listed.size=ops.size) (hlow:∀ (i:Nat) (o:Oper),ops[i]?=some o → ∀ e ∈ o.after,Region.binds md e=true → e.on < i) (h:Region.ready md ops listed=[]):∀ i,i < ops.size → listed.getD i false=true:=by
 intro i
 induction i using Nat.strongRecOn with
 | ind i ih =>
   intro hi
   cases hl:listed.getD i false with
   | true => rfl
   | false =>
     have hm:i ∈ Region.ready md ops listed:=by
      unfold Region.ready
      refine List.mem_filter.2 ⟨List.mem_range.2 hi,?_⟩
      rw [Bool.and_eq_true]
      refine ⟨?_,?_⟩
      ·have:listed.getD i true=false:=by
        rw [Array.getD_eq_getD_getElem?,Array.getElem?_eq_getElem (by omega)] at hl ⊢
        simpa using hl
       rw [this];rfl
      ·rw [Array.getElem?_eq_getElem hi]
       simp only [Option.map_some,Option.getD_some,Array.all_eq_true']
       intro e he
       cases hb:Region.binds md e with
       | false => rfl
       | true =>
         have:=hlow i _ (Array.getElem?_eq_getElem hi) e he hb
         simp [ih e.on this (by omega)]
     rw [h] at hm;cases hm
end Go.Proofs.YtjafpikjpipbkaaGreatDoor
namespace Go.Proofs.YtjafpikjpipbkaaGreatDoor
open Go.RowKit ND
section
variable {P:Program} {o:Oper} {a:Act} {w:World} {K:Act → World → Prop} {Q:Exit → Act → World → Prop}
theorem ob_move {x:Operand} {v:Value} (ho:o.op=.move x) (hv:a.eval x=v) (h:K (a.put o.dst v) w):o.wp P a w K Q:=by
 unfold Oper.wp execOp
 rw [ho]
 simp only [hv]
 exact h
theorem ob_assign {x:Operand} {v:Value} (ho:o.op=.assign x) (hv:a.eval x=v) (h:K (a.put o.dst v) w):o.wp P a w K Q:=by
 unfold Oper.wp execOp
 rw [ho]
 simp only [hv]
 exact h
theorem ob_enter {f:FuncId} {vs:Array Value} {post:Ending → World → Prop} (hr:(execOp a.eval o).run P w=.ok (.enter f vs) w) (hc:Calls P f vs w post) (h:∀ e w',post e w' → ∃ v,e=.returned v ∧ K (a.put o.dst v) w'):o.wp P a w K Q:=by
 unfold Oper.wp
 rw [hr]
 refine Calls.mono hc fun e w' hp => ?_
 obtain ⟨v,rfl,hk⟩:=h e w' hp
 exact hk
theorem ob_value {v:Value} (hr:(execOp a.eval o).run P w=.ok (.value v) w) (h:K (a.put o.dst v) w):o.wp P a w K Q:=by
 unfold Oper.wp
 rw [hr]
 exact h
theorem wanted_none (ops:Array Oper) (hg:o.guard=none):Region.wanted o (yielded ops a.tmps)=true:=by simp [Region.wanted,hg]
end
theorem eval_tmp {a:Act} {d:Tmp} {v:Value} (h:a.tmps[d]?=some v):a.eval (.tmp d)=v:=by
 simp [Act.eval,h]
end Go.Proofs.YtjafpikjpipbkaaGreatDoor
namespace Go.Proofs.YtjafpikjpipbkaaGreatDoor
open Go.RowKit ND
def findR:Code → Nat → Option (Array Oper)
 | .region n ops _,k => if n=k then some ops else none
 | .seq a b,k => (findR a k).or (findR b k)
 | .cond _ a b,k => (findR a k).or (findR b k)
 | .block _ a,k => findR a k
 | .loop a,k => findR a k
 | .scope a,k => findR a k
 | _,_ => none
def opsAt (f:Func) (k:Nat):Array Oper:=(f.body.bind (findR · k)).getD #[]
theorem wp_region_as {P:Program} {id:Nat} {L ops:Array Oper} {b:Bool} {Q:Exit → Act → World → Prop} {a:Act} {w:World} (h:L=ops) (hw:(Code.region id ops b).wp P Q a w):(Code.region id L b).wp P Q a w:=by
 subst h;exact hw
def FS (n:Nat) (ds:List Deferred) (fixed:List (Tmp × Value)) (a:Act):Prop:=a.tmps.size=n ∧ a.defers=ds ∧ ∀ p ∈ fixed,a.tmps[p.1]?=some p.2
def nodupB:List (Option Tmp) → Bool
 | [] => true
 | a :: r => r.all (fun b => a != b || a == none) && nodupB r
theorem nodupB_at:∀ {l:List (Option Tmp)} {i j:Nat} {d:Tmp},nodupB l=true → i < j → l[i]?=some (some d) → l[j]? ≠ some (some d):=by
 intro l
 induction l with
 | nil => intro i j d _ _ h;simp at h
 | cons a r ih =>
   intro i j d h hij hi hj
   rw [nodupB,Bool.and_eq_true,List.all_eq_true] at h
   obtain ⟨k,rfl⟩:∃ k,j=k + 1:=⟨j - 1,by omega⟩
   rw [List.getElem?_cons_succ] at hj
   cases i with
   | zero =>
     simp only [List.getElem?_cons_zero,Option.some.injEq] at hi
     subst hi
     have:=h.1 _ (List.mem_of_getElem? hj)
     simp at this
   | succ i =>
     rw [List.getElem?_cons_succ] at hi
     exact ih h.2 (by omega) hi hj
theorem get_op {β:Type} (f:Oper → β) {ops:Array Oper} {k:Nat} {o:Oper} {x:β} (ho:ops[k]?=some o) (h:(ops[k]?).map f=some x):f o=x:=by
 rw [ho] at h;exact Option.some.inj h
theorem enter2 {P:Program} {f:FuncId} {x y:Operand} {vx vy:Value} {tys:Array TypeId} {a:Act} {o:Oper} {w:World} (ho:o.op=.call { callee:=.value (.func f),args:=#[x,y],argTypes:=tys }) (hx:a.eval x=vx) (hy:a.eval y=vy)
  (eg:∀ args w,(callFunc f args).run P w=.ok (.enter f args) w):(execOp a.eval o).run P w=.ok (.enter f #[vx,vy]) w:=by
 unfold execOp
 rw [ho]
 have hf:a.eval (.func f)=.func (.func f) #[] #[]:=rfl
 simp [resolve,invoke,Deferred.ofValue,hx,hy,hf,eg]
end Go.Proofs.YtjafpikjpipbkaaGreatDoor
namespace Go.Proofs.YtjafpikjpipbkaaGreatDoor
open Go.RowKit ND
theorem wpAny_ind {P:Program} {md:Region.Mode} {ops:Array Oper} {Q:Exit → Act → World → Prop} {I:Array Bool → Act → World → Prop}
  (hsz:∀ listed a w,I listed a w → listed.size=ops.size)
  (fin:∀ listed a w,I listed a w → Region.ready md ops listed=[] → Q .normal a w)
  (step:∀ listed a w,I listed a w → ∀ i,i ∈ Region.ready md ops listed → ∀ o,ops[i]?=some o → ∀ K:Act → World → Prop,(∀ a' w',I (listed.setIfInBounds i true) a' w' → K a' w') →
   if Region.wanted o (yielded ops a.tmps)=true then o.wp P a w K Q else K (a.put o.dst undef) w) :
  ∀ (fuel:Nat) (listed:Array Bool) (a:Act) (w:World),I listed a w → unl ops.size listed ≤ fuel → wpAny P md ops Q fuel listed a w:=by
 intro fuel
 induction fuel with
 | zero =>
   intro listed a w h hu
   have hr:Region.ready md ops listed=[]:=by
    refine List.eq_nil_iff_forall_not_mem.2 fun i hi => ?_
    obtain ⟨h1,h2,_⟩:=ready_spec hi
    have:=unl_set h1 (by rw [hsz _ _ _ h];exact h1) h2
    omega
   exact ⟨hr,fin _ _ _ h hr⟩
 | succ fuel ih =>
   intro listed a w h hu
   refine ⟨fin _ _ _ h,fun i hi => ?_⟩
   obtain ⟨h1,h2,o,ho,_⟩:=ready_spec hi
   have hs:=unl_set h1 (by rw [hsz _ _ _ h];exact h1) h2
   have h3:=step listed a w h i hi o ho (fun a' w' => wpAny P md ops Q fuel (listed.setIfInBounds i true) a' w') fun a' w' hI => ih _ _ _ hI (by omega)
   unfold wpOp
   rw [ho]
   simp only
   split
   ·rename_i hw;rw [if_pos hw] at h3;exact .inl h3
   ·rename_i hw;rw [if_neg hw] at h3;exact h3
theorem getD_any {l:Array Bool} {k:Nat} (h:k < l.size) (x y:Bool):l.getD k x=l.getD k y:=by
 simp [Array.getD,h]
def ancB (ops:Array Oper):Nat → Nat → Nat → Bool
 | 0,i,k => i == k
 | f + 1,i,k => i == k || match ops[k]? with
   | some o => o.after.any fun e => Region.binds .any e && ancB ops f i e.on
   | none => false
theorem ancB_listed {ops:Array Oper} {listed:Array Bool} (hcl:∀ (j:Nat) (o:Oper),ops[j]?=some o → listed.getD j false=true → ∀ e ∈ o.after,Region.binds .any e=true → listed.getD e.on false=true) :
  ∀ (f i k:Nat),ancB ops f i k=true → listed.getD k false=true → listed.getD i false=true:=by
 intro f
 induction f with
 | zero => intro i k h hk;simp [ancB] at h;subst h;exact hk
 | succ f ih =>
   intro i k h hk
   rw [ancB,Bool.or_eq_true] at h
   rcases h with h | h
   ·simp at h;subst h;exact hk
   ·cases ho:ops[k]? with
    | none => rw [ho] at h;cases h
    | some o =>
      rw [ho] at h
      obtain ⟨e,he,hb⟩:=Array.any_eq_true'.1 h
      rw [Bool.and_eq_true] at hb
      exact ih i e.on hb.2 (hcl k o ho hk e he hb.1)
end Go.Proofs.YtjafpikjpipbkaaGreatDoor
namespace Go.Proofs.YtjafpikjpipbkaaGreatDoor
open Go.RowKit ND
def lowH:Nat → List Oper → Bool
 | _,[] => true
 | k,o :: r => o.after.all (fun e => !Region.binds .any e || decide (e.on < k)) && lowH (k + 1) r
def checksH (ops:Array Oper) (n:Nat) (fx:List Tmp):Bool :=
 lowH 0 ops.toList && nodupB (ops.toList.map (·.dst)) && ops.toList.all fun o => match o.dst with | some d => decide (d < n) && !fx.contains d | none => true
theorem lowH_at:∀ {l:List Oper} {k i:Nat} {o:Oper},lowH k l=true → l[i]?=some o → ∀ e ∈ o.after,Region.binds .any e=true → e.on < k + i:=by
 intro l
 induction l with
 | nil => intro k i o _ h;simp at h
 | cons a r ih =>
   intro k i o h hi e he hb
   rw [lowH,Bool.and_eq_true] at h
   cases i with
   | zero =>
     simp only [List.getElem?_cons_zero,Option.some.injEq] at hi
     subst hi
     have:=Array.all_eq_true'.1 h.1 e he
     simpa [hb] using this
   | succ i =>
     rw [List.getElem?_cons_succ] at hi
     have:=ih h.2 hi e he hb
     omega
structure InvH {G:Type} (ops:Array Oper) (F:Act → Prop) (C:G → Array Bool → World → Prop) (R:G → Nat → Value → Prop) (g:G) (listed:Array Bool) (a:Act) (w:World):Prop where
 size:listed.size=ops.size
 c:C g listed w
 f:F a
 closed:∀ (j:Nat) (o:Oper),ops[j]?=some o → listed.getD j false=true → ∀ e ∈ o.after,Region.binds .any e=true → listed.getD e.on false=true
 r:∀ (i:Nat) (o:Oper) (d:Tmp),ops[i]?=some o → listed.getD i false=true → o.dst=some d → ∃ v,a.tmps[d]?=some v ∧ R g i v
def DepsH (ops:Array Oper) (R:Nat → Value → Prop) (o:Oper) (a:Act):Prop :=
 ∀ e ∈ o.after,Region.binds .any e=true → ∀ (oe:Oper) (d:Tmp),ops[e.on]?=some oe → oe.dst=some d → ∃ v,a.tmps[d]?=some v ∧ R e.on v
def ObH {G:Type} (P:Program) (ops:Array Oper) (n:Nat) (ds:List Deferred) (fixed:List (Tmp × Value)) (C:G → Array Bool → World → Prop) (R:G → Nat → Value → Prop) (Q:Exit → Act → World → Prop) (i:Nat):Prop :=
 ∀ o,ops[i]?=some o → ∀ g listed a w,C g listed w → listed.size=ops.size → listed.getD i true=false → (∀ (j:Nat) (o:Oper),ops[j]?=some o → listed.getD j false=true → ∀ e ∈ o.after,Region.binds .any e=true → listed.getD e.on false=true) → FS n ds fixed a → DepsH ops (R g) o a → ∀ K:Act → World → Prop,(∀ g' v w',(∀ d,o.dst=some d → R g' i v) → C g' (listed.setIfInBounds i true) w' → (∀ j u,R g j u → R g' j u) → K (a.put o.dst v) w') →
  if Region.wanted o (yielded ops a.tmps)=true then o.wp P a w K Q else K (a.put o.dst undef) w
theorem wp_region_ghost {G:Type} {P:Program} {id n:Nat} {ops:Array Oper} {Q:Exit → Act → World → Prop} {a:Act} {w:World} {ds:List Deferred} {fixed:List (Tmp × Value)} (C:G → Array Bool → World → Prop) (R:G → Nat → Value → Prop) (g0:G) (hm:P.follows .mixedOrders=true)
  (hck:checksH ops n (fixed.map (·.1))=true) (hf:FS n ds fixed a) (hc:C g0 (Array.replicate ops.size false) w.drew)
  (hob:∀ i,i < ops.size → ObH P ops n ds fixed C R Q i)
  (hend:∀ g listed a w,(∀ i,i < ops.size → listed.getD i false=true) → C g listed w → FS n ds fixed a → (∀ (i:Nat) (o:Oper) (d:Tmp),ops[i]?=some o → o.dst=some d → ∃ v,a.tmps[d]?=some v ∧ R g i v) → Q .normal a w):(Code.region id ops true).wp P Q a w:=by
 unfold checksH at hck
 rw [Bool.and_eq_true,Bool.and_eq_true,List.all_eq_true] at hck
 obtain ⟨⟨h1,h2⟩,h3⟩:=hck
 have hat:∀ {i:Nat} {o:Oper},ops[i]?=some o → ops.toList[i]?=some o:=fun h => by simpa using h
 have hin:∀ {i:Nat} {o:Oper} {d:Tmp},ops[i]?=some o → o.dst=some d → d < n ∧ d ∉ fixed.map (·.1):=fun h hd => by
  have:=h3 _ (List.mem_of_getElem? (hat h))
  rw [hd] at this
  simpa using this
 have hlow:∀ (i:Nat) (o:Oper),ops[i]?=some o → ∀ e ∈ o.after,Region.binds .any e=true → e.on < i:=fun i o ho e he hb => by
  have:=lowH_at h1 (hat ho) e he hb
  omega
 have hdst:∀ (i j:Nat) (o o':Oper) (d:Tmp),ops[i]?=some o → ops[j]?=some o' → i ≠ j → o.dst=some d → o'.dst ≠ some d:=fun i j o o' d hi hj hij hd hd' => by
  have hi':(ops.toList.map (·.dst))[i]?=some (some d):=by rw [List.getElem?_map,hat hi];simp [hd]
  have hj':(ops.toList.map (·.dst))[j]?=some (some d):=by rw [List.getElem?_map,hat hj];simp [hd']
  rcases Nat.lt_or_gt_of_ne hij with h | h
  ·exact nodupB_at h2 h hi' hj'
  ·exact nodupB_at h2 h hj' hi'
 have hF:∀ (i:Nat) (o:Oper) (a:Act) (v:Value),ops[i]?=some o → FS n ds fixed a → FS n ds fixed (a.put o.dst v):=fun i o a v ho ⟨q1,q2,q3⟩ => by
  cases hd:o.dst with
  | none => exact ⟨q1,q2,q3⟩
  | some d =>
    obtain ⟨_,hn⟩:=hin ho hd
    refine ⟨by simpa [Act.put] using q1,q2,fun p hp => ?_⟩
    have hne:d ≠ p.1:=fun e => hn (e ▸ List.mem_map_of_mem hp)
    simp [Act.put,hne,q3 p hp]
 refine wp_region_any hm (wpAny_ind (I:=fun listed a w => ∃ g,InvH ops (FS n ds fixed) C R g listed a w) (fun _ _ _ ⟨_,h⟩ => h.size) ?_ ?_ _ _ _ _ ⟨g0,by simp,hc,hf,fun j o _ hl => ?_,fun i o d _ hl _ => ?_⟩ ?_)
 ·rintro listed a w ⟨g,h⟩ hr
  have hall:=ready_nil h.size hlow hr
  exact hend g listed a w hall h.c h.f fun i o d ho hd => h.r i o d ho (hall i (Array.getElem?_eq_some_iff.1 ho).1) hd
 ·rintro listed a w ⟨g,h⟩ i hi o ho K hK
  obtain ⟨g1,g2,o',ho',hdep⟩:=ready_spec hi
  rw [ho] at ho';cases ho'
  refine hob i g1 o ho g listed a w h.c h.size g2 h.closed h.f (fun e he hb oe d hoe hd => h.r e.on oe d hoe (hdep e he hb) hd) K fun g' v w' hv hc' hst => hK _ _ ⟨g',by simpa using h.size,hc',hF i o a v ho h.f,fun j oj hj hlj e he hb => ?_,fun j oj d hj hlj hdj => ?_⟩
  ·have up:listed.getD e.on false=true → (listed.setIfInBounds i true).getD e.on false=true:=fun hl => by
    rw [Array.getD_eq_getD_getElem?,Array.getElem?_setIfInBounds]
    split
    ·split <;> simp_all
    ·rw [← Array.getD_eq_getD_getElem?];exact hl
   by_cases hji:j=i
   ·subst hji
    rw [ho] at hj;cases hj
    exact up (hdep e he hb)
   ·rw [Array.getD_eq_getD_getElem?,Array.getElem?_setIfInBounds,if_neg (Ne.symm hji)] at hlj
    exact up (h.closed j oj hj (by rw [Array.getD_eq_getD_getElem?];exact hlj) e he hb)
  by_cases hji:j=i
  ·subst hji
   rw [ho] at hj;cases hj
   refine ⟨v,?_,hv d hdj⟩
   rw [hdj]
   simp [Act.put,h.f.1,(hin ho hdj).1]
  ·have hlj':listed.getD j false=true:=by
    rw [Array.getD_eq_getD_getElem?,Array.getElem?_setIfInBounds,if_neg (Ne.symm hji)] at hlj
    rw [Array.getD_eq_getD_getElem?];exact hlj
   obtain ⟨u,hu1,hu2⟩:=h.r j oj d hj hlj' hdj
   refine ⟨u,?_,hst j u hu2⟩
   cases hod:o.dst with
   | none => exact hu1
   | some d' =>
     have hne:d' ≠ d:=fun e => hdst j i oj o d hj ho hji hdj (by rw [hod,e])
     simp [Act.put,hne,hu1]
 ·rw [Array.getD_eq_getD_getElem?,Array.getElem?_replicate] at hl
  split at hl <;> simp at hl
 ·rw [Array.getD_eq_getD_getElem?,Array.getElem?_replicate] at hl
  split at hl <;> simp at hl
 ·unfold unl
  exact Nat.le_trans List.countP_le_length (by simp)
end Go.Proofs.YtjafpikjpipbkaaGreatDoor
namespace Go.Proofs.YtjafpikjpipbkaaGreatDoor
open Go.RowKit ND
def nextF (f:Int → Int) (xs:List Int) (b:Int):Nat → Int → Int
 | 0,_ => -1
 | n + 1,i => if 0 ≤ i ∧ i < (xs.length:Int) then (if f (xs.getD i.toNat 0)=5 then nextF f xs b n (i + b) else i) else -1
def nextR (f:Int → Int) (xs:List Int) (i b:Int):Int:=nextF f xs b (xs.length + 2) (i + b)
theorem nextF_bound (f:Int → Int) (xs:List Int) (b:Int):∀ (n:Nat) (i:Int),-1 ≤ nextF f xs b n i ∧ nextF f xs b n i < (xs.length:Int)
 | 0,i => by unfold nextF;omega
 | n + 1,i => by
   unfold nextF
   split
   ·split
    ·exact nextF_bound f xs b n (i + b)
    ·omega
   ·omega
def joinsR (f:Int → Int) (xs:List Int) (i side:Int):Bool:=if i < 0 then false else (f (xs.getD i.toNat 0) == side) || (f (xs.getD i.toNat 0) == 3)
def permJ (f g:Int → Int) (xs:List Int) (i:Nat):Bool :=
 if xs.getD i 0 ≠ 8204 ∧ xs.getD i 0 ≠ 8205 then true
 else if 0 < i ∧ g (xs.getD (i - 1) 0)=9 then true
 else (xs.getD i 0 == 8204) && joinsR f xs (nextR f xs i (-1)) 1 && joinsR f xs (nextR f xs i 1) 2
theorem getD_of {xs:List Int} {k:Nat} {x:Int} (h:xs[k]?=some x):xs.getD k 0=x:=by
 rw [List.getD_eq_getElem?_getD,h];rfl
end Go.Proofs.YtjafpikjpipbkaaGreatDoor
namespace Go.Proofs.YtjafpikjpipbkaaGreatDoor
open Go.RowKit ND
def hangD (c:Int):List Int :=
 if sylB c=true then (if (c - 44032) % 28=0 then [4352 + (c - 44032) / 28 / 21,4449 + (c - 44032) / 28 % 21] else [4352 + (c - 44032) / 28 / 21,4449 + (c - 44032) / 28 % 21,4519 + (c - 44032) % 28]) else []
def expandL (T:Tab) (c:Int):List Int:=if sylB c=true then hangD c else expF T.decomps T.decomps.length c
def flatD (T:Tab) (l:List Int):List Int:=l.flatMap (expandL T)
def nfdL (T:Tab) (l:List Int):List Int:=can T.classOf (flatD T l)
theorem hangD_none {c:Int} (h:sylB c=false):hangD c=[]:=by unfold hangD;rw [h];rfl
theorem hangD_ne {c:Int} (h:sylB c=true):hangD c ≠ []:=by
 unfold hangD;rw [if_pos h];split <;> simp
theorem hangD_len (c:Int):(hangD c).length ≤ 3:=by
 unfold hangD;split
 ·split <;> simp
 ·simp
theorem hangD_jamo {c x:Int} (hx:x ∈ hangD c):jamoB x=true ∧ sylB x=false:=by
 unfold hangD at hx
 rw [jamoB_iff]
 have hs:∀ y:Int,y < 44032 → sylB y=false:=fun y hy => by unfold sylB;rw [decide_eq_false_iff_not];omega
 split at hx
 ·rename_i hc
  rw [sylB_iff] at hc
  split at hx
  ·simp only [List.mem_cons,List.not_mem_nil,or_false] at hx
   rcases hx with rfl | rfl
   ·exact ⟨by omega,hs _ (by omega)⟩
   ·exact ⟨by omega,hs _ (by omega)⟩
  ·simp only [List.mem_cons,List.not_mem_nil,or_false] at hx
   rcases hx with rfl | rfl | rfl
   ·exact ⟨by omega,hs _ (by omega)⟩
   ·exact ⟨by omega,hs _ (by omega)⟩
   ·exact ⟨by omega,hs _ (by omega)⟩
 ·cases hx
theorem expandL_syl {T:Tab} {c:Int} (h:sylB c=true):expandL T c=hangD c:=by unfold expandL;rw [if_pos h]
theorem expandL_not {T:Tab} {c:Int} (h:sylB c=false):expandL T c=expF T.decomps T.decomps.length c:=by unfold expandL;rw [if_neg (by simp [h])]
structure DecOk (T:Tab):Prop where
 len:T.decomps.length ≤ 256
 srt:sortM T.decomps
 ne:∀ m ∈ T.decomps,m.2 ≠ [] ∧ m.2.length ≤ 1000
 key:∀ m ∈ T.decomps,resB m.1=false ∧ 0 ≤ m.1 ∧ m.1 ≤ 1114111
 el:∀ m ∈ T.decomps,∀ c ∈ m.2,sylB c=false ∧ jamoB c=false ∧ scalarB c=true ∧ c ≠ 46
 two:∀ m ∈ T.decomps,m.2.length ≤ 2
 fin:∀ c,fin T.decomps T.decomps.length c=true
 le:∀ c,(expF T.decomps T.decomps.length c).length ≤ 18
 full:∀ c,fullF T.decomps 257 [c]=some (expF T.decomps T.decomps.length c)
theorem decOk_of {T:Tab} (h:T.check=0):DecOk T:=by
 have hsh:=shape_of h
 have hsz:=sized_of h
 obtain ⟨_,_,_,r4,_,r6,_⟩:=rules_of h
 unfold Tab.rule6 at r6
 rw [Bool.and_eq_true,List.all_eq_true,List.all_eq_true] at r6
 unfold Tab.rule4 at r4
 simp only [Bool.and_eq_true] at r4
 have r4':=List.all_eq_true.1 r4.2.2.1
 have hld:T.decomps.length ≤ 256:=hsh.ld
 have hsizes:∀ c,sizeF T.decomps (T.decomps.length + 1) c ≤ 18:=fun c => by
  by_cases h0:findL T.decomps c=[]
  ·rw [sizeF,if_pos h0];omega
  ·have:=r6.2 _ (findL_mem h0)
   unfold Tab.szOk at this
   simpa using this
 have hfull:∀ c,fullF T.decomps 257 [c]=some (expF T.decomps T.decomps.length c) ∧ ND.fin T.decomps T.decomps.length c=true ∧ (expF T.decomps T.decomps.length c).length ≤ 18:=fun c => by
  rcases full_size hld c with ⟨_,h1,h2,h3⟩ | ⟨h1,_⟩
  ·exact ⟨h1,h2,h3⟩
  ·exact absurd (hsizes c) h1
 refine ⟨hld,keysB_sort hsh.kd,hsz.nd,fun m hm => ?_,fun m hm c hc => ?_,fun m hm => ?_,fun c => (hfull c).2.1,fun c => (hfull c).2.2,fun c => (hfull c).1⟩
 ·have:=keysB_at hsh.kd m.1 (by unfold keysOf;exact List.mem_map_of_mem hm)
  rcases this.2.2 with h1 | ⟨h1,_⟩
  ·exact ⟨h1,by omega,this.2.1⟩
  ·cases h1
 ·have h1:=r6.1 m hm
  unfold decOk at h1
  have h2:=(toB_iff.1 (r4' m hm)).2.2
  simp only [Bool.false_eq_true,if_false] at h2
  rw [List.all_eq_true] at h2
  rw [Bool.and_eq_true,List.all_eq_true] at h1
  have h3:=h1.2 c hc
  unfold decEl at h3
  simp only [Bool.not_eq_true',Bool.or_eq_false_iff,decide_eq_false_iff_not] at h3
  exact ⟨h3.1.2,h3.2,h2 c hc,h3.1.1⟩
 ·have h1:=r6.1 m hm
  unfold decOk at h1
  simp only [Bool.and_eq_true,decide_eq_true_eq] at h1
  exact h1.1
theorem expandL_done {T:Tab} {x:Int} (h1:findL T.decomps x=[]) (h2:sylB x=false):expandL T x=[x]:=by
 rw [expandL_not h2,expF_none h1]
theorem expandL_len {T:Tab} (h:DecOk T) (c:Int):1 ≤ (expandL T c).length ∧ (expandL T c).length ≤ 18:=by
 cases hs:sylB c
 ·rw [expandL_not hs]
  exact ⟨length_pos_ne (expF_ne _ _ _),h.le c⟩
 ·rw [expandL_syl hs]
  exact ⟨length_pos_ne (hangD_ne hs),by have:=hangD_len c;omega⟩
theorem flatD_app {T:Tab} (a b:List Int):flatD T (a ++ b)=flatD T a ++ flatD T b:=by unfold flatD;rw [List.flatMap_append]
theorem flatD_cons {T:Tab} (a:Int) (b:List Int):flatD T (a :: b)=expandL T a ++ flatD T b:=by unfold flatD;rw [List.flatMap_cons]
theorem flatD_len {T:Tab} (h:DecOk T):∀ l:List Int,l.length ≤ (flatD T l).length ∧ (flatD T l).length ≤ 18 * l.length:=by
 intro l
 induction l with
 | nil => simp [flatD]
 | cons a r ih =>
   have:=expandL_len h a
   rw [flatD_cons,List.length_append,List.length_cons];omega
theorem flatD_done {T:Tab}:∀ l:List Int,(∀ x ∈ l,findL T.decomps x=[] ∧ sylB x=false) → flatD T l=l:=by
 intro l
 induction l with
 | nil => intro _;rfl
 | cons a r ih =>
   intro h
   rw [flatD_cons,ih fun x hx => h x (List.mem_cons_of_mem _ hx),expandL_done (h a List.mem_cons_self).1 (h a List.mem_cons_self).2];rfl
theorem nfdL_mem {T:Tab} {l:List Int} {x:Int}:x ∈ nfdL T l ↔ x ∈ flatD T l:=can_mem
theorem nfdL_length {T:Tab} (l:List Int):(nfdL T l).length=(flatD T l).length:=can_length _ _
theorem fold_putO {f:Int → Int} {R:List Int} {x:Int}:∀ l:List Int,(putO f x l).foldr (putO f) R=putO f x (l.foldr (putO f) R):=by
 intro l
 induction l with
 | nil => rfl
 | cons y r ih =>
   by_cases h:0 < f y ∧ f y < f x
   ·rw [show putO f x (y :: r)=y :: putO f x r by rw [putO,if_pos h]]
    show putO f y ((putO f x r).foldr (putO f) R)=putO f x (putO f y (r.foldr (putO f) R))
    rw [ih]
    exact (putO_swap h.1 h.2 _).symm
   ·rw [show putO f x (y :: r)=x :: y :: r by rw [putO,if_neg h]];rfl
theorem can_fold {f:Int → Int}:∀ a b:List Int,can f (a ++ b)=a.foldr (putO f) (can f b):=by
 intro a b
 induction a with
 | nil => rfl
 | cons x r ih => show putO f x (can f (r ++ b))=_;rw [ih];rfl
theorem can_left {f:Int → Int} (a b:List Int):can f (can f a ++ b)=can f (a ++ b):=by
 rw [can_fold,can_fold]
 induction a with
 | nil => rfl
 | cons x r ih => show (putO f x (can f r)).foldr (putO f) (can f b)=putO f x _;rw [fold_putO,ih]
def nfdR (T:Tab) (accE:Int) (l:List Int):List Int × Int :=
 if accE ≠ 0 then ([],accE) else if 4096 < (flatD T l).length then ([],7) else (nfdL T l,0)
theorem nfdR_err {T:Tab} {e:Int} {l:List Int} (h:e ≠ 0):nfdR T e l=([],e):=by unfold nfdR;rw [if_pos h]
theorem nfdR_full {T:Tab} {l:List Int} (h:4096 < (flatD T l).length):nfdR T 0 l=([],7):=by unfold nfdR;rw [if_neg (by omega),if_pos h]
theorem nfdR_ok {T:Tab} {l:List Int} (h:(flatD T l).length ≤ 4096):nfdR T 0 l=(nfdL T l,0):=by unfold nfdR;rw [if_neg (by omega),if_neg (by omega)]
end Go.Proofs.YtjafpikjpipbkaaGreatDoor
namespace Go.Proofs.YtjafpikjpipbkaaGreatDoor
open Go.RowKit ND
theorem find_of_mem {D:List Mp} (hs:sortM D) {m:Mp} (hm:m ∈ D):findL D m.1=m.2:=by
 obtain ⟨k,hk⟩:=List.mem_iff_getElem?.1 hm
 refine findL_at (fun i a hi ha => ?_) hk rfl
 exact hs i k a m hi ha hk
structure CInv (T:Tab) (d:List Int) (i:Nat) (pre rest:List Int):Prop where
 eq:can T.classOf (flatD T (pre ++ rest))=can T.classOf (d.take i)
 st:pre=[] ∨ ∃ p s,pre=p ++ [s] ∧ T.classOf s=0
 nz:∀ y ∈ rest,0 < T.classOf y
 dn:∀ y ∈ rest,findL T.decomps y=[] ∧ sylB y=false
 le:∀ j q,i=j + 1 → d[j]?=some q → ∀ y ∈ rest,T.classOf y ≤ T.classOf q
 asc:∀ r,rest.getLast?=some r → ∀ y ∈ rest,T.classOf y ≤ T.classOf r
 sc:(pre ++ rest).all scalarB=true
 len:(pre ++ rest).length ≤ i
structure NfdIn (T:Tab) (d:List Int):Prop where
 srt:SortN T.classOf d.length d
 dn:∀ y ∈ d,findL T.decomps y=[] ∧ sylB y=false
 sc:d.all scalarB=true
section
variable {T:Tab} {d pre rest:List Int} {i:Nat} {c:Int}
theorem take_at (hc:d[i]?=some c):d.take (i + 1)=d.take i ++ [c]:=by
 obtain ⟨h1,e⟩:=List.getElem?_eq_some_iff.1 hc
 rw [List.take_succ_eq_append_getElem h1,e]
theorem CInv.eqApp (h:CInv T d i pre rest) (hc:d[i]?=some c):can T.classOf (flatD T (pre ++ rest) ++ [c])=can T.classOf (d.take (i + 1)):=by
 rw [take_at hc,← can_left (flatD T (pre ++ rest)),h.eq,can_left]
theorem flat_one (hd:NfdIn T d) (hc:d[i]?=some c):flatD T [c]=[c]:=flatD_done _ fun x hx => by
 simp only [List.mem_singleton] at hx;subst hx;exact hd.dn _ (List.mem_of_getElem? hc)
theorem scal_at (hd:NfdIn T d) (hc:d[i]?=some c):scalarB c=true:=(List.all_eq_true.1 hd.sc) _ (List.mem_of_getElem? hc)
theorem CInv.leC (h:CInv T d i pre rest) (hd:NfdIn T d) (hc:d[i]?=some c) (h0:0 < T.classOf c):∀ y ∈ rest,T.classOf y ≤ T.classOf c:=by
 intro y hy
 cases i with
 | zero =>
   have:=h.len
   rw [List.length_append] at this
   have:rest=[]:=List.eq_nil_of_length_eq_zero (by omega)
   rw [this] at hy;cases hy
 | succ j =>
   have hi:=(List.getElem?_eq_some_iff.1 hc).1
   have hq:d[j]?=some d[j]:=List.getElem?_eq_getElem (by omega)
   have h1:=h.le j _ rfl hq y hy
   have h2:=hd.srt j _ c (by omega) hq hc
   unfold okP at h2
   omega
theorem CInv.app1 (h:CInv T d i pre rest) (hd:NfdIn T d) (hc:d[i]?=some c) (h0:0 < T.classOf c):CInv T d (i + 1) pre (rest ++ [c]):=by
 have hle:=h.leC hd hc h0
 have hall:∀ y ∈ rest ++ [c],T.classOf y ≤ T.classOf c:=fun y hy => by
  simp only [List.mem_append,List.mem_singleton] at hy
  rcases hy with hy | rfl
  ·exact hle y hy
  ·omega
 refine ⟨?_,h.st,fun y hy => ?_,fun y hy => ?_,fun j q hj hq y hy => ?_,fun r hr y hy => ?_,?_,?_⟩
 ·rw [← List.append_assoc,flatD_app,flat_one hd hc];exact h.eqApp hc
 ·simp only [List.mem_append,List.mem_singleton] at hy
  rcases hy with hy | rfl
  ·exact h.nz y hy
  ·exact h0
 ·simp only [List.mem_append,List.mem_singleton] at hy
  rcases hy with hy | rfl
  ·exact h.dn y hy
  ·exact hd.dn _ (List.mem_of_getElem? hc)
 ·obtain rfl:i=j:=by omega
  rw [hc] at hq;cases hq
  exact hall y hy
 ·rw [List.getLast?_append] at hr
  simp at hr
  subst hr
  exact hall y hy
 ·rw [← List.append_assoc,List.all_append,h.sc]
  simp [scal_at hd hc]
 ·have:=h.len
  simp only [List.length_append,List.length_nil,List.length_cons] at this ⊢;omega
end
end Go.Proofs.YtjafpikjpipbkaaGreatDoor
