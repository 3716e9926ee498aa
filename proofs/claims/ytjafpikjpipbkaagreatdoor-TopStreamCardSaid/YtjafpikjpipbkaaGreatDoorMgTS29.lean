/-
  Merged texts: lemmas and walks that the last text of this claim leans on.
-/
import Derived.Test.YtjafpikjpipbkaaGreatDoorMgTS28
import Derived.Test.YtjafpikjpipbkaaGreatDoorMgTS18
import Derived.Test.YtjafpikjpipbkaaGreatDoorMgTS11
import Derived.Test.YtjafpikjpipbkaaGreatDoorMgTS20
import Derived.Test.YtjafpikjpipbkaaGreatDoorMgTS8
import Derived.Test.YtjafpikjpipbkaaGreatDoorMgTS4
import Derived.Test.YtjafpikjpipbkaaGreatDoorMgTS12
import Derived.Test.YtjafpikjpipbkaaGreatDoorMgTS27
set_option maxRecDepth 100000
set_option maxHeartbeats 40000000
namespace Go.Proofs.YtjafpikjpipbkaaGreatDoor
open Go.RowKit ND
structure OkP (T:Tab) (s:ByteArray) (p q n:List Int):Prop where
 chk:T.check=0
 ne:s.toList.isEmpty=false
 dec:∃ a,decodeL s.data.toList=(p,a,0)
 map:∃ a,mapR T p=(q,a,0)
 nfc:nfcR T q=(n,0)
def GoodP (T:Tab) (n:List Int):Prop:=(∀ y ∈ splitL n,labI y=false ∧ GoodV T y) ∧ (domR T (splitL n)).2=0
def RetProc (w:World) (T:Tab) (s:ByteArray) (e:Ending) (w':World):Prop :=
 ∃ (v:Value) (a k:Int),e=.returned (.tuple #[v,.int .i64 a,.int .i64 k]) ∧ Below w.heap.size w w' ∧
  (k=0 → ∃ p q n ls,OkP T s p q n ∧ Lists w' w'.heap.size v ls ∧ ((∀ y ∈ splitL n,labI y=false) → ls=splitL n)) ∧
  (∀ p q n,OkP T s p q n → GoodP T n → k=0)
theorem RetProc.err {w w':World} {T:Tab} {s:ByteArray} {a k:Int} (hk:k ≠ 0) (h:∀ p q n,OkP T s p q n → GoodP T n → False) (hb:Below w.heap.size w w'):RetProc w T s (.returned (.tuple #[.slice none 0 0,.int .i64 a,.int .i64 k])) w' :=
 ⟨_,_,_,rfl,hb,fun h0 => absurd h0 hk,fun p q n h1 h2 => (h p q n h1 h2).elim⟩
theorem fold_ne:∀ (l:List Int) (o:List (List Int)),o ≠ [] → l.foldl splitStep o ≠ []
 | [],_,h => h
 | c :: l,o,_ => fold_ne l _ (splitStep_ne o c)
theorem setL_same {α:Type} {l:List α} {k:Nat} {y:α} (h:l[k]?=some y):l.set k y=l:=by
 apply List.ext_getElem?
 intro j
 by_cases hj:k=j
 ·subst hj
  rw [List.getElem?_set_self (List.getElem?_eq_some_iff.1 h).1,h]
 ·rw [List.getElem?_set_ne hj]
theorem splitL_pos (l:List Int):0 < (splitL l).length:=List.length_pos_iff.2 (fold_ne l [[]] (by simp))
theorem RetLbI.out {w V:World} {u x:Value} {xs:List Int} {I:Bool} {P:Prop} {k:Int} (h:RetLbI w u xs I P (.returned (.tuple #[x,.int .i64 k])) V) :
  ∃ ys:List Int,((x=u ∧ ys=xs) ∨ V.ownsRow w.heap.size 3 1 x ys.length (ys.map (Value.int .i64))) ∧ (I=false → k=0 → x=u ∧ ys=xs) ∧ (I=false → P → k=0) ∧ Below w.heap.size w V:=by
 obtain ⟨v,ys,k',he,h1,_,h3,h4,h5⟩:=h
 injection he with he
 injection he with he
 injection he with he
 injection he with e1 e2
 injection e2 with e2 _
 injection e2 with _ e2
 subst e1;subst e2
 exact ⟨ys,h1,h3,h4,h5⟩
theorem nfcR_len {T:Tab} {q n:List Int} (h:nfcR T q=(n,0)):n.length ≤ 4096:=by
 unfold nfcR at h
 split at h
 ·rename_i h0
  obtain ⟨_,h2,_⟩:=nfdR_zero h0
  cases h
  exact Nat.le_trans (nfcP_len q) h2
 ·rename_i h0
  injection h with _ h2
  exact absurd h2 h0
theorem process_any (t:Tv) (T:Tab) (s:ByteArray) (w:World) (ht:TabR w w.heap.size t T) (hg:Glob w) :
  Calls Tryz.prog 6 #[t.val,.string s] w (RetProc w T s):=by
 have HB0:Hid (Below w.heap.size w (w.alloc (.cells t.cells 26))):=Lib.hid ((Below.refl _ _).alloc (Nat.le_refl _) _)
 have HT:Hid (Tbl (w.alloc (.cells t.cells 26)) w.heap.size t T):=Lib.hid ⟨Blk.new _ _ _,ht.later HB0.out⟩
 have HG:=Lib.hid (hg.later HB0.out)
 have HK:=Lib.hid (check_table t T _ HT.out.2 HG.out)
 clear ht hg
 by_cases hck:T.check=0
 case neg =>
  have HN:Hid (∀ p q n,OkP T s p q n → GoodP T n → False):=Lib.hid (fun p q n h _ => hck h.chk)
  have y1:(T.check != 0)=true:=by simpa using hck
  generalize T.check=ck at *
  go_enter Tryz.func6,Tryz.ntmps6
  go_upto_region 1 with fail
  generalize w.alloc (.cells t.cells 26)=w1 at *
  obtain ⟨x0,x1,x2,x3,x4,x5,x6,x7,x8,x9,x10,x11⟩:=HT.out.1.tab
  go_wp2_with (go_at_call 29;refine HK.out.mono ?_;rintro e w2 ⟨rfl,b2⟩)
  go_ret3
  exact RetProc.err (by decide) HN.out (below_next HB0.out b2)
 rw [hck] at HK
 cases hemp:s.toList.isEmpty
 case true =>
  have HN:Hid (∀ p q n,OkP T s p q n → GoodP T n → False):=Lib.hid (fun p q n h _ => by have:=h.ne;rw [hemp] at this;cases this)
  go_enter Tryz.func6,Tryz.ntmps6
  go_upto_region 1 with fail
  generalize w.alloc (.cells t.cells 26)=w1 at *
  obtain ⟨x0,x1,x2,x3,x4,x5,x6,x7,x8,x9,x10,x11⟩:=HT.out.1.tab
  go_wp2_with (go_at_call 29;refine HK.out.mono ?_;rintro e w2 ⟨rfl,b2⟩)
  go_ret3
  exact RetProc.err (by decide) HN.out (below_next HB0.out b2)
 have HD:=Lib.hid (fun W => dec_any s W)
 obtain ⟨p,pa,pe,hp⟩:∃ p pa pe,decodeL s.data.toList=(p,pa,pe):=⟨_,_,_,rfl⟩
 rw [hp] at HD
 have HPE:=Lib.hid hp
 have HNE:=Lib.hid hemp
 have HCK:=Lib.hid hck
 clear hp hck
 have HMP:=Lib.hid (fun u W (h:TabR W W.heap.size t T) (hg:Glob W) (hu:Ints W W.heap.size .i64 u p) => map_any t T u p W h hg hu)
 obtain ⟨q,qa,qe,hq⟩:∃ q qa qe,mapR T p=(q,qa,qe):=⟨_,_,_,rfl⟩
 rw [hq] at HMP
 have HQE:=Lib.hid hq
 clear hq
 have HNF:=Lib.hid (fun u W (h:TabR W W.heap.size t T) (hg:Glob W) (hu:Ints W W.heap.size .i64 u q) => nfc8_any t T u q W h hg hu)
 obtain ⟨n,ne,hn⟩:∃ n ne,nfcR T q=(n,ne):=⟨_,_,rfl⟩
 rw [hn] at HNF
 have HNFE:=Lib.hid hn
 clear hn
 go_enter Tryz.func6,Tryz.ntmps6
 go_upto_region 1 with fail
 generalize w.alloc (.cells t.cells 26)=w1 at *
 obtain ⟨x0,x1,x2,x3,x4,x5,x6,x7,x8,x9,x10,x11⟩:=HT.out.1.tab
 go_upto_region 5 with (go_at_call 29;refine HK.out.mono ?_;rintro e w2 ⟨rfl,b2⟩)
 clear x0 x1 x2 x3 x4 x5 x6 x7 x8 x9 x10 x11 HK
 have HX:=Lib.hid (HD.out w2)
 go_upto_region 6 with (go_at_call 8;refine HX.out.mono ?_;rintro e w3 ⟨v3,rfl,hi3,b3⟩)
 have b13:=below_next b2 b3
 clear HX HD b2 b3
 by_cases hpe:pe=0
 case neg =>
  have y1:(((pe:Nat):Int) != 0)=true:=by simp;omega
  have HN:Hid (∀ p q n,OkP T s p q n → GoodP T n → False):=Lib.hid (fun p q n h _ => by obtain ⟨_,this⟩:=h.dec;rw [HPE.out] at this;injection this with _ h2;injection h2 with _ h3;exact hpe h3)
  have HZ:Hid (((pe:Nat):Int) ≠ 0):=Lib.hid (by omega)
  go_wp2_with fail
  go_ret3
  exact RetProc.err HZ.out HN.out (below_next HB0.out b13)
 have y1:(((pe:Nat):Int) != 0)=false:=by simp [hpe]
 have HI3:=Lib.hid hi3
 obtain ⟨A3,c3,rfl,_⟩:=id hi3
 clear hi3
 obtain ⟨x0,x1,x2,x3,x4,x5,x6,x7,x8,x9,x10,x11⟩:=(HT.out.later b13).1.tab
 have HX:=Lib.hid (HMP.out _ w3 (HT.out.later b13).2 (HG.out.later b13) HI3.out)
 go_upto_region 9 with (go_at_call 9;refine HX.out.mono ?_;rintro e w4 ⟨v4,rfl,ho4,b4⟩)
 have b14:=below_next b13 b4
 have HI4:=Lib.hid (Ints.of_own ho4)
 obtain ⟨A4,c4,rfl,_⟩:=id (Ints.of_own ho4)
 clear x0 x1 x2 x3 x4 x5 x6 x7 x8 x9 x10 x11 HX HMP HI3 b13 b4 ho4
 by_cases hqe:qe=0
 case neg =>
  have y2:(qe != 0)=true:=by simpa using hqe
  have HZ:=Lib.hid hqe
  have HN:Hid (∀ p q n,OkP T s p q n → GoodP T n → False):=Lib.hid (fun p' q' n' h _ => by
   obtain ⟨_,h1⟩:=h.dec
   rw [HPE.out] at h1
   injection h1 with h1 _
   obtain ⟨_,h2⟩:=h.map
   rw [← h1,HQE.out] at h2
   injection h2 with _ h3
   injection h3 with _ h4
   exact hqe h4)
  go_wp2_with fail
  go_ret3
  exact RetProc.err HZ.out HN.out (below_next HB0.out b14)
 have y2:(qe != 0)=false:=by simp [hqe]
 obtain ⟨x0,x1,x2,x3,x4,x5,x6,x7,x8,x9,x10,x11⟩:=(HT.out.later b14).1.tab
 have HX:=Lib.hid (HNF.out _ w4 (HT.out.later b14).2 (HG.out.later b14) HI4.out)
 go_upto_region 12 with (go_at_call 10;refine HX.out.mono ?_;rintro e w5 ⟨v5,rfl,ho5,b5⟩)
 have b15:=below_next b14 b5
 have HI5:=Lib.hid (Ints.of_own ho5)
 obtain ⟨A5,c5,rfl,_⟩:=id (Ints.of_own ho5)
 clear x0 x1 x2 x3 x4 x5 x6 x7 x8 x9 x10 x11 HX HNF HI4 b14 b5 ho5
 have HCOK:Hid (∀ p' q' n',OkP T s p' q' n' → n'=n):=Lib.hid (fun p' q' n' h => by
   obtain ⟨_,h1⟩:=h.dec
   rw [HPE.out] at h1
   injection h1 with h1 _
   obtain ⟨_,h2⟩:=h.map
   rw [← h1,HQE.out] at h2
   injection h2 with h2 _
   have h3:=h.nfc
   rw [← h2,HNFE.out] at h3
   injection h3 with h3 _
   exact h3.symm)
 by_cases hne:ne=0
 case neg =>
  have y3:(ne != 0)=true:=by simpa using hne
  have HZ:=Lib.hid hne
  have HN:Hid (∀ p q n,OkP T s p q n → GoodP T n → False):=Lib.hid (fun p' q' n' h _ => by
   obtain ⟨_,h1⟩:=h.dec
   rw [HPE.out] at h1
   injection h1 with h1 _
   obtain ⟨_,h2⟩:=h.map
   rw [← h1,HQE.out] at h2
   injection h2 with h2 _
   have h3:=h.nfc
   rw [← h2,HNFE.out] at h3
   injection h3 with _ h4
   exact hne h4)
  go_wp2_with fail
  go_ret3
  exact RetProc.err HZ.out HN.out (below_next HB0.out b15)
 have y3:(ne != 0)=false:=by simp [hne]
 have HOK:Hid (OkP T s p q n):=Lib.hid ⟨HCK.out,HNE.out,⟨pa,by rw [HPE.out,hpe]⟩,⟨qa,by rw [HQE.out,hqe]⟩,by rw [HNFE.out,hne]⟩
 have hnl:n.length ≤ 4096:=nfcR_len HOK.out.nfc
 have HX:=Lib.hid (labels_any _ n w5 HI5.out (by omega))
 obtain ⟨S,hS⟩:∃ S,S=splitL n:=⟨_,rfl⟩
 have hS0:0 < S.length:=by rw [hS];exact splitL_pos n
 have HSE:=Lib.hid hS
 rw [← hS] at HX
 clear hS hnl HCK HNE HPE HQE HNFE
 go_upto_region 15 with (go_at_call 15;refine HX.out.mono ?_;rintro e w6 ⟨v6,rfl,hl6,b6⟩)
 have b16:=below_next b15 b6
 obtain ⟨lb,c6,_,_,rfl,hlb1,_⟩:=hl6.get (List.getElem?_eq_getElem hS0)
 have hb15:=b15.size
 have hlb:w1.heap.size ≤ lb:=by omega
 have hB0:=HB0.out.size
 have htb:w.heap.size < w1.heap.size:=HT.out.1.lt
 have hSl:S.length ≤ 9223372036854775807:=by
  obtain ⟨_,_,_,h1,h2,_⟩:=hl6.lists
  unfold maxLen at h2;omega
 have HL6:=Lib.hid hl6
 clear HX HI5 b15 b6 hl6 hlb1
 go_wp2_with fail
 go_loopw [53] (fun ii wr => ∃ (k:Nat) (yss:List (List Int)),k ≤ S.length ∧ ii=.int .i64 k ∧ yss.length=S.length ∧ Hid (LRow wr w5.heap.size (.slice (some ⟨lb,0,none⟩) S.length c6) yss) ∧ Hid ((∀ y ∈ S,labI y=false) → yss=S) ∧ Below w1.heap.size w1 wr) (fun ii _ => S.length - (intOf ii).toNat)
 case atStart => exact ⟨0,S,by omega,rfl,rfl,HL6,Lib.hid (fun _ => rfl),b16⟩
 case round =>
  obtain ⟨k,yss,hk,rfl,hyl,HLR,HYS,hbel⟩:=hrel
  have HB:=Lib.hid (below_next HB0.out hbel)
  by_cases hlt:k < S.length
  ·obtain ⟨ys,hys⟩:∃ ys,yss[k]?=some ys:=⟨_,List.getElem?_eq_getElem (by omega)⟩
   obtain ⟨g,cg,A,c',hv,hg1,hg2,hce,hfr,hin,hdis⟩:=HLR.out.get hys
   obtain rfl:lb=g:=by
    injection hv with h1 _ _
    injection h1 with h1
    injection h1 with h1 _ _
   have k0:(0:Int) ≤ (k:Int):=by omega
   have k1:(k:Int) < (S.length:Int):=by omega
   have hbd:=hbel.drew
   have HL:=Lib.hid (label_any t T _ ys wr.drew (HT.out.later hbd).2 (HG.out.later hbd) (hin.later ((Below.refl _ wr).drew)))
   go_upto_region 18 with fail
   refine wp_region_as (ops:=opsP) (by kernel_rfl) ?_
   refine proc_region (u:=.slice A ys.length c') (t:=t) (tb:=w.heap.size) (lb:=lb) (n:=S.length) (c:=c6) (i:=k) (Phi:=fun x k2 V => RetLb wr.drew T (.slice A ys.length c') ys (.returned (.tuple #[x,.int .i64 k2])) V) rfl rfl rfl rfl rfl hlt (HT.out.later hbel).1 ?_ (by omega) hce ?_ ?_ ?_
   ·intro x k2 V hp
    obtain ⟨_,_,_,_,hbv⟩:=RetLbI.out hp
    exact ((HT.out.later hbd).later hbv).1
   ·refine HL.out.mono ?_
    rintro e V hp
    obtain ⟨v,_,k2,he,_⟩:=id hp
    exact ⟨v,k2,he,by subst he;exact hp⟩
   ·intro x k2 V hp
    obtain ⟨ys',hd1,_,_,hbv⟩:=RetLbI.out hp
    refine ⟨?_,⟨_,(hbv.cell (p:=⟨lb,k,none⟩) hg2).trans hce⟩,?_⟩
    ·rcases hd1 with ⟨rfl,_⟩ | ho
     ·exact ⟨_,_,_,rfl⟩
     ·obtain ⟨A',c'',rfl⟩:=ownsRow_shape ho
      exact ⟨_,_,_,rfl⟩
    ·show World.frozen? V ⟨lb,k,none⟩=false
     rw [← hfr]
     unfold World.frozen?
     rw [hbv.block lb hg2]
     rfl
   intro a' x k2 V hp hs hd ho h9
   obtain ⟨fa,hfa,ha⟩:=act_fun hs hd
   have ea0:=(hfa 0 (by decide)).symm.trans (ho 0 (by decide) (by kernel_rfl))
   simp only [List.getElem?_toArray,List.getElem?_cons_zero,Option.some.injEq] at ea0
   have ea1:=(hfa 1 (by decide)).symm.trans (ho 1 (by decide) (by kernel_rfl))
   simp only [List.getElem?_toArray,List.getElem?_cons_zero,List.getElem?_cons_succ,Option.some.injEq] at ea1
   have ea2:=(hfa 2 (by decide)).symm.trans (ho 2 (by decide) (by kernel_rfl))
   simp only [List.getElem?_toArray,List.getElem?_cons_zero,List.getElem?_cons_succ,Option.some.injEq] at ea2
   have ea3:=(hfa 3 (by decide)).symm.trans (ho 3 (by decide) (by kernel_rfl))
   simp only [List.getElem?_toArray,List.getElem?_cons_zero,List.getElem?_cons_succ,Option.some.injEq] at ea3
   have ea4:=(hfa 4 (by decide)).symm.trans (ho 4 (by decide) (by kernel_rfl))
   simp only [List.getElem?_toArray,List.getElem?_cons_zero,List.getElem?_cons_succ,Option.some.injEq] at ea4
   have ea5:=(hfa 5 (by decide)).symm.trans (ho 5 (by decide) (by kernel_rfl))
   simp only [List.getElem?_toArray,List.getElem?_cons_zero,List.getElem?_cons_succ,Option.some.injEq] at ea5
   have ea6:=(hfa 6 (by decide)).symm.trans (ho 6 (by decide) (by kernel_rfl))
   simp only [List.getElem?_toArray,List.getElem?_cons_zero,List.getElem?_cons_succ,Option.some.injEq] at ea6
   have ea7:=(hfa 7 (by decide)).symm.trans (ho 7 (by decide) (by kernel_rfl))
   simp only [List.getElem?_toArray,List.getElem?_cons_zero,List.getElem?_cons_succ,Option.some.injEq] at ea7
   have ea8:=(hfa 8 (by decide)).symm.trans (ho 8 (by decide) (by kernel_rfl))
   simp only [List.getElem?_toArray,List.getElem?_cons_zero,List.getElem?_cons_succ,Option.some.injEq] at ea8
   have ea10:=(hfa 10 (by decide)).symm.trans (ho 10 (by decide) (by kernel_rfl))
   simp only [List.getElem?_toArray,List.getElem?_cons_zero,List.getElem?_cons_succ,Option.some.injEq] at ea10
   have ea11:=(hfa 11 (by decide)).symm.trans (ho 11 (by decide) (by kernel_rfl))
   simp only [List.getElem?_toArray,List.getElem?_cons_zero,List.getElem?_cons_succ,Option.some.injEq] at ea11
   have ea12:=(hfa 12 (by decide)).symm.trans (ho 12 (by decide) (by kernel_rfl))
   simp only [List.getElem?_toArray,List.getElem?_cons_zero,List.getElem?_cons_succ,Option.some.injEq] at ea12
   have ea13:=(hfa 13 (by decide)).symm.trans (ho 13 (by decide) (by kernel_rfl))
   simp only [List.getElem?_toArray,List.getElem?_cons_zero,List.getElem?_cons_succ,Option.some.injEq] at ea13
   have ea14:=(hfa 14 (by decide)).symm.trans (ho 14 (by decide) (by kernel_rfl))
   simp only [List.getElem?_toArray,List.getElem?_cons_zero,List.getElem?_cons_succ,Option.some.injEq] at ea14
   have ea15:=(hfa 15 (by decide)).symm.trans (ho 15 (by decide) (by kernel_rfl))
   simp only [List.getElem?_toArray,List.getElem?_cons_zero,List.getElem?_cons_succ,Option.some.injEq] at ea15
   have ea16:=(hfa 16 (by decide)).symm.trans (ho 16 (by decide) (by kernel_rfl))
   simp only [List.getElem?_toArray,List.getElem?_cons_zero,List.getElem?_cons_succ,Option.some.injEq] at ea16
   have ea17:=(hfa 17 (by decide)).symm.trans (ho 17 (by decide) (by kernel_rfl))
   simp only [List.getElem?_toArray,List.getElem?_cons_zero,List.getElem?_cons_succ,Option.some.injEq] at ea17
   have ea18:=(hfa 18 (by decide)).symm.trans (ho 18 (by decide) (by kernel_rfl))
   simp only [List.getElem?_toArray,List.getElem?_cons_zero,List.getElem?_cons_succ,Option.some.injEq] at ea18
   have ea19:=(hfa 19 (by decide)).symm.trans (ho 19 (by decide) (by kernel_rfl))
   simp only [List.getElem?_toArray,List.getElem?_cons_zero,List.getElem?_cons_succ,Option.some.injEq] at ea19
   have ea20:=(hfa 20 (by decide)).symm.trans (ho 20 (by decide) (by kernel_rfl))
   simp only [List.getElem?_toArray,List.getElem?_cons_zero,List.getElem?_cons_succ,Option.some.injEq] at ea20
   have ea21:=(hfa 21 (by decide)).symm.trans (ho 21 (by decide) (by kernel_rfl))
   simp only [List.getElem?_toArray,List.getElem?_cons_zero,List.getElem?_cons_succ,Option.some.injEq] at ea21
   have ea22:=(hfa 22 (by decide)).symm.trans (ho 22 (by decide) (by kernel_rfl))
   simp only [List.getElem?_toArray,List.getElem?_cons_zero,List.getElem?_cons_succ,Option.some.injEq] at ea22
   have ea23:=(hfa 23 (by decide)).symm.trans (ho 23 (by decide) (by kernel_rfl))
   simp only [List.getElem?_toArray,List.getElem?_cons_zero,List.getElem?_cons_succ,Option.some.injEq] at ea23
   have ea24:=(hfa 24 (by decide)).symm.trans (ho 24 (by decide) (by kernel_rfl))
   simp only [List.getElem?_toArray,List.getElem?_cons_zero,List.getElem?_cons_succ,Option.some.injEq] at ea24
   have ea25:=(hfa 25 (by decide)).symm.trans (ho 25 (by decide) (by kernel_rfl))
   simp only [List.getElem?_toArray,List.getElem?_cons_zero,List.getElem?_cons_succ,Option.some.injEq] at ea25
   have ea26:=(hfa 26 (by decide)).symm.trans (ho 26 (by decide) (by kernel_rfl))
   simp only [List.getElem?_toArray,List.getElem?_cons_zero,List.getElem?_cons_succ,Option.some.injEq] at ea26
   have ea27:=(hfa 27 (by decide)).symm.trans (ho 27 (by decide) (by kernel_rfl))
   simp only [List.getElem?_toArray,List.getElem?_cons_zero,List.getElem?_cons_succ,Option.some.injEq] at ea27
   have ea28:=(hfa 28 (by decide)).symm.trans (ho 28 (by decide) (by kernel_rfl))
   simp only [List.getElem?_toArray,List.getElem?_cons_zero,List.getElem?_cons_succ,Option.some.injEq] at ea28
   have ea29:=(hfa 29 (by decide)).symm.trans (ho 29 (by decide) (by kernel_rfl))
   simp only [List.getElem?_toArray,List.getElem?_cons_zero,List.getElem?_cons_succ,Option.some.injEq] at ea29
   have ea30:=(hfa 30 (by decide)).symm.trans (ho 30 (by decide) (by kernel_rfl))
   simp only [List.getElem?_toArray,List.getElem?_cons_zero,List.getElem?_cons_succ,Option.some.injEq] at ea30
   have ea31:=(hfa 31 (by decide)).symm.trans (ho 31 (by decide) (by kernel_rfl))
   simp only [List.getElem?_toArray,List.getElem?_cons_zero,List.getElem?_cons_succ,Option.some.injEq] at ea31
   have ea32:=(hfa 32 (by decide)).symm.trans (ho 32 (by decide) (by kernel_rfl))
   simp only [List.getElem?_toArray,List.getElem?_cons_zero,List.getElem?_cons_succ,Option.some.injEq] at ea32
   have ea33:=(hfa 33 (by decide)).symm.trans (ho 33 (by decide) (by kernel_rfl))
   simp only [List.getElem?_toArray,List.getElem?_cons_zero,List.getElem?_cons_succ,Option.some.injEq] at ea33
   have ea34:=(hfa 34 (by decide)).symm.trans (ho 34 (by decide) (by kernel_rfl))
   simp only [List.getElem?_toArray,List.getElem?_cons_zero,List.getElem?_cons_succ,Option.some.injEq] at ea34
   have ea35:=(hfa 35 (by decide)).symm.trans (ho 35 (by decide) (by kernel_rfl))
   simp only [List.getElem?_toArray,List.getElem?_cons_zero,List.getElem?_cons_succ,Option.some.injEq] at ea35
   have ea36:=(hfa 36 (by decide)).symm.trans (ho 36 (by decide) (by kernel_rfl))
   simp only [List.getElem?_toArray,List.getElem?_cons_zero,List.getElem?_cons_succ,Option.some.injEq] at ea36
   have ea37:=(hfa 37 (by decide)).symm.trans (ho 37 (by decide) (by kernel_rfl))
   simp only [List.getElem?_toArray,List.getElem?_cons_zero,List.getElem?_cons_succ,Option.some.injEq] at ea37
   have ea38:=(hfa 38 (by decide)).symm.trans (ho 38 (by decide) (by kernel_rfl))
   simp only [List.getElem?_toArray,List.getElem?_cons_zero,List.getElem?_cons_succ,Option.some.injEq] at ea38
   have ea39:=(hfa 39 (by decide)).symm.trans (ho 39 (by decide) (by kernel_rfl))
   simp only [List.getElem?_toArray,List.getElem?_cons_zero,List.getElem?_cons_succ,Option.some.injEq] at ea39
   have ea40:=(hfa 40 (by decide)).symm.trans (ho 40 (by decide) (by kernel_rfl))
   simp only [List.getElem?_toArray,List.getElem?_cons_zero,List.getElem?_cons_succ,Option.some.injEq] at ea40
   have ea41:=(hfa 41 (by decide)).symm.trans (ho 41 (by decide) (by kernel_rfl))
   simp only [List.getElem?_toArray,List.getElem?_cons_zero,List.getElem?_cons_succ,Option.some.injEq] at ea41
   have ea42:=(hfa 42 (by decide)).symm.trans (ho 42 (by decide) (by kernel_rfl))
   simp only [List.getElem?_toArray,List.getElem?_cons_zero,List.getElem?_cons_succ,Option.some.injEq] at ea42
   have ea43:=(hfa 43 (by decide)).symm.trans (ho 43 (by decide) (by kernel_rfl))
   simp only [List.getElem?_toArray,List.getElem?_cons_zero,List.getElem?_cons_succ,Option.some.injEq] at ea43
   have ea44:=(hfa 44 (by decide)).symm.trans (ho 44 (by decide) (by kernel_rfl))
   simp only [List.getElem?_toArray,List.getElem?_cons_zero,List.getElem?_cons_succ,Option.some.injEq] at ea44
   have ea45:=(hfa 45 (by decide)).symm.trans (ho 45 (by decide) (by kernel_rfl))
   simp only [List.getElem?_toArray,List.getElem?_cons_zero,List.getElem?_cons_succ,Option.some.injEq] at ea45
   have ea46:=(hfa 46 (by decide)).symm.trans (ho 46 (by decide) (by kernel_rfl))
   simp only [List.getElem?_toArray,List.getElem?_cons_zero,List.getElem?_cons_succ,Option.some.injEq] at ea46
   have ea47:=(hfa 47 (by decide)).symm.trans (ho 47 (by decide) (by kernel_rfl))
   simp only [List.getElem?_toArray,List.getElem?_cons_zero,List.getElem?_cons_succ,Option.some.injEq] at ea47
   have ea48:=(hfa 48 (by decide)).symm.trans (ho 48 (by decide) (by kernel_rfl))
   simp only [List.getElem?_toArray,List.getElem?_cons_zero,List.getElem?_cons_succ,Option.some.injEq] at ea48
   have ea49:=(hfa 49 (by decide)).symm.trans (ho 49 (by decide) (by kernel_rfl))
   simp only [List.getElem?_toArray,List.getElem?_cons_zero,List.getElem?_cons_succ,Option.some.injEq] at ea49
   have ea50:=(hfa 50 (by decide)).symm.trans (ho 50 (by decide) (by kernel_rfl))
   simp only [List.getElem?_toArray,List.getElem?_cons_zero,List.getElem?_cons_succ,Option.some.injEq] at ea50
   have ea51:=(hfa 51 (by decide)).symm.trans (ho 51 (by decide) (by kernel_rfl))
   simp only [List.getElem?_toArray,List.getElem?_cons_zero,List.getElem?_cons_succ,Option.some.injEq] at ea51
   have ea52:=(hfa 52 (by decide)).symm.trans (ho 52 (by decide) (by kernel_rfl))
   simp only [List.getElem?_toArray,List.getElem?_cons_zero,List.getElem?_cons_succ,Option.some.injEq] at ea52
   have ea53:=(hfa 53 (by decide)).symm.trans (ho 53 (by decide) (by kernel_rfl))
   simp only [List.getElem?_toArray,List.getElem?_cons_zero,List.getElem?_cons_succ,Option.some.injEq] at ea53
   have ea54:=(hfa 54 (by decide)).symm.trans (ho 54 (by decide) (by kernel_rfl))
   simp only [List.getElem?_toArray,List.getElem?_cons_zero,List.getElem?_cons_succ,Option.some.injEq] at ea54
   have ea55:=(hfa 55 (by decide)).symm.trans (ho 55 (by decide) (by kernel_rfl))
   simp only [List.getElem?_toArray,List.getElem?_cons_zero,List.getElem?_cons_succ,Option.some.injEq] at ea55
   have ea68:=(hfa 68 (by decide)).symm.trans (ho 68 (by decide) (by kernel_rfl))
   simp only [List.getElem?_toArray,List.getElem?_cons_zero,List.getElem?_cons_succ,Option.some.injEq] at ea68
   have ea69:=(hfa 69 (by decide)).symm.trans (ho 69 (by decide) (by kernel_rfl))
   simp only [List.getElem?_toArray,List.getElem?_cons_zero,List.getElem?_cons_succ,Option.some.injEq] at ea69
   have ea70:=(hfa 70 (by decide)).symm.trans (ho 70 (by decide) (by kernel_rfl))
   simp only [List.getElem?_toArray,List.getElem?_cons_zero,List.getElem?_cons_succ,Option.some.injEq] at ea70
   have ea71:=(hfa 71 (by decide)).symm.trans (ho 71 (by decide) (by kernel_rfl))
   simp only [List.getElem?_toArray,List.getElem?_cons_zero,List.getElem?_cons_succ,Option.some.injEq] at ea71
   have ea72:=(hfa 72 (by decide)).symm.trans (ho 72 (by decide) (by kernel_rfl))
   simp only [List.getElem?_toArray,List.getElem?_cons_zero,List.getElem?_cons_succ,Option.some.injEq] at ea72
   have ea73:=(hfa 73 (by decide)).symm.trans (ho 73 (by decide) (by kernel_rfl))
   simp only [List.getElem?_toArray,List.getElem?_cons_zero,List.getElem?_cons_succ,Option.some.injEq] at ea73
   have ea74:=(hfa 74 (by decide)).symm.trans (ho 74 (by decide) (by kernel_rfl))
   simp only [List.getElem?_toArray,List.getElem?_cons_zero,List.getElem?_cons_succ,Option.some.injEq] at ea74
   have ea75:=(hfa 75 (by decide)).symm.trans (ho 75 (by decide) (by kernel_rfl))
   simp only [List.getElem?_toArray,List.getElem?_cons_zero,List.getElem?_cons_succ,Option.some.injEq] at ea75
   have ea76:=(hfa 76 (by decide)).symm.trans (ho 76 (by decide) (by kernel_rfl))
   simp only [List.getElem?_toArray,List.getElem?_cons_zero,List.getElem?_cons_succ,Option.some.injEq] at ea76
   have ea77:=(hfa 77 (by decide)).symm.trans (ho 77 (by decide) (by kernel_rfl))
   simp only [List.getElem?_toArray,List.getElem?_cons_zero,List.getElem?_cons_succ,Option.some.injEq] at ea77
   have ea78:=(hfa 78 (by decide)).symm.trans (ho 78 (by decide) (by kernel_rfl))
   simp only [List.getElem?_toArray,List.getElem?_cons_zero,List.getElem?_cons_succ,Option.some.injEq] at ea78
   have ea79:=(hfa 79 (by decide)).symm.trans (ho 79 (by decide) (by kernel_rfl))
   simp only [List.getElem?_toArray,List.getElem?_cons_zero,List.getElem?_cons_succ,Option.some.injEq] at ea79
   have ea80:=(hfa 80 (by decide)).symm.trans (ho 80 (by decide) (by kernel_rfl))
   simp only [List.getElem?_toArray,List.getElem?_cons_zero,List.getElem?_cons_succ,Option.some.injEq] at ea80
   have ea81:=(hfa 81 (by decide)).symm.trans (ho 81 (by decide) (by kernel_rfl))
   simp only [List.getElem?_toArray,List.getElem?_cons_zero,List.getElem?_cons_succ,Option.some.injEq] at ea81
   have ea82:=(hfa 82 (by decide)).symm.trans (ho 82 (by decide) (by kernel_rfl))
   simp only [List.getElem?_toArray,List.getElem?_cons_zero,List.getElem?_cons_succ,Option.some.injEq] at ea82
   have ea83:=(hfa 83 (by decide)).symm.trans (ho 83 (by decide) (by kernel_rfl))
   simp only [List.getElem?_toArray,List.getElem?_cons_zero,List.getElem?_cons_succ,Option.some.injEq] at ea83
   have ea9:fa 9=.int .i64 k2:=Option.some.inj ((hfa 9 (by decide)).symm.trans (h9))
   have ha2:a'=⟨#[fa 0,fa 1,fa 2,fa 3,fa 4,fa 5,fa 6,fa 7,fa 8,fa 9,fa 10,fa 11,fa 12,fa 13,fa 14,fa 15,fa 16,fa 17,fa 18,fa 19,fa 20,fa 21,fa 22,fa 23,fa 24,fa 25,fa 26,fa 27,fa 28,fa 29,fa 30,fa 31,fa 32,fa 33,fa 34,fa 35,fa 36,fa 37,fa 38,fa 39,fa 40,fa 41,fa 42,fa 43,fa 44,fa 45,fa 46,fa 47,fa 48,fa 49,fa 50,fa 51,fa 52,fa 53,fa 54,fa 55,fa 56,fa 57,fa 58,fa 59,fa 60,fa 61,fa 62,fa 63,fa 64,fa 65,fa 66,fa 67,fa 68,fa 69,fa 70,fa 71,fa 72,fa 73,fa 74,fa 75,fa 76,fa 77,fa 78,fa 79,fa 80,fa 81,fa 82,fa 83],[]⟩:=ha.trans (by kernel_rfl)
   rw [ea0,ea1,ea2,ea3,ea4,ea5,ea6,ea7,ea8,ea9,ea10,ea11,ea12,ea13,ea14,ea15,ea16,ea17,ea18,ea19,ea20,ea21,ea22,ea23,ea24,ea25,ea26,ea27,ea28,ea29,ea30,ea31,ea32,ea33,ea34,ea35,ea36,ea37,ea38,ea39,ea40,ea41,ea42,ea43,ea44,ea45,ea46,ea47,ea48,ea49,ea50,ea51,ea52,ea53,ea54,ea55,ea68,ea69,ea70,ea71,ea72,ea73,ea74,ea75,ea76,ea77,ea78,ea79,ea80,ea81,ea82,ea83] at ha2
   clear ha hfa ho ea0 ea1 ea2 ea3 ea4 ea5 ea6 ea7 ea8 ea9 ea10 ea11 ea12 ea13 ea14 ea15 ea16 ea17 ea18 ea19 ea20 ea21 ea22 ea23 ea24 ea25 ea26 ea27 ea28 ea29 ea30 ea31 ea32 ea33 ea34 ea35 ea36 ea37 ea38 ea39 ea40 ea41 ea42 ea43 ea44 ea45 ea46 ea47 ea48 ea49 ea50 ea51 ea52 ea53 ea54 ea55 ea68 ea69 ea70 ea71 ea72 ea73 ea74 ea75 ea76 ea77 ea78 ea79 ea80 ea81 ea82 ea83
   subst ha2
   obtain ⟨ys',hd1,hf1,hf2,hbv⟩:=RetLbI.out hp
   have hbV:=below_next hbd hbv
   have hlV:=Nat.lt_of_lt_of_le hg2 hbv.size
   obtain ⟨A',c'',rfl,hin',hdis'⟩:∃ A' c'',x=.slice A' ys'.length c'' ∧ Ints V V.heap.size .i64 (.slice A' ys'.length c'') ys' ∧ ∀ ad,A'=some ad → ad.block < V.heap.size ∧ ad.block ≠ lb:=by
    rcases hd1 with ⟨rfl,rfl⟩ | ho'
    ·exact ⟨A,c',rfl,(hin.later ((Below.refl _ wr).drew)).later hbv,fun ad ha => ⟨Nat.lt_of_lt_of_le (hdis ad ha).1 hbv.size,(hdis ad ha).2⟩⟩
    ·obtain ⟨A',c'',rfl⟩:=ownsRow_shape ho'
     refine ⟨A',c'',rfl,Ints.of_own ho',fun ad ha => ?_⟩
     obtain ⟨h1,h2⟩:=own_base ho' ad.block (by subst ha;rfl)
     exact ⟨h2,by have:wr.drew.heap.size=wr.heap.size:=rfl;omega⟩
   have HLS:Hid (LRow (V.setCell ⟨lb,k,none⟩ (.slice A' ys'.length c'')) w5.heap.size (.slice (some ⟨lb,0,none⟩) S.length c6) (yss.set k ys')):=Lib.hid (LRow.set ((HLR.out.later ((Below.refl _ wr).drew)).later hbv) rfl (by omega) hin' hdis')
   have hbS:Below w1.heap.size w1 (V.setCell ⟨lb,k,none⟩ (.slice A' ys'.length c'')):=hbV.setCell (p:=⟨lb,k,none⟩) hlb _
   have HBS:=Lib.hid (below_next HB0.out hbS)
   have HF1:=Lib.hid hf1
   have HF2:=Lib.hid hf2
   have HYK:=Lib.hid hys
   clear hp hd1 hf1 hf2 hbv hbV hin' hdis' hin hdis hce hfr hbd HL hys
   generalize V.setCell ⟨lb,k,none⟩ (.slice A' ys'.length c'')=V2 at *
   by_cases hk2:k2=0
   ·have z1:(k2 != 0)=false:=by simp [hk2]
    have HYN:Hid ((∀ y ∈ S,labI y=false) → yss.set k ys'=S):=Lib.hid (fun h => by
     have e:=HYS.out h
     have hm:ys ∈ S:=by rw [← e];exact List.mem_of_getElem? HYK.out
     have e2:=(HF1.out (h ys hm) hk2).2
     rw [e2]
     have:=HYK.out
     rw [e] at this ⊢
     exact setL_same this)
    go_wp2_with fail
    go_roundw
    case rel => exact ⟨k + 1,yss.set k ys',by omega,by go_num,by simp [hyl],HLS,HYN,hbS⟩
    case measure => simp [intOf];omega
   ·have z1:(k2 != 0)=true:=by simpa using hk2
    have HZ:=Lib.hid hk2
    have HN:Hid (∀ p q n,OkP T s p q n → GoodP T n → False):=Lib.hid (fun p' q' n' h hg => by
     have e1:=HCOK.out p' q' n' h
     subst e1
     have hall:∀ y ∈ S,labI y=false ∧ GoodV T y:=by rw [HSE.out];exact hg.1
     have e:=HYS.out (fun y hy => (hall y hy).1)
     have hm:ys ∈ S:=by rw [← e];exact List.mem_of_getElem? HYK.out
     exact hk2 (HF2.out (hall ys hm).1 (hall ys hm).2))
    go_wp2_with fail
    go_ret3
    exact RetProc.err HZ.out HN.out HBS.out
  ·have HL2:=Lib.hid HLR.out.lists
   have HX:=Lib.hid (domain_any t T _ yss wr (HT.out.later hbel).2 (HG.out.later hbel) HL2.out)
   obtain ⟨da,de,hde⟩:∃ da de,domR T yss=(da,de):=⟨_,_,rfl⟩
   rw [hde] at HX
   have HDE:=Lib.hid hde
   clear hde
   obtain ⟨x0,x1,x2,x3,x4,x5,x6,x7,x8,x9,x10,x11⟩:=(HT.out.later hbel).1.tab
   go_upto_region 23 with (go_at_call 31;refine HX.out.mono ?_;rintro e w8 ⟨rfl,b8⟩)
   have HBF:=Lib.hid (below_next HB.out b8)
   by_cases hd0:de=0
   ·have z1:(de != 0)=false:=by simp [hd0]
    go_wp2_with fail
    go_ret3
    refine ⟨_,_,_,rfl,HBF.out,fun _ => ⟨p,q,n,yss,HOK.out,HL2.out.later b8,fun h => ?_⟩,fun _ _ _ _ _ => rfl⟩
    rw [← HSE.out] at h ⊢
    exact HYS.out h
   ·have z1:(de != 0)=true:=by simpa using hd0
    have HZ:=Lib.hid hd0
    have HN:Hid (∀ p q n,OkP T s p q n → GoodP T n → False):=Lib.hid (fun p' q' n' h hg => by
     have e1:=HCOK.out p' q' n' h
     subst e1
     have hall:∀ y ∈ S,labI y=false ∧ GoodV T y:=by rw [HSE.out];exact hg.1
     have e:=HYS.out (fun y hy => (hall y hy).1)
     have h2:=hg.2
     rw [← HSE.out,← e,HDE.out] at h2
     exact hd0 h2)
    go_wp2_with fail
    go_ret3
    exact RetProc.err HZ.out HN.out HBF.out
end Go.Proofs.YtjafpikjpipbkaaGreatDoor
namespace Go.Proofs.YtjafpikjpipbkaaGreatDoor
open Go.RowKit ND
theorem topMapsScal {T:Tab} (h:T.check=0) (c y:Int) (hy:y ∈ T.mapsOf c):scalarB y=true:=by
 unfold Tab.mapsOf at hy
 split at hy
 ·rename_i h1
  rw [List.mem_singleton] at hy
  subst hy
  rw [scalarB_iff];omega
 ·by_cases h0:findL T.maps c=[]
  ·rw [h0] at hy;cases hy
  ·have h4:=(rules_of h).2.2.2.1
   unfold Tab.rule4 at h4
   simp only [Bool.and_eq_true] at h4
   have h5:=(toB_iff.1 (List.all_eq_true.1 h4.2.1 _ (findL_mem h0))).2.2
   simp only [Bool.false_eq_true,if_false] at h5
   exact List.all_eq_true.1 h5 y hy
theorem topStatUp (T:Tab) {c:Int} (h:65 ≤ c ∧ c ≤ 90):T.statusOf c=3:=by
 unfold Tab.statusOf
 rw [propL_own (fun e => by rw [lenC_zero] at e;have:=(scalarB_iff c).2 (by omega);rw [this] at e;cases e) (by rw [resB_iff];omega)]
 unfold fixC;rw [if_neg (by omega),if_pos h]
theorem topMap {T:Tab} {p q:List Int} {a:Int} (hm:Made T) (h:mapR T p=(q,a,0)):q.all scalarB=true ∧ (∀ c ∈ q,lowP c) ∧ q.length ≤ 4096:=by
 have hck:=hm.check
 by_cases h0:accE T p=0
 ·cases hb:badAt T 0 p with
  | some i => rw [mapR_bad h0 hb] at h;cases h
  | none =>
    by_cases hl:4096 < (mapOut T p).length
    ·rw [mapR_full h0 hb hl] at h;cases h
    ·rw [mapR_ok h0 hb (by omega)] at h
     cases h
     have hs:=List.all_eq_true.1 (accE_zero h0).2.2
     refine ⟨List.all_eq_true.2 fun y hy => ?_,fun y hy hc => ?_,by omega⟩
     ·unfold mapOut at hy
      obtain ⟨c,hc,hy⟩:=List.mem_flatMap.1 hy
      unfold mapOne at hy
      split at hy
      ·rw [List.mem_singleton] at hy;subst hy;exact hs _ hc
      ·split at hy
       ·exact topMapsScal hck c y hy
       ·cases hy
     ·have h3:=topStatUp T hc
      unfold mapOut at hy
      obtain ⟨c,_,hy⟩:=List.mem_flatMap.1 hy
      unfold mapOne at hy
      split at hy
      ·rename_i h1
       rw [List.mem_singleton] at hy;subst hy;omega
      ·split at hy
       ·have:=(hm.mapped c).2 y hy;omega
       ·cases hy
 ·rw [mapR_err h0] at h
  have:=congrArg (fun x => x.2.2) h
  exact absurd this h0
theorem topNfc {T:Tab} {ys:List Int} (hck:T.check=0) (hs:ys.all scalarB=true) (hl:ys.length ≤ 200):nfcR T ys=(nfcP T ys,0):=by
 have h1:=(flatD_len (decOk_of hck) ys).2
 have h2:accE T ys=0:=accE_ok hck (by omega) hs
 have h3:=nfdR_ok (T:=T) (l:=ys) (by omega)
 unfold nfcR
 rw [h2,h3,if_pos rfl]
theorem low_bytes {l:List Int} (ha:l.all asciiB=true) (hl:∀ c ∈ l,lowP c):(encAll l).map lowU=encAll l:=by
 induction l with
 | nil => rfl
 | cons c r ih =>
   simp only [List.all_cons,Bool.and_eq_true] at ha
   have hc:0 ≤ c ∧ c ≤ 127:=by have:=ha.1;unfold asciiB at this;simpa using this
   have he:encAll (c :: r)=UInt8.ofNat c.toNat :: encAll r:=by
    show encC c ++ encAll r=_
    unfold encC encN;rw [if_pos (by omega)];rfl
   rw [he,List.map_cons,ih ha.2 fun d hd => hl d (List.mem_cons_of_mem _ hd)]
   congr 1
   unfold lowU
   have hn:=hl c List.mem_cons_self
   unfold lowP at hn
   have ht:(UInt8.ofNat c.toNat).toNat=c.toNat:=by simp;omega
   rw [if_neg (by rw [ht];omega)]
theorem encAll_cons {c:Int} {r:List Int} (hc:asciiB c=true):encAll (c :: r)=UInt8.ofNat c.toNat :: encAll r:=by
 have hc:0 ≤ c ∧ c ≤ 127:=by unfold asciiB at hc;simpa using hc
 show encC c ++ encAll r=_
 unfold encC encN;rw [if_pos (by omega)];rfl
theorem byte_eq {c:Int} {k:Nat} (hc:asciiB c=true) (hk:k < 128) (h:UInt8.ofNat c.toNat=UInt8.ofNat k):c=(k:Int):=by
 have hc:0 ≤ c ∧ c ≤ 127:=by unfold asciiB at hc;simpa using hc
 have:=congrArg UInt8.toNat h
 simp at this;omega
theorem lab_xn {y:List Int} (hl:∀ c ∈ y,lowP c) (h:labI y=true):xnB y=true:=by
 unfold labI at h
 simp only [Bool.and_eq_true] at h
 obtain ⟨ha,hi⟩:=h
 unfold isB at hi
 simp only [Bool.and_eq_true,decide_eq_true_eq,beq_iff_eq] at hi
 obtain ⟨hsz,hx⟩:=hi
 have hlen:y.length ≤ 4096:=by
  by_cases h:4096 < y.length
  ·rw [encodeL_full h] at hsz;simp [ByteArray.size] at hsz
  ·omega
 have hsc:∀ c ∈ y,scalarB c=true:=fun c hc => by
  have:=List.all_eq_true.1 ha c hc
  unfold asciiB at this
  rw [scalarB_iff];simp at this;omega
 rw [encodeL_ok hlen hsc] at hsz hx
 have hx2:((encAll y).take 4).map lowU=[120,110,45,45]:=by
  have:(lowS ((⟨(encAll y).toArray⟩:ByteArray).extract 0 4)).toList=((encAll y).take 4).map lowU:=by
   unfold lowS
   rw [ByteArray.toList_eq]
   simp
  rw [← this];exact hx
 rw [List.map_take,low_bytes ha hl] at hx2
 have key:∀ (l:List Int) (k:Nat) (x:Nat) (tl:List UInt8),x < 128 → l.all asciiB=true → (encAll l).take (k + 1)=UInt8.ofNat x :: tl → ∃ r,l=(x:Int) :: r ∧ r.all asciiB=true ∧ (encAll r).take k=tl:=by
  intro l k x tl hx hl h
  cases l with
  | nil => simp [encAll] at h
  | cons a r =>
    simp only [List.all_cons,Bool.and_eq_true] at hl
    rw [encAll_cons hl.1,List.take_succ_cons] at h
    injection h with h1 h2
    exact ⟨r,by rw [byte_eq hl.1 hx h1],hl.2,h2⟩
 obtain ⟨r1,rfl,ha1,h1⟩:=key y 3 120 [110,45,45] (by decide) ha hx2
 obtain ⟨r2,rfl,ha2,h2⟩:=key r1 2 110 [45,45] (by decide) ha1 h1
 obtain ⟨r3,rfl,ha3,h3⟩:=key r2 1 45 [45] (by decide) ha2 h2
 obtain ⟨r4,rfl,_,_⟩:=key r3 0 45 [] (by decide) ha3 h3
 rfl
end Go.Proofs.YtjafpikjpipbkaaGreatDoor
