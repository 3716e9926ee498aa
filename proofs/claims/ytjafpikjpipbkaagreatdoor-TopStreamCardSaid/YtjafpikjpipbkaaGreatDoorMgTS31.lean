/-
  Merged texts: lemmas and walks that the last text of this claim leans on.
-/
import Derived.Test.YtjafpikjpipbkaaGreatDoorMgTS20
import Derived.Test.YtjafpikjpipbkaaGreatDoorMgTS30
import Derived.Test.YtjafpikjpipbkaaGreatDoorMgTS22
import Derived.Test.YtjafpikjpipbkaaGreatDoorMgTS8
import Derived.Test.YtjafpikjpipbkaaGreatDoorMgTS29
import Derived.Test.YtjafpikjpipbkaaGreatDoorMgTS18
import Derived.Test.YtjafpikjpipbkaaGreatDoorMgTS27
set_option maxRecDepth 100000
set_option maxHeartbeats 40000000
namespace Go.Proofs.YtjafpikjpipbkaaGreatDoor
open Go.RowKit ND
theorem wpList_app_spans {P:Program} {ops:Array Oper} {rest:List Oper} {o:Oper} {a:Act} {X:World} {Q:Exit → Act → World → Prop} {T e:TypeId} {i0:TypeInfo} (hgd:o.guard=none) (s x:Operand)
  (ho:o.op=.call { callee:=.builtin .append,args:=#[s,x],argTypes:=#[T,T] }) (ht:P.underlying T=some (.slice e)) (hi:P.info? e=some i0) (hz:i0.zero=some (.agg #[.int .i64 0,.int .i64 0,.int .i64 0])) (h1:i0.size=3) (h2:i0.bytes=24)
  (R:World) (u:Value) (L:List Sp) (B:Nat) (hs:a.eval s=.slice none 0 0) (hx:a.eval x=u) (hu:Spans X B u L) (hl:L.length ≤ 1000000) (hb:R.heap.size ≤ X.heap.size)
  (h:∀ v' w',w'.ownsRow R.heap.size e 3 v' L.length (L.flatMap spCells) → X.grownBy w' none → wpList P ops Q rest (a.put o.dst v') w'):wpList P ops Q (o :: rest) a X :=
 wpList_step fun _ hK => step_app_nil hgd s x ho ht hi hz h1 h2 R u L B hs hx hu hl hb fun v' w' p q => hK _ _ (h v' w' p q)
def nil12:Array Value:=#[.slice none 0 0,.slice none 0 0,.slice none 0 0,.slice none 0 0,.slice none 0 0,.slice none 0 0,.slice none 0 0,.slice none 0 0,.slice none 0 0,.slice none 0 0,.slice none 0 0,.slice none 0 0]
structure CpS (w:World) (tb rb:Nat) (T:Tab) (t:Tv) (wr:World):Prop where
 blk:Blk wr tb 26 t.arr
 res:Blk wr rb 26 nil12
 tab:TabR (veil [tb] wr) wr.heap.size t T
 bel:Below w.heap.size w wr
theorem veil_later {S:List Nat} {w w':World} {t:Tv} {T:Tab} (h:TabR (veil S w) w.heap.size t T) (ho:onlyIn S w w'):TabR (veil S w') w'.heap.size t T:=by
 rw [← veil_size S w] at h
 have h2:=h.later ho.veiled
 rw [veil_size] at h2
 exact h2
theorem CpS.put {w wr w5:World} {tb rb j:Nat} {T:Tab} {t:Tv} {v':Value} (h:CpS w tb rb T t wr) (htb:w.heap.size ≤ tb) (hne:rb ≠ tb) (hj:j < 12) (hb:Below wr.heap.size wr w5)
  (hv:TabR (veil [tb] w5) w5.heap.size t T → TabR (veil [tb] w5) w5.heap.size (t.set j v') T):CpS w tb rb T (t.set j v') (w5.setCell ⟨tb,j,none⟩ v'):=by
 have ho:onlyIn [tb] w5 (w5.setCell ⟨tb,j,none⟩ v'):=onlyIn_set (S:=[tb]) (onlyIn.refl _ _) (p:=⟨tb,j,none⟩) (by simp) _
 refine ⟨?_,(h.res.later hb).far (by exact hne) _,veil_later (hv (veil_later h.tab (onlyIn.of_below hb))) ho,(h.bel.trans (hb.mono h.bel.size)).setCell (p:=⟨tb,j,none⟩) htb _⟩
 rw [Tv.arr_set t hj]
 exact (h.blk.later hb).put j v'
theorem cp_start {w:World} {t:Tv} {T:Tab} (ht:TabR w w.heap.size t T) (ps:Array Value) (E:TypeId) :
  CpS w w.heap.size (w.heap.size + 1) T t (((w.alloc (.cells t.arr 26)).alloc (.cells nil12 26)).alloc (.cells ps E)) ∧ Blk (((w.alloc (.cells t.arr 26)).alloc (.cells nil12 26)).alloc (.cells ps E)) (w.heap.size + 1 + 1) E ps:=by
 have b1:Below w.heap.size w (w.alloc (.cells t.arr 26)):=(Below.refl _ _).alloc (Nat.le_refl _) _
 have z1:(w.alloc (.cells t.arr 26)).heap.size=w.heap.size + 1:=by simp
 have k1:=Blk.new w 26 t.arr
 generalize w.alloc (.cells t.arr 26)=w1 at *
 have b2:Below w1.heap.size w1 (w1.alloc (.cells nil12 26)):=(Below.refl _ _).alloc (Nat.le_refl _) _
 have z2:(w1.alloc (.cells nil12 26)).heap.size=w1.heap.size + 1:=by simp
 have k2:=Blk.new w1 26 nil12
 generalize w1.alloc (.cells nil12 26)=w2 at *
 have b3:Below w2.heap.size w2 (w2.alloc (.cells ps E)):=(Below.refl _ _).alloc (Nat.le_refl _) _
 have k3:=Blk.new w2 E ps
 generalize w2.alloc (.cells ps E)=w3 at *
 have b23:Below w1.heap.size w1 w3:=b2.trans (b3.mono b2.size)
 have b13:Below w.heap.size w w3:=b1.trans (b23.mono b1.size)
 refine ⟨⟨k1.later b23,?_,?_,b13⟩,?_⟩
 ·rw [z1] at k2;exact k2.later b3
 ·exact (ht.keep fun p hp => (cell_veil (by simp;omega)).trans (b13.cell hp)).more b13.size
 ·rw [z2,z1] at k3;exact k3
def ptr7 (tb:Nat):Array Value:=#[.pointer (some ⟨tb,0,none⟩),.pointer (some ⟨tb,1,none⟩),.pointer (some ⟨tb,2,none⟩),.pointer (some ⟨tb,3,none⟩),.pointer (some ⟨tb,4,none⟩),.pointer (some ⟨tb,5,none⟩),.pointer (some ⟨tb,6,none⟩)]
theorem ptr7_at {tb k:Nat} (hk:k < 7):(ptr7 tb)[k]?=some (.pointer (some ⟨tb,k,none⟩)):=by
 match k,hk with
 | 0,_ => rfl
 | 1,_ => rfl
 | 2,_ => rfl
 | 3,_ => rfl
 | 4,_ => rfl
 | 5,_ => rfl
 | 6,_ => rfl
def ptr4 (tb:Nat):Array Value:=#[.pointer (some ⟨tb,7,none⟩),.pointer (some ⟨tb,8,none⟩),.pointer (some ⟨tb,9,none⟩),.pointer (some ⟨tb,11,none⟩)]
theorem ptr4_at {tb j:Nat} (hj:j < 4):(ptr4 tb)[j]?=some (.pointer (some ⟨tb,colM j,none⟩)):=by
 match j,hj with
 | 0,_ => rfl
 | 1,_ => rfl
 | 2,_ => rfl
 | 3,_ => rfl
theorem colM_lt (j:Nat):colM j < 12:=by unfold colM;split <;> omega
theorem CpS.later {w wr w5:World} {tb rb:Nat} {T:Tab} {t:Tv} (h:CpS w tb rb T t wr) (hb:Below wr.heap.size wr w5):CpS w tb rb T t w5 :=
 ⟨h.blk.later hb,h.res.later hb,veil_later h.tab (onlyIn.of_below hb),h.bel.trans (hb.mono h.bel.size)⟩
theorem OwnM_later {S:List Nat} {w w':World} {base:Nat} {v:Value} {D:List Mp} (h:OwnM S w base v D) (hb:Below w.heap.size w w') (hS:∀ x ∈ S,x < base):OwnM S w' base v D :=
 h.kept (onlyIn.of_below hb) fun q hq hx => by
  obtain ⟨ps,_,_,ho,_⟩:=h
  have h1:=(ho.lt q hq).1
  have h2:=hS q hx
  omega
theorem cp_veil {wx w8:World} {tb base:Nat} {v u:Value} {D:List Mp} {l:List Int} (ho:OwnM [tb] wx base v D) (_hb:∀ x ∈ [tb],x < base) (htb:tb < wx.heap.size) (_hb8:Below wx.heap.size wx w8) (h8:w8.ownsRow wx.heap.size 3 1 u ([] ++ l).length (([] ++ l).map (Value.int .i64))) (o:Obj) :
  Ints (veil ([tb] ++ v.ownBlock.toList) (w8.alloc o)) (w8.alloc o).heap.size .i64 u l:=by
 have h:=Ints.veil_own (S:=[tb] ++ v.ownBlock.toList) (h8.alloc o) (fun x hx => by
  rcases List.mem_append.1 hx with hx | hx
  ·simp at hx;omega
  ·rw [Option.mem_toList] at hx
   obtain ⟨_,_,_,h,_⟩:=ho
   exact (h.lt x hx).2)
 rw [veil_size] at h
 simpa using h
theorem cp_below {w6 wx w8 w9:World} {tb:Nat} {v:Value} {D:List Mp} (hbx:Below w6.heap.size w6 wx) (hb8:Below wx.heap.size wx w8) (o:Obj) (ho:OwnM [tb] wx w6.heap.size v D) (hg:(w8.alloc o).grownBy w9 v.ownBlock):Below w6.heap.size w6 w9:=by
 have h1:Below w6.heap.size w6 w8:=below_next hbx hb8
 refine (h1.alloc h1.size o).grown hg (by have:=h1.size;simp;omega) (fun k hk => ?_)
 obtain ⟨_,_,_,h,_⟩:=ho
 exact (h.lt k hk).1
theorem TabR.setX {w:World} {B:Nat} {t:Tv} {T:Tab} {v:Value} (h:TabR w B t T) (hv:Ints w B .i64 v T.excluded):TabR w B (t.set 10 v) T:={ h with r10:=hv }
theorem cp_setIn {S:List Nat} {w w':World} (h:onlyIn S w w') {p:Addr} (hp:p.block ∈ S) (u:Value):onlyIn S w (w'.setCell p u) :=
 ⟨h.1,h.2.1,h.2.2.1,by simpa [World.setCell] using h.2.2.2.1,fun k hk hl => (Below.heap_setCell w' p u k (fun e => hk (by rw [e];exact hp))).trans (h.2.2.2.2 k hk hl)⟩
theorem cp_below12 {B:Nat} {w W:World} {g:Nat} {u0 u1 u2 u3 u4 u5 u6 u7 u8 u9 u10 u11:Value} (h:Below B w W) (hg:B ≤ g) :
  Below B w ((((((((((((W.setCell ⟨g,0,none⟩ u0).setCell ⟨g,1,none⟩ u1).setCell ⟨g,2,none⟩ u2).setCell ⟨g,3,none⟩ u3).setCell ⟨g,4,none⟩ u4).setCell ⟨g,5,none⟩ u5).setCell ⟨g,6,none⟩ u6).setCell ⟨g,7,none⟩ u7).setCell ⟨g,8,none⟩ u8).setCell ⟨g,9,none⟩ u9).setCell ⟨g,10,none⟩ u10).setCell ⟨g,11,none⟩ u11) :=
 (((((((((((h.setCell hg _).setCell hg _).setCell hg _).setCell hg _).setCell hg _).setCell hg _).setCell hg _).setCell hg _).setCell hg _).setCell hg _).setCell hg _).setCell hg _
theorem cp_only12 {S:List Nat} {w W:World} {g:Nat} {u0 u1 u2 u3 u4 u5 u6 u7 u8 u9 u10 u11:Value} (h:onlyIn S w W) (hg:g ∈ S) :
  onlyIn S w ((((((((((((W.setCell ⟨g,0,none⟩ u0).setCell ⟨g,1,none⟩ u1).setCell ⟨g,2,none⟩ u2).setCell ⟨g,3,none⟩ u3).setCell ⟨g,4,none⟩ u4).setCell ⟨g,5,none⟩ u5).setCell ⟨g,6,none⟩ u6).setCell ⟨g,7,none⟩ u7).setCell ⟨g,8,none⟩ u8).setCell ⟨g,9,none⟩ u9).setCell ⟨g,10,none⟩ u10).setCell ⟨g,11,none⟩ u11) :=
 (((((((((((cp_setIn h hg _ |> (cp_setIn · hg _)) |> (cp_setIn · hg _)) |> (cp_setIn · hg _)) |> (cp_setIn · hg _)) |> (cp_setIn · hg _)) |> (cp_setIn · hg _)) |> (cp_setIn · hg _)) |> (cp_setIn · hg _)) |> (cp_setIn · hg _)) |> (cp_setIn · hg _)) |> (cp_setIn · hg _))
theorem reveil0c {W:World} {B:Nat} {t:Tv} {T:Tab} (h:TabR W B t T):TabR (veil [] W) B t T:=h.keep fun p hp => cell_veil (by simp)
def RetCopy (w:World) (T:Tab) (e:Ending) (w':World):Prop:=∃ t:Tv,e=.returned t.val ∧ TabR w' w'.heap.size t T ∧ Below w.heap.size w w'
theorem copy_any (t:Tv) (T:Tab) (w:World) (ht:TabR w w.heap.size t T) (hck:T.check=0):Calls Tryz.prog 42 #[t.val] w (RetCopy w T):=by
 obtain ⟨i0,hi,hz0,hz1,hz2⟩:=info_parts Tryz.infoSpan
 obtain ⟨i1,hi1,hi10,hi11,hi12⟩:=info_parts Tryz.infoInt
 obtain ⟨i2,hi2,hi20,hi21,hi22⟩:=info_parts Tryz.infoMap
 have HCK:=Lib.hid hck
 have HT:=Lib.hid ht
 clear ht hck
 go_enter Tryz.func42,Tryz.ntmps42
 go_wp2_with fail
 obtain ⟨hst,hpb⟩:=cp_start HT.out #[.pointer (some ⟨w.heap.size,0,none⟩),.pointer (some ⟨w.heap.size,1,none⟩),.pointer (some ⟨w.heap.size,2,none⟩),.pointer (some ⟨w.heap.size,3,none⟩),.pointer (some ⟨w.heap.size,4,none⟩),.pointer (some ⟨w.heap.size,5,none⟩),.pointer (some ⟨w.heap.size,6,none⟩)] 56
 unfold Tv.arr nil12 at hst hpb
 generalize (((w.alloc _).alloc _).alloc _)=W3 at *
 have HST:=Lib.hid hst
 have HPB:Hid (Blk W3 (w.heap.size + 1 + 1) 56 (ptr7 w.heap.size)):=Lib.hid hpb
 clear hst hpb
 go_loopw [19] (fun ii wr => ∃ (k:Nat) (t2:Tv),k ≤ 7 ∧ ii=.int .i64 k ∧ Hid (CpS w w.heap.size (w.heap.size + 1) T t2 wr) ∧ Hid (Blk wr (w.heap.size + 1 + 1) 56 (ptr7 w.heap.size))) (fun ii _ => 7 - (intOf ii).toNat)
 case atStart => exact ⟨0,t,by omega,rfl,HST,HPB⟩
 case round =>
  obtain ⟨k,t2,hk,rfl,HS,HP⟩:=hrel
  by_cases hlt:k < 7
  ·obtain ⟨u,L,harr,hsp,hL,hput⟩:=HS.out.tab.span HCK.out hlt
   have hsp2:=hsp.unveil
   obtain ⟨A,c,rfl,_⟩:=id hsp2
   have k0:(0:Int) ≤ (k:Int):=by omega
   have k1:(k:Int) < 7:=by omega
   have e1:=HP.out.at_ (ptr7_at (tb:=w.heap.size) hlt)
   have e2:=HS.out.blk.at_ harr
   have HSP:=Lib.hid hsp2
   have HPUT:=Lib.hid hput
   have hLt:L.length ≤ 1000000:=by omega
   have hbl:=HS.out.blk.lt
   clear hsp hsp2 hput harr
   go_wp2_with (at_builtin;refine wpList_app_spans rfl (.const (.slice none 0 0)) (.tmp 26) rfl Tryz.underlying23 hi hz0 hz1 hz2 wr (.slice A L.length c) L wr.heap.size rfl rfl HSP.out hLt (Nat.le_refl _) ?_;intro v5 w5 ho5 hg5;have hb5:Below wr.heap.size wr w5:=(Below.refl _ wr).grown hg5 (Nat.le_refl _) (by intro q hq;cases hq);have e5:=(HS.out.blk.later hb5).free k;have e6:=(hb5.cell (p:=⟨w.heap.size,k,none⟩) hbl).trans e2;obtain ⟨A5,c5,rfl⟩:=ownsRow_shape ho5;have HO5:=Lib.hid ho5;have HB5:=Lib.hid hb5;clear ho5 hg5 hb5)
   have HS5:Hid (CpS w w.heap.size (w.heap.size + 1) T (t2.set k (.slice A5 L.length c5)) (w5.setCell ⟨w.heap.size,k,none⟩ (.slice A5 L.length c5))):=Lib.hid (HS.out.put (Nat.le_refl _) (by omega) (by omega) HB5.out (fun h => HPUT.out _ _ _ h (by
    have:=Spans.veil_own HO5.out (S:=[w.heap.size]) (by simpa using hbl)
    rw [veil_size] at this
    exact this)))
   have HP5:Hid (Blk (w5.setCell ⟨w.heap.size,k,none⟩ (.slice A5 L.length c5)) (w.heap.size + 1 + 1) 56 (ptr7 w.heap.size)):=Lib.hid ((HP.out.later HB5.out).far (by show w.heap.size + 1 + 1 ≠ w.heap.size;omega) _)
   go_roundw
   case rel => exact ⟨k + 1,_,by omega,by go_num,HS5,HP5⟩
   case measure => simp [intOf];omega
  ·have y1:decide ((k:Int) < 7)=false:=decide_eq_false (by omega)
   go_wp2_with fail
   have hal:Below wr.heap.size wr (wr.alloc (.cells (ptr4 w.heap.size) 139)):=(Below.refl _ _).alloc (Nat.le_refl _) _
   have HS4:=Lib.hid (HS.out.later hal)
   have HQ:Hid (Blk (wr.alloc (.cells (ptr4 w.heap.size) 139)) wr.heap.size 139 (ptr4 w.heap.size)):=Lib.hid (Blk.new _ _ _)
   have hqb:w.heap.size < wr.heap.size:=HS.out.blk.lt
   clear hal
   unfold ptr4 at HS4 HQ
   generalize wr.alloc (.cells #[.pointer (some ⟨w.heap.size,7,none⟩),.pointer (some ⟨w.heap.size,8,none⟩),.pointer (some ⟨w.heap.size,9,none⟩),.pointer (some ⟨w.heap.size,11,none⟩)] 139)=W4 at *
   have HQ4:Hid (Blk W4 wr.heap.size 139 (ptr4 w.heap.size)):=Lib.hid HQ.out
   obtain ⟨qb,hqe⟩:∃ qb,qb=wr.heap.size:=⟨_,rfl⟩
   rw [← hqe] at HQ4 hqb ⊢
   clear HQ HS HP hqe hk
   go_loopw [36] (fun ii wr => ∃ (j:Nat) (t3:Tv),j ≤ 4 ∧ ii=.int .i64 j ∧ Hid (CpS w w.heap.size (w.heap.size + 1) T t3 wr) ∧ Hid (Blk wr qb 139 (ptr4 w.heap.size))) (fun ii _ => 4 - (intOf ii).toNat)
   case atStart => exact ⟨0,t2,by omega,rfl,HS4,HQ4⟩
   case round =>
    obtain ⟨j,t3,hj,rfl,HS5,HP5⟩:=hrel
    by_cases hlt2:j < 4
    ·obtain ⟨u,D,harr,hmp,hD,hDl,hput⟩:=HS5.out.tab.maps HCK.out hlt2
     have hmp2:=hmp.unveil
     obtain ⟨A,c,rfl,hDc1,hDc2,_,hcell⟩:=id hmp2
     have HDC:=Lib.hid hcell
     have j0:(0:Int) ≤ (j:Int):=by omega
     have j1:(j:Int) < 4:=by omega
     have e1:=HP5.out.at_ (ptr4_at (tb:=w.heap.size) hlt2)
     have e2:=HS5.out.blk.at_ harr
     have hbl:=HS5.out.blk.lt
     have HMP:=Lib.hid hmp2
     have HPUT:=Lib.hid hput
     have HDL:=Lib.hid hDl
     obtain ⟨w6,hw6⟩:∃ w6,w6=wr:=⟨_,rfl⟩
     clear hmp hmp2 hput harr hcell hDl
     subst hw6
     go_wp2_with fail
     clear e1 e2
     go_loopw [7,44] (fun o ii wr => ∃ (i:Nat),i ≤ D.length ∧ ii=.int .i64 i ∧ Hid (OwnM [w.heap.size] wr w6.heap.size o (D.take i)) ∧ Hid (Below w6.heap.size w6 wr)) (fun _ ii _ => D.length - (intOf ii).toNat)
     case atStart => exact ⟨0,by omega,rfl,Lib.hid (OwnM.nil _ _ _),Lib.hid (Below.refl _ _)⟩
     case round =>
      obtain ⟨i,hii,rfl,HO,HB⟩:=hrel
      by_cases hlt3:i < D.length
      ·obtain ⟨d,hd⟩:∃ d,D[i]?=some d:=⟨_,List.getElem?_eq_getElem hlt3⟩
       obtain ⟨ad,sv,rfl,had,d0,d1,hsv⟩:=HDC.out i d hd
       obtain ⟨e3,e4⟩:=map_cells HB.out had d0 d1
       obtain ⟨Av,cv,rfl,_⟩:=id hsv
       have i0':(0:Int) ≤ (i:Int):=by omega
       have i1':(i:Int) < (D.length:Int):=by omega
       have HSV:=Lib.hid hsv
       have HDI:=Lib.hid hd
       clear d0 d1 hsv hd
       go_upto_region 13 with fail
       have hal:Below wr.heap.size wr (wr.alloc (.cells #[.int .i64 d.1,.slice Av d.2.length cv] 61)):=(Below.refl _ _).alloc (Nat.le_refl _) _
       have HX:=Lib.hid (Blk.new wr 61 #[.int .i64 d.1,.slice Av d.2.length cv])
       have HOX:=Lib.hid (OwnM_later HO.out hal (by simpa using hbl))
       have HBX:=Lib.hid (HB.out.trans (hal.mono HB.out.size))
       have hwr:=HB.out.size
       clear hal HO e3 e4
       generalize wr.alloc (.cells #[.int .i64 d.1,.slice Av d.2.length cv] 61)=wx at *
       have x0:=HX.out.drew.at_ (i:=0) rfl
       have x1:=HX.out.drew.at_ (i:=1) rfl
       have HSVX:Hid (Ints wx.drew wx.heap.size .i64 (.slice Av d.2.length cv) d.2):=Lib.hid ((HSV.out.later HBX.out).later ((Below.refl _ wx).drew))
       have hdl:d.2.length ≤ 1000:=HDL.out d (List.mem_of_getElem? HDI.out)
       obtain ⟨Ao,mo,co,rfl⟩:∃ A m c,u7=.slice A m c:=by obtain ⟨_,_,_,h,_⟩:=HOX.out;exact own_slice h
       have hwx:w.heap.size < wx.heap.size:=by have:=HBX.out.size;omega
       go_region_law (first | (refine step_app_ints rfl (.const (.slice none 0 0)) (.tmp 52) rfl Tryz.underlying22 hi1 hi10 hi11 hi12 wx.heap.size wx.heap.size (.slice none 0 0) [] (.slice Av d.2.length cv) d.2 rfl rfl (World.ownsRow_nil _ _ _ _) HSVX.out (by simp;omega) (Nat.le_refl _) ?_;intro v8 w8 ho8 hg8;have hb8:Below wx.heap.size wx w8:=((Below.refl _ wx).drew).grown hg8 (Nat.le_refl _) (by intro q hq;cases hq);have y0:=(HX.out.later hb8).at_ (i:=0) rfl;have HB8:=Lib.hid hb8;have HO8:=Lib.hid ho8;obtain ⟨A8,c8,rfl⟩:=ownsRow_shape ho8;clear ho8 hg8 hb8) | (refine step_app_map rfl (.tmp 48) (.tmp 55) rfl Tryz.underlying24 hi2 _ hi20 hi21 hi22 rfl [w.heap.size] w6.heap.size (.slice Ao mo co) (D.take i) w8.heap.size d.1 (.slice A8 d.2.length c8) d.2 rfl rfl (OwnM_later (OwnM_later HOX.out HB8.out (by simpa using hbl)) ((Below.refl _ _).alloc (Nat.le_refl _) (.cells #[.int .i64 d.1,.slice A8 d.2.length c8] 61)) (by simpa using hbl)) (Blk.new _ _ _) (cp_veil HOX.out (by simpa using hbl) hwx HB8.out HO8.out _) (by simp;omega) (by have:=HB8.out.size;have:=HBX.out.size;simp;omega) ?_;intro v9 w9 ho9 hg9 _ hsl;have hb9:Below w6.heap.size w6 w9:=cp_below HBX.out HB8.out (.cells #[.int .i64 d.1,.slice A8 d.2.length c8] 61) HOX.out hg9;have HB9:=Lib.hid hb9;have HO9:=Lib.hid ho9;obtain ⟨A9,m9,c9,rfl⟩:=hsl;clear ho9 hg9 hb9))
       all_goals
        have HO10:Hid (OwnM [w.heap.size] w9 w6.heap.size (.slice A9 m9 c9) (D.take (i + 1))):=Lib.hid (by rw [ND.take_snoc_get HDI.out];exact HO9.out)
        go_wp2_with fail
        go_roundw
        case rel => exact ⟨i + 1,by omega,by go_num,HO10,HB9⟩
        case measure => simp [intOf];omega
      ·have hil:i=D.length:=by omega
       have HSW:=Lib.hid (HS5.out.later HB.out)
       have HOD:Hid (OwnM [w.heap.size] wr w6.heap.size u7 D):=Lib.hid (by have:=HO.out;rw [hil,List.take_length] at this;exact this)
       obtain ⟨Ao,mo,co,rfl⟩:∃ A m c,u7=.slice A m c:=by obtain ⟨_,_,_,h,_⟩:=HO.out;exact own_slice h
       obtain ⟨u2,hu2,_⟩:∃ u2,t3.arr[colM j]?=some u2 ∧ True:=⟨_,Array.getElem?_eq_getElem (by unfold Tv.arr;exact colM_lt j),trivial⟩
       have e5:=HSW.out.blk.at_ hu2
       have e6:=HSW.out.blk.free (colM j)
       have y3:decide ((i:Int) < (D.length:Int))=false:=decide_eq_false (by omega)
       clear hu2 HO
       go_wp2_with fail
       have HS7:Hid (CpS w w.heap.size (w.heap.size + 1) T (t3.set (colM j) (.slice Ao mo co)) (wr.setCell ⟨w.heap.size,colM j,none⟩ (.slice Ao mo co))):=Lib.hid (HSW.out.put (Nat.le_refl _) (by omega) (colM_lt j) (Below.refl _ _) (fun h => HPUT.out _ _ _ h (by
        have:=HOD.out.mapps (by simpa using hbl)
        rw [veil_size] at this
        exact this)))
       have HP7:Hid (Blk (wr.setCell ⟨w.heap.size,colM j,none⟩ (.slice Ao mo co)) qb 139 (ptr4 w.heap.size)):=Lib.hid ((HP5.out.later HB.out).far (by show qb ≠ w.heap.size;omega) _)
       go_roundw
       case rel => exact ⟨j + 1,_,by omega,by go_num,HS7,HP7⟩
       case measure => simp [intOf];omega
    ·have y3:decide ((j:Int) < 4)=false:=decide_eq_false (by omega)
     obtain ⟨AE,cE,hE,_⟩:=id HS5.out.tab.r10
     have HXI:=Lib.hid HS5.out.tab.r10.unveil
     have e1:wr.cell? ⟨w.heap.size,10,none⟩=some t3.c10:=HS5.out.blk.at_ (i:=10) rfl
     have hbl:=HS5.out.blk.lt
     have hXl:T.excluded.length ≤ 256:=(shape_of HCK.out).lenX
     rw [hE] at e1 HXI
     go_upto_region 18 with (at_builtin;refine wpList_append_gr (by rfl) (.const (.slice none 0 0)) (.tmp 63) rfl Tryz.underlying22 hi1 hi10 hi11 hi12 wr.heap.size wr.heap.size (.slice none 0 0) [] (.slice AE T.excluded.length cE) T.excluded rfl (World.ownsRow_nil _ _ _ _) rfl HXI.out (by simp;omega) (Nat.le_refl _) ?_;intro v8 w8 ho8 hg8;have hb8:Below wr.heap.size wr w8:=hg8.1.below (fun x hx => by simp [ownS,Value.ownBlock] at hx) (Nat.le_refl _);have e5:=(HS5.out.blk.later hb8).free 10;have e6:=(hb8.cell (p:=⟨w.heap.size,10,none⟩) hbl).trans e1;obtain ⟨A8,c8,rfl⟩:=ownsRow_shape ho8;have HO8:=Lib.hid ho8;have HB8:=Lib.hid hb8;clear ho8 hg8 hb8)
     have hIX:Ints (veil [w.heap.size] w8) w8.heap.size .i64 (.slice A8 ([] ++ T.excluded).length c8) T.excluded:=by
      have h2:=Ints.veil_own (S:=[w.heap.size]) HO8.out (by simpa using hbl)
      rw [veil_size] at h2
      exact h2
     have HS9:Hid (CpS w w.heap.size (w.heap.size + 1) T (t3.set 10 (.slice A8 ([] ++ T.excluded).length c8)) (w8.setCell ⟨w.heap.size,10,none⟩ (.slice A8 ([] ++ T.excluded).length c8))):=Lib.hid (HS5.out.put (Nat.le_refl _) (by omega) (by omega) HB8.out (fun h => h.setX hIX))
     have hsl:([] ++ T.excluded).length=T.excluded.length:=rfl
     rw [hsl] at HS9
     generalize w8.setCell ⟨w.heap.size,10,none⟩ (.slice A8 T.excluded.length c8)=w9 at *
     generalize t3.set 10 (.slice A8 T.excluded.length c8)=t4 at *
     have HT9:=Lib.hid HS9.out.tab.unveil
     have HB9:Hid (Blk w9 w.heap.size 26 #[t4.c0,t4.c1,t4.c2,t4.c3,t4.c4,t4.c5,t4.c6,t4.c7,t4.c8,t4.c9,t4.c10,t4.c11]):=Lib.hid HS9.out.blk
     have HR9:Hid (Blk w9 (w.heap.size + 1) 26 nil12):=Lib.hid HS9.out.res
     have HW9:=Lib.hid HS9.out.bel
     clear HS9 hIX HO8 HB8 e5 e6 e1 HXI HS5 HP5 hsl
     obtain ⟨A0,A1,A2,A3,A4,A5,A6,A7,A8',A9,A10,A11,q0,q1,q2,q3,q4,q5,q6,q7,q8,q9,q10,q11,hsh⟩:=HT9.out.shape
     have htv:TabR (veil [w.heap.size + 1] w9) w9.heap.size t4 T:=(reveil0c HT9.out).apart (no_int HR9.out (by simp [nil12]))
     have hof:onlyIn [w.heap.size + 1] w9 ((((((((((((w9.setCell ⟨w.heap.size + 1,0,none⟩ t4.c0).setCell ⟨w.heap.size + 1,1,none⟩ t4.c1).setCell ⟨w.heap.size + 1,2,none⟩ t4.c2).setCell ⟨w.heap.size + 1,3,none⟩ t4.c3).setCell ⟨w.heap.size + 1,4,none⟩ t4.c4).setCell ⟨w.heap.size + 1,5,none⟩ t4.c5).setCell ⟨w.heap.size + 1,6,none⟩ t4.c6).setCell ⟨w.heap.size + 1,7,none⟩ t4.c7).setCell ⟨w.heap.size + 1,8,none⟩ t4.c8).setCell ⟨w.heap.size + 1,9,none⟩ t4.c9).setCell ⟨w.heap.size + 1,10,none⟩ t4.c10).setCell ⟨w.heap.size + 1,11,none⟩ t4.c11):=cp_only12 (onlyIn.refl _ _) List.mem_cons_self
     have hbf:Below w.heap.size w ((((((((((((w9.setCell ⟨w.heap.size + 1,0,none⟩ t4.c0).setCell ⟨w.heap.size + 1,1,none⟩ t4.c1).setCell ⟨w.heap.size + 1,2,none⟩ t4.c2).setCell ⟨w.heap.size + 1,3,none⟩ t4.c3).setCell ⟨w.heap.size + 1,4,none⟩ t4.c4).setCell ⟨w.heap.size + 1,5,none⟩ t4.c5).setCell ⟨w.heap.size + 1,6,none⟩ t4.c6).setCell ⟨w.heap.size + 1,7,none⟩ t4.c7).setCell ⟨w.heap.size + 1,8,none⟩ t4.c8).setCell ⟨w.heap.size + 1,9,none⟩ t4.c9).setCell ⟨w.heap.size + 1,10,none⟩ t4.c10).setCell ⟨w.heap.size + 1,11,none⟩ t4.c11):=cp_below12 HW9.out (by omega)
     have htf:=(veil_later htv hof).unveil
     have hrf:Blk ((((((((((((w9.setCell ⟨w.heap.size + 1,0,none⟩ t4.c0).setCell ⟨w.heap.size + 1,1,none⟩ t4.c1).setCell ⟨w.heap.size + 1,2,none⟩ t4.c2).setCell ⟨w.heap.size + 1,3,none⟩ t4.c3).setCell ⟨w.heap.size + 1,4,none⟩ t4.c4).setCell ⟨w.heap.size + 1,5,none⟩ t4.c5).setCell ⟨w.heap.size + 1,6,none⟩ t4.c6).setCell ⟨w.heap.size + 1,7,none⟩ t4.c7).setCell ⟨w.heap.size + 1,8,none⟩ t4.c8).setCell ⟨w.heap.size + 1,9,none⟩ t4.c9).setCell ⟨w.heap.size + 1,10,none⟩ t4.c10).setCell ⟨w.heap.size + 1,11,none⟩ t4.c11) (w.heap.size + 1) 26 t4.arr:=by
      have h:=((((((((((((HR9.out.put 0 t4.c0).put 1 t4.c1).put 2 t4.c2).put 3 t4.c3).put 4 t4.c4).put 5 t4.c5).put 6 t4.c6).put 7 t4.c7).put 8 t4.c8).put 9 t4.c9).put 10 t4.c10).put 11 t4.c11)
      simpa [nil12,Tv.arr] using h
     have HF:=Lib.hid (show _ ∧ _ ∧ _ from ⟨htf,hbf,hrf⟩)
     obtain ⟨x0,x1,x2,x3,x4,x5,x6,x7,x8,x9,x10,x11⟩:=HB9.out.tab
     obtain ⟨z0,z1,z2,z3,z4,z5,z6,z7,z8,z9,z10,z11⟩:=(show Blk w9 (w.heap.size + 1) 26 #[.slice none 0 0,.slice none 0 0,.slice none 0 0,.slice none 0 0,.slice none 0 0,.slice none 0 0,.slice none 0 0,.slice none 0 0,.slice none 0 0,.slice none 0 0,.slice none 0 0,.slice none 0 0] from HR9.out).tab
     have r0:=HR9.out.free 0
     have r1:=HR9.out.free 1
     have r2:=HR9.out.free 2
     have r3:=HR9.out.free 3
     have r4:=HR9.out.free 4
     have r5:=HR9.out.free 5
     have r6:=HR9.out.free 6
     have r7:=HR9.out.free 7
     have r8:=HR9.out.free 8
     have r9:=HR9.out.free 9
     have r10:=HR9.out.free 10
     have r11:=HR9.out.free 11
     clear htv hof hbf htf hrf HT9 HW9 HB9 HR9
     subst hsh
     dsimp only [Tv.arr] at x0 x1 x2 x3 x4 x5 x6 x7 x8 x9 x10 x11 HF
     go_wp2_with fail
     clear z0 z1 z2 z3 z4 z5 z6 z7 z8 z9 z10 z11 r0 r1 r2 r3 r4 r5 r6 r7 r8 r9 r10 r11 x0 x1 x2 x3 x4 x5 x6 x7 x8 x9 x10 x11
     generalize (World.setCell _ ⟨w.heap.size + 1,11,none⟩ _)=WF at *
     obtain ⟨z0,z1,z2,z3,z4,z5,z6,z7,z8,z9,z10,z11⟩:=HF.out.2.2.tab
     exact bodyPost_ret (v:=(Tv.val ⟨.slice A0 T.category.length q0,.slice A1 T.cls.length q1,.slice A2 T.joining.length q2,.slice A3 T.bidi.length q3,.slice A4 T.script.length q4,.slice A5 T.status.length q5,.slice A6 T.ignorable.length q6,.slice A7 T.extensions.length q7,.slice A8' T.maps.length q8,.slice A9 T.decomps.length q9,.slice A10 T.excluded.length q10,.slice A11 T.prototypes.length q11⟩)) (by simp [results,Tryz.results42,go_sem,z0,z1,z2,z3,z4,z5,z6,z7,z8,z9,z10,z11]) rfl ⟨_,rfl,HF.out.1,HF.out.2.1⟩
end Go.Proofs.YtjafpikjpipbkaaGreatDoor
namespace Go.Proofs.YtjafpikjpipbkaaGreatDoor
open Go.RowKit ND
def RetNew (w:World) (T:Tab) (e:Ending) (w':World):Prop :=
 ∃ gb t',e=.returned (.tuple #[.pointer (some ⟨gb,0,none⟩),.int .i64 0]) ∧ w.heap.size ≤ gb ∧ StrR w' gb t' T (.slice none 0 0) [] ∧ Below w.heap.size w w'
theorem strNew_any (t:Tv) (T:Tab) (w:World) (ht:TabR w w.heap.size t T) (hg:Glob w) (hck:T.check=0) :
  Calls Tryz.prog 11 #[t.val,.int .i64 32] w (RetNew w T):=by
 have HB0:Hid (Below w.heap.size w (w.alloc (.cells t.arr 26))):=Lib.hid ((Below.refl _ _).alloc (Nat.le_refl _) _)
 have hb0:Blk (w.alloc (.cells t.arr 26)) w.heap.size 26 #[t.c0,t.c1,t.c2,t.c3,t.c4,t.c5,t.c6,t.c7,t.c8,t.c9,t.c10,t.c11]:=Blk.new _ _ _
 have HK0:=Lib.hid hb0
 have HT:=Lib.hid (fun W (h:Below w.heap.size w W) => ht.later h)
 have HG:=Lib.hid (fun W (h:Below w.heap.size w W) => hg.later h)
 have HC:=Lib.hid (fun W (h:Below w.heap.size w W) => check_table t T W (HT.out W h) (HG.out W h))
 rw [hck] at HC
 have HP:=Lib.hid (fun W (h:Below w.heap.size w W) => copy_any t T W (HT.out W h) hck)
 clear ht hg hb0
 go_enter Tryz.func11,Tryz.ntmps11
 go_wp2_with fail
 refine (HC.out _ HB0.out).mono ?_
 rintro e w1 ⟨rfl,b1⟩
 have HK1:=Lib.hid (HK0.out.later b1)
 have HB1:=Lib.hid (below_next HB0.out b1)
 obtain ⟨x0,x1,x2,x3,x4,x5,x6,x7,x8,x9,x10,x11⟩:=HK1.out.tab
 clear HK0 HB0 b1 HC
 go_wp2_with fail
 refine (HP.out _ HB1.out).mono ?_
 rintro e w2 ⟨t2,rfl,ht2,b2⟩
 have HT2:=Lib.hid ht2
 have HB2:=Lib.hid (below_next HB1.out b2)
 obtain ⟨y0,y1,y2,y3,y4,y5,y6,y7,y8,y9,y10,y11⟩:=t2
 clear ht2 b2 HP x0 x1 x2 x3 x4 x5 x6 x7 x8 x9 x10 x11 HK1 HB1
 dsimp only [Tv.val]
 go_wp2_with fail
 go_ret2
 have hb3:=(Below.refl w2.heap.size w2).alloc (Nat.le_refl _) (.cells #[y0,y1,y2,y3,y4,y5,y6,y7,y8,y9,y10,y11,.int .i64 32,.slice none 0 0] 93)
 exact ⟨_,_,rfl,HB2.out.size,⟨Blk.new _ _ _,HT2.out.below hb3,World.ownsRow_nil _ _ _ _⟩,below_next HB2.out hb3⟩
end Go.Proofs.YtjafpikjpipbkaaGreatDoor
namespace Go.Proofs.YtjafpikjpipbkaaGreatDoor
open Go.RowKit ND
theorem row_only {S:List Nat} {w w':World} {B:Nat} {e:TypeId} {k:Nat} {v:Value} {n:Nat} {xs:List Value} (h:w.ownsRow B e k v n xs) (ho:onlyIn S w w') (hS:∀ b,v.ownBlock=some b → b ∉ S):w'.ownsRow B e k v n xs:=by
 refine ⟨h.1,?_⟩
 rcases h.2 with hn | ⟨g,cap,cur,rfl,h1,h2,rest⟩
 ·exact .inl hn
 ·exact .inr ⟨g,cap,cur,rfl,h1,(ho.2.2.2.2 g (hS g rfl) (Array.getElem?_eq_some_iff.1 h2).1).trans h2,rest⟩
structure TopS (B:Nat) (w8:World) (gb:Nat) (t:Tv) (T:Tab) (ov:Value) (acc:List Int) (hv:Value) (ys:List Int) (wr:World):Prop where
 str:StrR wr gb t T hv ys
 row:wr.ownsRow (gb + 1) 3 1 ov acc.length (acc.map (Value.int .i64))
 ap:∀ b,ov.ownBlock=some b → hv.ownBlock ≠ some b
 bel:Below B w8 wr
section
variable {B:Nat} {w8 wr w':World} {gb:Nat} {t:Tv} {T:Tab} {ov hv hv' ov':Value} {acc ys zs:List Int} {c:Int}
theorem TopS.start (h:StrR w' gb t T (.slice none 0 0) []) (hb:Below B w8 w'):TopS B w8 gb t T (.slice none 0 0) [] (.slice none 0 0) [] w' :=
 ⟨h,World.ownsRow_nil _ _ _ _,fun b hb => (by cases hb),hb⟩
theorem TopS.base (h:TopS B w8 gb t T ov acc hv ys wr):∀ b,ov.ownBlock=some b → gb + 1 ≤ b ∧ b < wr.heap.size:=own_base h.row
theorem TopS.flush (h:TopS B w8 gb t T ov acc hv ys wr) (hB:B ≤ gb) (hs:StrR w' gb t T hv' zs) (hn:∀ b,hv'.ownBlock=some b → wr.heap.size ≤ b) (ho:onlyIn [gb] wr w'):TopS B w8 gb t T ov acc hv' zs w':=by
 have hgl:=h.str.blk.lt
 have hbs:=h.bel.size
 refine ⟨hs,row_only h.row ho fun b hb hm => ?_,fun b hb he => ?_,h.bel.trans (ho.below (B:=B) (fun x hx => by rw [List.mem_singleton] at hx;omega) (by omega))⟩
 ·have:=(h.base b hb).1
  rw [List.mem_singleton] at hm;omega
 ·have h1:=(h.base b hb).2
  have h2:=hn b he
  omega
theorem TopS.hold (h:TopS B w8 gb t T ov acc hv ys wr) (hB:B ≤ gb) (hs:StrR w' gb t T hv' zs) (hn:hv'.ownBlock=hv.ownBlock ∨ ∀ b,hv'.ownBlock=some b → wr.heap.size ≤ b) (ho:onlyIn (gb :: ownS hv) wr w'):TopS B w8 gb t T ov acc hv' zs w':=by
 have hgl:=h.str.blk.lt
 refine ⟨hs,row_only h.row ho fun b hb hm => ?_,fun b hb he => ?_,h.bel.trans (ho.below (B:=B) (fun x hx => ?_) (by omega))⟩
 ·have h1:=(h.base b hb).1
  rcases List.mem_cons.1 hm with e | e
  ·omega
  ·exact h.ap b hb (mem_ownS.1 e)
 ·rcases hn with hn | hn
  ·rw [hn] at he;exact h.ap b hb he
  ·have h1:=(h.base b hb).2
   have h2:=hn b he
   omega
 ·rcases List.mem_cons.1 hx with e | e
  ·omega
  ·have:=(own_base h.str.own x (mem_ownS.1 e)).1;omega
theorem TopS.append (h:TopS B w8 gb t T ov acc hv ys wr) (hB:B ≤ gb) (hr:w'.ownsRow (gb + 1) 3 1 ov' (acc ++ zs).length ((acc ++ zs).map (Value.int .i64))) (hg:Gr wr ov w' ov'):TopS B w8 gb t T ov' (acc ++ zs) hv ys w':=by
 have hgl:=h.str.blk.lt
 have hbb:Below gb wr w':=hg.below (fun g he => by have:=(h.base g he).1;omega) (by omega)
 refine ⟨⟨hg.blk h.str.blk fun he => by have:=(h.base gb he).1;omega,h.str.tab.below hbb,own_other h.str.own hg fun g he => h.ap g he⟩,hr,fun b hb he => ?_,h.bel.trans (hbb.mono hB)⟩
 rcases hg.2 with h2 | h2
 ·rw [h2] at hb;exact h.ap b hb he
 ·have h1:=h2 b hb
  have h3:=(own_base h.str.own b he).2
  omega
end
theorem push_yes {w w':World} {gb:Nat} {t:Tv} {T:Tab} {hv:Value} {ys:List Int} {c:Int} {e:Ending} (hb:bndR T c=true) (h:RetPush w gb t T hv ys c e w') :
  ∃ v hv',e=.returned (.tuple #[v,.int .i64 0]) ∧ w'.ownsRow w.heap.size 3 1 v (nfcR T ys).1.length ((nfcR T ys).1.map (Value.int .i64)) ∧ StrR w' gb t T hv' [c] ∧ (∀ b,hv'.ownBlock=some b → w.heap.size ≤ b) ∧ onlyIn [gb] w w':=by
 rcases h with ⟨_,v,hv',h1,h2,h3,h4,h5⟩ | ⟨h,_⟩ | ⟨h,_⟩
 ·exact ⟨v,hv',h1,h2,h3,fun b he => (h4 b he).1,h5⟩
 ·rw [hb] at h;cases h
 ·rw [hb] at h;cases h
theorem push_full {w w':World} {gb:Nat} {t:Tv} {T:Tab} {hv:Value} {ys:List Int} {c:Int} {e:Ending} (hb:bndR T c=false) (hl:32 ≤ ys.length) (h:RetPush w gb t T hv ys c e w') :
  e=.returned (.tuple #[.slice none 0 0,.int .i64 7]) ∧ StrR w' gb t T hv ys ∧ onlyIn [gb] w w':=by
 rcases h with ⟨h,_⟩ | ⟨_,_,h1,h2,h3⟩ | ⟨_,h,_⟩
 ·rw [hb] at h;cases h
 ·exact ⟨h1,h2,h3⟩
 ·omega
theorem push_more {w w':World} {gb:Nat} {t:Tv} {T:Tab} {hv:Value} {ys:List Int} {c:Int} {e:Ending} (hb:bndR T c=false) (hl:ys.length < 32) (h:RetPush w gb t T hv ys c e w') :
  ∃ hv',e=.returned (.tuple #[.slice none 0 0,.int .i64 0]) ∧ StrR w' gb t T hv' (ys ++ [c]) ∧ (hv'.ownBlock=hv.ownBlock ∨ ∀ b,hv'.ownBlock=some b → w.heap.size ≤ b) ∧ onlyIn (gb :: ownS hv) w w':=by
 rcases h with ⟨h,_⟩ | ⟨_,h,_⟩ | ⟨_,_,hv',h1,h2,h3,h4⟩
 ·rw [hb] at h;cases h
 ·omega
 ·exact ⟨hv',h1,h2,h3,h4⟩
theorem xnB_no {a b c d:Int} {r:List Int} (h:a ≠ 120 ∨ b ≠ 110 ∨ c ≠ 45 ∨ d ≠ 45):xnB (a :: b :: c :: d :: r)=false:=by
 refine beq_eq_false_iff_ne.2 fun e => ?_
 simp only [List.take_succ_cons,List.take_zero,List.cons.injEq,and_true] at e
 omega
theorem all_take_next {α:Type} {P:α → Prop} {L:List α} {k:Nat} {z:α} (h:∀ y ∈ L.take k,P y) (hz:L[k]?=some z) (hp:P z):∀ y ∈ L.take (k + 1),P y:=by
 rw [ND.take_snoc_get hz]
 intro y hy
 rcases List.mem_append.1 hy with h1 | h1
 ·exact h y h1
 ·rw [List.mem_singleton] at h1;exact h1 ▸ hp
theorem top_len {T:Tab} (hck:T.check=0) {p acc ys:List Int} (h:StrInv T p acc ys) (hp:p.length ≤ 4096):acc.length ≤ 73728:=by
 have h1:=congrArg List.length h.done
 have h2:=nfcP_len (T:=T) p
 have h3:=(flatD_len (decOk_of hck) p).2
 simp only [List.length_append] at h1
 omega
end Go.Proofs.YtjafpikjpipbkaaGreatDoor
