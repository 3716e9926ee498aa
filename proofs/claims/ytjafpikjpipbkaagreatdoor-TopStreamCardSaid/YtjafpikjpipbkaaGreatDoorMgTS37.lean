/-
  Merged texts: lemmas and walks that the last text of this claim leans on.
-/
import Derived.Test.YtjafpikjpipbkaaGreatDoorMgTS36
import Derived.Test.YtjafpikjpipbkaaGreatDoorMgTS27
set_option maxRecDepth 100000
set_option maxHeartbeats 40000000
namespace Go.Proofs.YtjafpikjpipbkaaGreatDoor
open Go.RowKit ND
def OpB (w:World) (ob:Nat) (cs:Array Value):Prop:=∃ cur,Blk w ob 85 cur ∧ cur.toList.take cs.size=cs.toList
section
variable {w w':World} {ob:Nat} {cs:Array Value}
theorem OpB.at_ (h:OpB w ob cs) {i:Nat} {u:Value} (hi:cs[i]?=some u):w.cell? ⟨ob,i,none⟩=some u:=by
 obtain ⟨cur,hb,ht⟩:=h
 refine hb.at_ (i:=i) ?_
 have h1:cs.toList[i]?=some u:=by simpa using hi
 have h2:i < cs.size:=by
  rcases Nat.lt_or_ge i cs.size with h | h
  ·exact h
  ·rw [Array.getElem?_eq_none h] at hi;cases hi
 rw [← ht,List.getElem?_take,if_pos h2] at h1
 simpa using h1
theorem OpB.free (h:OpB w ob cs) (i:Nat):w.frozen? ⟨ob,i,none⟩=false:=by obtain ⟨cur,hb,_⟩:=h;exact hb.free i
theorem OpB.put (h:OpB w ob cs) (i:Nat) (u:Value) (cs':Array Value) (he:cs.setIfInBounds i u=cs'):OpB (w.setCell ⟨ob,i,none⟩ u) ob cs':=by
 obtain ⟨cur,hb,ht⟩:=h
 subst he
 refine ⟨cur.setIfInBounds i u,hb.put i u,?_⟩
 rw [Array.toList_setIfInBounds,Array.toList_setIfInBounds,Array.size_setIfInBounds,List.take_set,ht]
theorem OpB.lt (h:OpB w ob cs):ob < w.heap.size:=by obtain ⟨cur,hb,_⟩:=h;exact hb.lt
theorem OpB.later (h:OpB w ob cs) (hb:Below w.heap.size w w'):OpB w' ob cs:=by obtain ⟨cur,h1,h2⟩:=h;exact ⟨cur,h1.later hb,h2⟩
theorem OpB.only (h:OpB w ob cs) {S:List Nat} (ho:onlyIn S w w') (hn:ob ∉ S):OpB w' ob cs:=by obtain ⟨cur,h1,h2⟩:=h;exact ⟨cur,ho.blk h1 hn,h2⟩
theorem opb_own {base:Nat} {v:Value} {xs:List Value} (h:w.ownsRow base 85 23 v 1 xs):∃ g cap,v=.slice (some ⟨g,0,none⟩) 1 cap ∧ base ≤ g ∧ OpB w g xs.toArray:=by
 obtain ⟨hl,h0 | ⟨g,cap,cur,hv,hb,hg,_,_,hs,ht⟩⟩:=h
 ·omega
 ·refine ⟨g,cap,hv,hb,cur,hg,?_⟩
  simp only [List.size_toArray,hl];exact ht
end
def ocells (op ttl:Int) (nm:Value) (dc an ra:Int):Array Value :=
 #[.int .i64 0,.int .i64 op,.int .i64 ttl,nm,.int .i64 0,.int .i64 0,.string ⟨#[]⟩,.int .i64 0,.int .i64 0,.string ⟨#[]⟩,.int .i64 0,.int .i64 0,.int .i64 1,.int .i64 dc,.int .i64 an,.int .i64 0,.int .i64 ra,.string ⟨#[]⟩,.int .i64 0,.int .i64 0,.string ⟨#[]⟩,.int .i64 0,.int .i64 0]
theorem Tryz.infoOp:(Tryz.prog.info? 85).map (fun i => (i.zero,i.size,i.bytes))=some (some (.agg (ocells 0 0 (.slice none 0 0) 0 0 0 |>.setIfInBounds 12 (.int .i64 0))),23,232):=by kernel_rfl
theorem one23 (l:List Value) (h:l.all (·.oneCell')=true):∀ u ∈ l,u.oneCell'=true:=by simpa using h
def DS2 (B d:Nat) (w:World):Prop:=∃ a cc t ob oc,DS B d a cc w 1 (.slice (some ⟨ob,0,none⟩) 1 oc) 0 #[] 1 1 (mcells t 1 txH 0 0 (.slice none 0 0) 0 (.slice none 0 0) 0) 0 none true ∧ (∀ W C,TabR W C t T0) ∧ a.ca < ob ∧ OpB w ob (ocells 0 0 (.slice none 0 0) (-1) (-1) 0)
theorem begin1_any (B d:Nat) (w:World) (h:DS1 B d w) :
  Calls Tryz.prog 119 #[.pointer (some ⟨d,0,none⟩),.int .i64 0,.int .i64 1] w fun e w' => e=.returned (.bool true) ∧ DS2 B d w' ∧ Below B w w':=by
 obtain ⟨a,cc,t,hd,ht⟩:=h
 obtain ⟨i0,hi,hz0,hz1,hz2⟩:=info_parts Tryz.infoOp
 have hO:=hd.ord.ge
 have hord:=hd.ord
 unfold OrdA at hord
 have hcal:=hd.cal
 have hBw:B ≤ w.heap.size:=by omega
 have y1:w.cell? ⟨d,1,none⟩=some (.slice (some ⟨a.ca,0,none⟩) 1 cc):=hd.dsk.at_ (i:=1) rfl
 have y3:w.cell? ⟨d,3,none⟩=some (.slice none 0 0):=hd.dsk.at_ (i:=3) rfl
 have yc:=hd.cla
 have yb:w.cell? ⟨a.c,0,none⟩=some (.pointer (some ⟨a.bx,0,none⟩)):=hd.cli.at_ (i:=0) rfl
 have HT:=Lib.hid ht
 have HTK:=Lib.hid (mtake_any txH a.bx a.ch w hd.box hd.chn)
 have HD:=Lib.hid (hd.put_ch #[] 1 1)
 have HO:=Lib.hid (only_setChan (S:=[a.ch]) (w:=w) (g:=a.ch) (by simp) 8 #[] false 1 1 false)
 clear hd ht
 go_enter Tryz.func119,Tryz.ntmps119
 go_upto_region 5 with (go_at_call 152;refine HTK.out.mono ?_;rintro e w1 ⟨rfl,rfl⟩)
 have HB:=Lib.hid (HO.out.below (B:=B) (by intro x hx;simp at hx;omega) hBw)
 clear HTK HO y1 y3 yc yb
 generalize w.setChan a.ch 8 #[] false 1 1 false=w1 at *
 have ym:w1.cell? ⟨a.c,1,none⟩=some (.pointer (some ⟨a.m,0,none⟩)):=HD.out.cli.at_ (i:=1) rfl
 have HBG:=Lib.hid (begin_any a.m t txH w1 HD.out.mac (HT.out _ _))
 go_upto_region 7 with (go_at_call 153;refine HBG.out.mono ?_;rintro e w2 ⟨rfl,hm2,ho2⟩)
 have HD2:=Lib.hid (HD.out.step_m ho2 hm2)
 have hBw1:B ≤ w1.heap.size:=by have:=HD.out.cal;omega
 have HB2:=Lib.hid (HB.out.trans (ho2.below (B:=B) (by intro x hx;simp at hx;omega) hBw1))
 clear HD HB hm2 ho2 HBG ym
 have y3:w2.cell? ⟨d,3,none⟩=some (.slice none 0 0):=HD2.out.dsk.at_ (i:=3) rfl
 have yo:w2.cell? ⟨a.c,2,none⟩=some (.int .i64 0):=HD2.out.cli.at_ (i:=2) rfl
 have fo:=HD2.out.cli.free 2
 go_upto_region 8 with fail
 have ho3:onlyIn [a.c] w2 (w2.setCell ⟨a.c,2,none⟩ (.int .i64 0)):=onlyIn_set (onlyIn.refl _ _) (p:=⟨a.c,2,none⟩) (by simp) _
 have hBw2:B ≤ w2.heap.size:=by have:=HD2.out.cal;omega
 have HD3:=Lib.hid (HD2.out.put_c 0 ho3 (by simpa using HD2.out.cli.put 2 (.int .i64 0)))
 have HB3:=Lib.hid (HB2.out.trans (ho3.below (B:=B) (by intro x hx;simp at hx;omega) hBw2))
 clear y3 yo fo ho3 HD2 HB2 hBw2
 generalize w2.setCell ⟨a.c,2,none⟩ (.int .i64 0)=w3 at *
 have y3:w3.cell? ⟨d,3,none⟩=some (.slice none 0 0):=HD3.out.dsk.at_ (i:=3) rfl
 go_wp2_with (at_builtin;refine wpList_append_own _ rfl _ _ 77 rfl w3.heap.size 85 i0 _ 23 232 Tryz.underlying77 hi hz0 hz1 hz2 rfl (by decide) _ _ _ rfl (World.ownsRow_nil _ _ _ _) ⟨w3.heap.size,0,none⟩ 1 1 (ocells 0 0 (.slice none 0 0) (-1) (-1) 0).toList rfl rfl (cells_new _ _ _) ?c2 ?c3 ?c4 ?c5 ?_)
 case c2 => exact one23 _ (by simp [ocells,Value.oneCell'])
 case c3 => unfold maxLen;omega
 case c4 => omega
 case c5 => simp
 intro v2 w4 ho4 hg4 _
 have b4:Below w3.heap.size w3 w4:=((Below.refl _ w3).alloc (Nat.le_refl _) _).grown hg4 (by simp) (by intro k hk;cases hk)
 obtain ⟨ob,oc,rfl,hge,hop⟩:=opb_own ho4
 have HD4:=Lib.hid (HD3.out.later b4)
 have hBw3:B ≤ w3.heap.size:=by have:=HD3.out.cal;omega
 have hcb:a.ca < ob:=by have:=HD3.out.cal;omega
 have HB4:=Lib.hid (HB3.out.trans (b4.mono hBw3))
 have HP:=Lib.hid hop
 clear ho4 hg4 b4 hop HD3 HB3 y3
 have y3:w4.cell? ⟨d,3,none⟩=some (.slice none 0 0):=HD4.out.dsk.at_ (i:=3) rfl
 have f3:=HD4.out.dsk.free 3
 go_wp2_with fail
 have ho5:onlyIn [d] w4 (w4.setCell ⟨d,3,none⟩ (.slice (some ⟨ob,0,none⟩) 1 oc)):=onlyIn_set (onlyIn.refl _ _) (p:=⟨d,3,none⟩) (by simp) _
 have HD5:=Lib.hid (HD4.out.put_d 1 (.slice (some ⟨ob,0,none⟩) 1 oc) ho5 (by simpa using HD4.out.dsk.put 3 (.slice (some ⟨ob,0,none⟩) 1 oc)))
 have HP5:=Lib.hid (HP.out.only ho5 (by simp;omega))
 have HB5:=Lib.hid (HB4.out.trans (ho5.below (B:=B) (by intro x hx;simp at hx;omega) (by have:=HD4.out.cal;omega)))
 go_ret
 exact ⟨rfl,⟨a,cc,t,ob,oc,HD5.out,HT.out,hcb,HP5.out⟩,HB5.out⟩
end Go.Proofs.YtjafpikjpipbkaaGreatDoor
namespace Go.Proofs.YtjafpikjpipbkaaGreatDoor
open Go.RowKit ND
def RcS (w:World) (ob ca:Nat) (rc:Value) (o:Option (Int × ByteArray × Int)):Prop :=
 match o with
 | none => rc=.slice none 0 0
 | some (x,s,dl) => ∃ gr cr,rc=.slice (some ⟨gr,0,none⟩) 1 cr ∧ RecAt w gr x s dl ∧ ca < gr ∧ gr < w.heap.size ∧ gr ≠ ob
theorem RcS.only {w w':World} {ob ca:Nat} {rc:Value} {o:Option (Int × ByteArray × Int)} (h:RcS w ob ca rc o) {S:List Nat} (ho:onlyIn S w w') (hS:∀ x ∈ S,x ≤ ca ∨ x=ob):RcS w' ob ca rc o:=by
 cases o with
 | none => exact h
 | some q =>
   obtain ⟨gr,cr,e,hr,h1,h2,h3⟩:=h
   exact ⟨gr,cr,e,hr.only h2 ho (fun hm => by rcases hS _ hm with h | h <;> omega),h1,Nat.lt_of_lt_of_le h2 ho.2.2.2.1,h3⟩
structure Md (B d:Nat) (a:Adr) (cc:Nat) (t:Tv) (ob oc gn cn:Nat) (steps ph:Int) (rc:Value) (ra cnt:Int) (lo:Option (Nat × ByteArray)) (stp:Bool) (ro:Int) (rec:Option (Int × ByteArray × Int)) (w:World):Prop where
 ds:DS B d a cc w steps (.slice (some ⟨ob,0,none⟩) 1 oc) 0 #[] 1 1 (mcells t ph txH 1 5 (.slice (some ⟨gn,0,none⟩) 1 cn) 0 rc ra) cnt lo stp
 ops:∃ op ttl nm dc an,OpB w ob (ocells op ttl nm dc an ro)
 nam:NameAt w gn
 rcs:RcS w ob a.ca rc rec
 ob1:a.ca < ob
 gn1:a.ca < gn
 gnl:gn < w.heap.size
 ne:gn ≠ ob
def Nm (a:Adr) (ob:Nat) (ro:Int) (w:World):Prop:=∃ gm cm op ttl dc an,OpB w ob (ocells op ttl (.slice (some ⟨gm,0,none⟩) 1 cm) dc an ro) ∧ NameAt w gm ∧ a.ca < gm ∧ gm < w.heap.size ∧ gm ≠ ob
section
variable {B d:Nat} {a:Adr} {cc:Nat} {t:Tv} {ob oc gn cn:Nat} {steps ph:Int} {rc:Value} {ra cnt:Int} {lo:Option (Nat × ByteArray)} {stp:Bool} {ro:Int} {rec:Option (Int × ByteArray × Int)} {w w':World}
theorem Md.put (h:Md B d a cc t ob oc gn cn steps ph rc ra cnt lo stp ro rec w) (ho:onlyIn [ob] w w') {op ttl:Int} {nm:Value} {dc an ro':Int} (hp:OpB w' ob (ocells op ttl nm dc an ro')):Md B d a cc t ob oc gn cn steps ph rc ra cnt lo stp ro' rec w' :=
 ⟨h.ds.step_o ho (by intro x hx;simp at hx;subst hx;exact h.ob1),⟨_,_,_,_,_,hp⟩,h.nam.only h.gnl ho (by simp;exact h.ne),h.rcs.only ho (by intro x hx;simp at hx;exact .inr hx),h.ob1,h.gn1,Nat.lt_of_lt_of_le h.gnl ho.2.2.2.1,h.ne⟩
theorem Md.later (h:Md B d a cc t ob oc gn cn steps ph rc ra cnt lo stp ro rec w) (hb:Below w.heap.size w w'):Md B d a cc t ob oc gn cn steps ph rc ra cnt lo stp ro rec w':=by
 obtain ⟨op,ttl,nm,dc,an,hp⟩:=h.ops
 exact ⟨h.ds.later hb,⟨op,ttl,nm,dc,an,hp.later hb⟩,h.nam.later h.gnl hb,h.rcs.only (onlyIn.of_below (S:=[]) hb) (by simp),h.ob1,h.gn1,Nat.lt_of_lt_of_le h.gnl hb.size,h.ne⟩
end
theorem opb_rsp {w:World} {ob:Nat} {nm:Value} {dc an ro:Int} (h:OpB w ob (ocells 1 5 nm dc an ro)) (step ra:Int):OpB (((((((((w.setCell ⟨ob,13,none⟩ (.int .i64 step)).setCell ⟨ob,15,none⟩ (.int .i64 0)).setCell ⟨ob,16,none⟩ (.int .i64 ra)).setCell ⟨ob,17,none⟩ (.string ⟨#[]⟩)).setCell ⟨ob,18,none⟩ (.int .i64 0)).setCell ⟨ob,19,none⟩ (.int .i64 0)).setCell ⟨ob,20,none⟩ (.string ⟨#[]⟩)).setCell ⟨ob,21,none⟩ (.int .i64 0)).setCell ⟨ob,22,none⟩ (.int .i64 0)) ob (ocells 1 5 nm step an ra):=by
 have h13:=h.put 13 (.int .i64 step) (ocells 1 5 nm step an ro) (by simp [ocells])
 have h15:=h13.put 15 (.int .i64 0) (ocells 1 5 nm step an ro) (by simp [ocells])
 have h16:=h15.put 16 (.int .i64 ra) (ocells 1 5 nm step an ra) (by simp [ocells])
 have h17:=h16.put 17 (.string ⟨#[]⟩) (ocells 1 5 nm step an ra) (by simp [ocells])
 have h18:=h17.put 18 (.int .i64 0) (ocells 1 5 nm step an ra) (by simp [ocells])
 have h19:=h18.put 19 (.int .i64 0) (ocells 1 5 nm step an ra) (by simp [ocells])
 have h20:=h19.put 20 (.string ⟨#[]⟩) (ocells 1 5 nm step an ra) (by simp [ocells])
 have h21:=h20.put 21 (.int .i64 0) (ocells 1 5 nm step an ra) (by simp [ocells])
 have h22:=h21.put 22 (.int .i64 0) (ocells 1 5 nm step an ra) (by simp [ocells])
 exact h22
theorem dpick_any (B d:Nat) (a:Adr) (cc:Nat) (t:Tv) (ob oc:Nat) (steps ph ra cnt:Int) (lo:Option (Nat × ByteArray)) (stp:Bool) (ro:Int) (rec:Option (Int × ByteArray × Int)) (r:Int) (hr:r=1 ∨ r=3 ∨ r=4) (w:World)
  (opn0:Int) (buf0:Array Value) (cs0 cr0:Nat) (mc0:Array Value) (cnt0:Int) (lo0:Option (Nat × ByteArray)) (stp0:Bool) (opv0:Value) (steps0:Int) (h:DS B d a cc w steps0 opv0 opn0 buf0 cs0 cr0 mc0 cnt0 lo0 stp0) (ph0:Int) (hp:w.cell? ⟨a.m,13,none⟩=some (.int .i64 ph0)) (hp0:ph0 ≠ 0) (step:Int)
  (hs:Calls Tryz.prog 120 #[.pointer (some ⟨a.m,0,none⟩),.pointer (some ⟨a.sh,0,none⟩)] w.drew fun e w' => e=.returned (.int .i64 r) ∧ (∃ gn cn rc,Md B d a cc t ob oc gn cn steps ph rc ra cnt lo stp ro rec w') ∧ Below B w w') :
  Calls Tryz.prog 70 #[.pointer (some ⟨d,0,none⟩),.int .i64 0,.int .i64 step] w fun e w' => e=.returned (.bool true) ∧ (∃ gn cn rc ro',(r=3 → ro'=ra) ∧ (r ≠ 3 → ro'=ro) ∧ Md B d a cc t ob oc gn cn steps ph rc ra cnt lo stp ro' rec w' ∧ Nm a ob ro' w') ∧ Below B w w':=by
 have y1:w.cell? ⟨d,1,none⟩=some (.slice (some ⟨a.ca,0,none⟩) 1 cc):=h.dsk.at_ (i:=1) rfl
 have y0:w.cell? ⟨d,0,none⟩=some (.pointer (some ⟨a.sh,0,none⟩)):=h.dsk.at_ (i:=0) rfl
 have yc:=h.cla
 have ym:w.cell? ⟨a.c,1,none⟩=some (.pointer (some ⟨a.m,0,none⟩)):=h.cli.at_ (i:=1) rfl
 have HP:=Lib.hid (phase_any a.m ph0 w hp)
 have HS:=Lib.hid hs
 have hq:(ph0 == 0)=false:=by simpa using hp0
 clear h hp hs hp0
 go_enter Tryz.func70,Tryz.ntmps70
 go_upto_region 4 with (go_at_call 118;refine HP.out.mono ?_;rintro e w1 ⟨rfl,rfl⟩)
 clear HP y1 yc
 go_region_held3 (fun W => W.cell? ⟨a.c,1,none⟩=some (.pointer (some ⟨a.m,0,none⟩)) ∧ W.cell? ⟨d,0,none⟩=some (.pointer (some ⟨a.sh,0,none⟩))) (go_keep) ((go_at_call 120;refine HS.out.mono ?_;rintro e w4 ⟨rfl,⟨gn,cn,rc,hd4⟩,hb4⟩;have q1:w4.cell? ⟨a.c,1,none⟩=some (.pointer (some ⟨a.m,0,none⟩)):=hd4.ds.cli.at_ (i:=1) rfl;have q0:w4.cell? ⟨d,0,none⟩=some (.pointer (some ⟨a.sh,0,none⟩)):=hd4.ds.dsk.at_ (i:=0) rfl))
 have HD:=Lib.hid hd4
 have HB:=Lib.hid hb4
 clear hd4 hb4 q0 q1 y0 ym HS hq
 obtain ⟨op,ttl,nm,dc,an,hop⟩:=HD.out.ops
 have HP:=Lib.hid hop
 clear hop
 have hcal:=HD.out.ds.cal
 have hord:=HD.out.ds.ord
 have hO:=hord.ge
 unfold OrdA at hord
 have hob1:=HD.out.ob1
 have hgn1:=HD.out.gn1
 have y3:w4.cell? ⟨d,3,none⟩=some (.slice (some ⟨ob,0,none⟩) 1 oc):=HD.out.ds.dsk.at_ (i:=3) rfl
 have yo:w4.cell? ⟨a.c,2,none⟩=some (.int .i64 0):=HD.out.ds.cli.at_ (i:=2) rfl
 have ym:w4.cell? ⟨a.c,1,none⟩=some (.pointer (some ⟨a.m,0,none⟩)):=HD.out.ds.cli.at_ (i:=1) rfl
 go_upto_region 5 with fail
 go_quiet (fail)
 have hbq:=below_drewN (Below.refl w4.heap.size w4) nq
 have HD5:=Lib.hid (HD.out.later hbq)
 have HP5:=Lib.hid (HP.out.later hbq)
 have hBw:B ≤ w4.heap.size:=by omega
 have HB5:=Lib.hid (HB.out.trans (hbq.mono hBw))
 clear HD HP HB hbq y3 yo ym hcal
 generalize w4.drewN nq=w5 at *
 have ym:w5.cell? ⟨a.c,1,none⟩=some (.pointer (some ⟨a.m,0,none⟩)):=HD5.out.ds.cli.at_ (i:=1) rfl
 have HRQ:=Lib.hid (request_any a.m 1 5 w5 (HD5.out.ds.mac.at_ (i:=15) rfl) (HD5.out.ds.mac.at_ (i:=16) rfl))
 go_upto_region 7 with (go_at_call 121;refine HRQ.out.mono ?_;rintro e w6 ⟨rfl,b6⟩;have p1:w6.cell? ⟨ob,1,none⟩=some (.int .i64 op):=(HP5.out.later b6).at_ (i:=1) rfl;have p2:w6.cell? ⟨ob,2,none⟩=some (.int .i64 ttl):=(HP5.out.later b6).at_ (i:=2) rfl;have f1:=(HP5.out.later b6).free 1;have f2:=(HP5.out.later b6).free 2)
 have HD6:=Lib.hid (HD5.out.later b6)
 have HP6:=Lib.hid (HP5.out.later b6)
 have hBw5:B ≤ w5.heap.size:=by have:=HD5.out.ds.cal;omega
 have HB6:=Lib.hid (HB5.out.trans (b6.mono hBw5))
 clear HD5 HP5 HB5 HRQ p1 p2 f1 f2 b6 ym
 have ho7:onlyIn [ob] w6 ((w6.setCell ⟨ob,1,none⟩ (.int .i64 1)).setCell ⟨ob,2,none⟩ (.int .i64 5)):=onlyIn_set (onlyIn_set (onlyIn.refl _ _) (p:=⟨ob,1,none⟩) (by simp) _) (p:=⟨ob,2,none⟩) (by simp) _
 have hp7:OpB ((w6.setCell ⟨ob,1,none⟩ (.int .i64 1)).setCell ⟨ob,2,none⟩ (.int .i64 5)) ob (ocells 1 5 nm dc an ro):=(HP6.out.put 1 _ (ocells 1 ttl nm dc an ro) (by simp [ocells])).put 2 _ _ (by simp [ocells])
 have HD7:=Lib.hid (HD6.out.put ho7 hp7)
 have HP7:=Lib.hid hp7
 have hBw6:B ≤ w6.heap.size:=by have:=HD6.out.ds.cal;omega
 have HB7:=Lib.hid (HB6.out.trans (ho7.below (B:=B) (by intro x hx;simp at hx;omega) hBw6))
 clear HD6 HP6 HB6 ho7 hp7
 generalize (w6.setCell ⟨ob,1,none⟩ (.int .i64 1)).setCell ⟨ob,2,none⟩ (.int .i64 5)=w7 at *
 have ym:w7.cell? ⟨a.c,1,none⟩=some (.pointer (some ⟨a.m,0,none⟩)):=HD7.out.ds.cli.at_ (i:=1) rfl
 have HNM:=Lib.hid (names_one a.m gn cn w7 (HD7.out.ds.mac.at_ (i:=17) rfl) HD7.out.nam HD7.out.gnl)
 go_upto_region 8 with (go_at_call 122;refine HNM.out.mono ?_;rintro e w8 ⟨gm,cm,rfl,g1,g2,g3,b8⟩;have p3:w8.cell? ⟨ob,3,none⟩=some nm:=(HP7.out.later b8).at_ (i:=3) rfl;have f3:=(HP7.out.later b8).free 3)
 have HD8:=Lib.hid (HD7.out.later b8)
 have HP8:=Lib.hid (HP7.out.later b8)
 have hBw7:B ≤ w7.heap.size:=by have:=HD7.out.ds.cal;omega
 have HB8:=Lib.hid (HB7.out.trans (b8.mono hBw7))
 have hobl:ob < w7.heap.size:=HP7.out.lt
 have hcal7:a.ca < w7.heap.size:=HD7.out.ds.cal
 clear HD7 HP7 HB7 HNM p3 f3 b8 ym
 have ho9:onlyIn [ob] w8 (w8.setCell ⟨ob,3,none⟩ (.slice (some ⟨gm,0,none⟩) 1 cm)):=onlyIn_set (onlyIn.refl _ _) (p:=⟨ob,3,none⟩) (by simp) _
 have hp9:OpB (w8.setCell ⟨ob,3,none⟩ (.slice (some ⟨gm,0,none⟩) 1 cm)) ob (ocells 1 5 (.slice (some ⟨gm,0,none⟩) 1 cm) dc an ro):=HP8.out.put 3 _ _ (by simp [ocells])
 have HD9:=Lib.hid (HD8.out.put ho9 hp9)
 have HP9:=Lib.hid hp9
 have hBw8:B ≤ w8.heap.size:=by have:=HD8.out.ds.cal;omega
 have HB9:=Lib.hid (HB8.out.trans (ho9.below (B:=B) (by intro x hx;simp at hx;omega) hBw8))
 have HG9:=Lib.hid (g3.only g2 ho9 (by simp;omega))
 have hgm:a.ca < gm:=by omega
 have hgo:gm ≠ ob:=by omega
 have hgl:gm < (w8.setCell ⟨ob,3,none⟩ (.slice (some ⟨gm,0,none⟩) 1 cm)).heap.size:=by simpa using g2
 clear HD8 HP8 HB8 ho9 hp9 g1 g2 g3
 generalize w8.setCell ⟨ob,3,none⟩ (.slice (some ⟨gm,0,none⟩) 1 cm)=w9 at *
 rcases hr with rfl | rfl | rfl
 ·go_wp2_with fail
  go_ret
  exact ⟨rfl,⟨gn,cn,rc,ro,(by omega),fun _ => rfl,HD9.out,gm,cm,1,5,dc,an,HP9.out,HG9.out,hgm,hgl,hgo⟩,HB9.out⟩
 ·have ym:w9.cell? ⟨a.c,1,none⟩=some (.pointer (some ⟨a.m,0,none⟩)):=HD9.out.ds.cli.at_ (i:=1) rfl
  have HRS:=Lib.hid (response_any a.m t ph txH 1 5 (.slice (some ⟨gn,0,none⟩) 1 cn) 0 rc ra w9 HD9.out.ds.mac)
  go_upto_region 11 with (go_at_call 123;refine HRS.out.mono ?_;rintro e w10 ⟨rfl,b10⟩;have p13:w10.cell? ⟨ob,13,none⟩=some (.int .i64 dc):=(HP9.out.later b10).at_ (i:=13) rfl;have f13:=(HP9.out.later b10).free 13;have p15:w10.cell? ⟨ob,15,none⟩=some (.int .i64 0):=(HP9.out.later b10).at_ (i:=15) rfl;have f15:=(HP9.out.later b10).free 15;have p16:w10.cell? ⟨ob,16,none⟩=some (.int .i64 ro):=(HP9.out.later b10).at_ (i:=16) rfl;have f16:=(HP9.out.later b10).free 16;have p17:w10.cell? ⟨ob,17,none⟩=some (.string ⟨#[]⟩):=(HP9.out.later b10).at_ (i:=17) rfl;have f17:=(HP9.out.later b10).free 17;have p18:w10.cell? ⟨ob,18,none⟩=some (.int .i64 0):=(HP9.out.later b10).at_ (i:=18) rfl;have f18:=(HP9.out.later b10).free 18;have p19:w10.cell? ⟨ob,19,none⟩=some (.int .i64 0):=(HP9.out.later b10).at_ (i:=19) rfl;have f19:=(HP9.out.later b10).free 19;have p20:w10.cell? ⟨ob,20,none⟩=some (.string ⟨#[]⟩):=(HP9.out.later b10).at_ (i:=20) rfl;have f20:=(HP9.out.later b10).free 20;have p21:w10.cell? ⟨ob,21,none⟩=some (.int .i64 0):=(HP9.out.later b10).at_ (i:=21) rfl;have f21:=(HP9.out.later b10).free 21;have p22:w10.cell? ⟨ob,22,none⟩=some (.int .i64 0):=(HP9.out.later b10).at_ (i:=22) rfl;have f22:=(HP9.out.later b10).free 22)
  have HD10:=Lib.hid (HD9.out.later b10)
  have HP10:=Lib.hid (HP9.out.later b10)
  have hBw9:B ≤ w9.heap.size:=by have:=HD9.out.ds.cal;omega
  have HB10:=Lib.hid (HB9.out.trans (b10.mono hBw9))
  have HG10:=Lib.hid (HG9.out.later hgl b10)
  have hgl10:gm < w10.heap.size:=Nat.lt_of_lt_of_le hgl b10.size
  clear HD9 HP9 HB9 HG9 HRS p13 f13 p15 f15 p16 f16 p17 f17 p18 f18 p19 f19 p20 f20 p21 f21 p22 f22 b10 ym hgl
  have ho11:onlyIn [ob] w10 (((((((((w10.setCell ⟨ob,13,none⟩ (.int .i64 step)).setCell ⟨ob,15,none⟩ (.int .i64 0)).setCell ⟨ob,16,none⟩ (.int .i64 ra)).setCell ⟨ob,17,none⟩ (.string ⟨#[]⟩)).setCell ⟨ob,18,none⟩ (.int .i64 0)).setCell ⟨ob,19,none⟩ (.int .i64 0)).setCell ⟨ob,20,none⟩ (.string ⟨#[]⟩)).setCell ⟨ob,21,none⟩ (.int .i64 0)).setCell ⟨ob,22,none⟩ (.int .i64 0)):=onlyIn_set (onlyIn_set (onlyIn_set (onlyIn_set (onlyIn_set (onlyIn_set (onlyIn_set (onlyIn_set (onlyIn_set (onlyIn.refl _ _) (p:=⟨ob,13,none⟩) (by simp) _) (p:=⟨ob,15,none⟩) (by simp) _) (p:=⟨ob,16,none⟩) (by simp) _) (p:=⟨ob,17,none⟩) (by simp) _) (p:=⟨ob,18,none⟩) (by simp) _) (p:=⟨ob,19,none⟩) (by simp) _) (p:=⟨ob,20,none⟩) (by simp) _) (p:=⟨ob,21,none⟩) (by simp) _) (p:=⟨ob,22,none⟩) (by simp) _
  have hp11:OpB (((((((((w10.setCell ⟨ob,13,none⟩ (.int .i64 step)).setCell ⟨ob,15,none⟩ (.int .i64 0)).setCell ⟨ob,16,none⟩ (.int .i64 ra)).setCell ⟨ob,17,none⟩ (.string ⟨#[]⟩)).setCell ⟨ob,18,none⟩ (.int .i64 0)).setCell ⟨ob,19,none⟩ (.int .i64 0)).setCell ⟨ob,20,none⟩ (.string ⟨#[]⟩)).setCell ⟨ob,21,none⟩ (.int .i64 0)).setCell ⟨ob,22,none⟩ (.int .i64 0)) ob (ocells 1 5 (.slice (some ⟨gm,0,none⟩) 1 cm) step an ra):=opb_rsp HP10.out step ra
  have HD11:=Lib.hid (HD10.out.put ho11 hp11)
  have HP11:=Lib.hid hp11
  have HB11:=Lib.hid (HB10.out.trans (ho11.below (B:=B) (by intro x hx;simp at hx;omega) (by have:=HD10.out.ds.cal;omega)))
  have HG11:=Lib.hid (HG10.out.only hgl10 ho11 (by simp;omega))
  have hgl11:gm < (((((((((w10.setCell ⟨ob,13,none⟩ (.int .i64 step)).setCell ⟨ob,15,none⟩ (.int .i64 0)).setCell ⟨ob,16,none⟩ (.int .i64 ra)).setCell ⟨ob,17,none⟩ (.string ⟨#[]⟩)).setCell ⟨ob,18,none⟩ (.int .i64 0)).setCell ⟨ob,19,none⟩ (.int .i64 0)).setCell ⟨ob,20,none⟩ (.string ⟨#[]⟩)).setCell ⟨ob,21,none⟩ (.int .i64 0)).setCell ⟨ob,22,none⟩ (.int .i64 0)).heap.size:=Nat.lt_of_lt_of_le hgl10 ho11.2.2.2.1
  clear HD10 HP10 HB10 HG10 hgl10 ho11 hp11
  generalize ((((((((w10.setCell ⟨ob,13,none⟩ (.int .i64 step)).setCell ⟨ob,15,none⟩ (.int .i64 0)).setCell ⟨ob,16,none⟩ (.int .i64 ra)).setCell ⟨ob,17,none⟩ (.string ⟨#[]⟩)).setCell ⟨ob,18,none⟩ (.int .i64 0)).setCell ⟨ob,19,none⟩ (.int .i64 0)).setCell ⟨ob,20,none⟩ (.string ⟨#[]⟩)).setCell ⟨ob,21,none⟩ (.int .i64 0)).setCell ⟨ob,22,none⟩ (.int .i64 0)=w11 at *
  have p1:w11.cell? ⟨ob,1,none⟩=some (.int .i64 1):=HP11.out.at_ (i:=1) rfl
  go_wp2_with fail
  go_ret
  exact ⟨rfl,⟨⟨gn,cn,rc,HD11.out⟩,gm,cm,1,5,step,an,HP11.out,HG11.out,hgm,hgl11,hgo⟩,HB11.out⟩
 ·have p14:w9.cell? ⟨ob,14,none⟩=some (.int .i64 an):=HP9.out.at_ (i:=14) rfl
  have f14:=HP9.out.free 14
  go_wp2_with fail
  have ho:onlyIn [ob] w9 (w9.setCell ⟨ob,14,none⟩ (.int .i64 step)):=onlyIn_set (onlyIn.refl _ _) (p:=⟨ob,14,none⟩) (by simp) _
  have hp:OpB (w9.setCell ⟨ob,14,none⟩ (.int .i64 step)) ob (ocells 1 5 (.slice (some ⟨gm,0,none⟩) 1 cm) dc step ro):=HP9.out.put 14 _ _ (by simp [ocells])
  have HD10:=Lib.hid (HD9.out.put ho hp)
  have HB10:=Lib.hid (HB9.out.trans (ho.below (B:=B) (by intro x hx;simp at hx;omega) (by have:=HD9.out.ds.cal;omega)))
  have HG10:=Lib.hid (HG9.out.only hgl ho (by simp;omega))
  go_ret
  exact ⟨rfl,⟨gn,cn,rc,ro,(by omega),fun _ => rfl,HD10.out,gm,cm,1,5,dc,step,hp,HG10.out,hgm,(by simpa using hgl),hgo⟩,HB10.out⟩
end Go.Proofs.YtjafpikjpipbkaaGreatDoor
namespace Go.Proofs.YtjafpikjpipbkaaGreatDoor
open Go.RowKit ND
def DS2s (B d:Nat) (w:World):Prop:=∃ st a cc t ob oc,DS B d a cc w st (.slice (some ⟨ob,0,none⟩) 1 oc) 0 #[] 1 1 (mcells t 1 txH 0 0 (.slice none 0 0) 0 (.slice none 0 0) 0) 0 none true ∧ (∀ W C,TabR W C t T0) ∧ a.ca < ob ∧ OpB w ob (ocells 0 0 (.slice none 0 0) (-1) (-1) 0)
def SgM (B d:Nat) (ph:Int) (rec:Option (Int × ByteArray × Int)) (ra cnt:Int) (lo:Option (Nat × ByteArray)) (stp:Bool) (ro:Int) (w:World):Prop:=∃ a cc t ob oc gn cn steps rc,Md B d a cc t ob oc gn cn steps ph rc ra cnt lo stp ro rec w ∧ Nm a ob ro w
theorem Nm.only {a:Adr} {ob:Nat} {ro:Int} {w w':World} (h:Nm a ob ro w) {S:List Nat} (ho:onlyIn S w w') (hS:∀ x ∈ S,x ≤ a.ca) (hob:a.ca < ob):Nm a ob ro w':=by
 obtain ⟨gm,cm,op,ttl,dc,an,h1,h2,h3,h4,h5⟩:=h
 exact ⟨gm,cm,op,ttl,dc,an,h1.only ho (fun hm => by have:=hS _ hm;omega),h2.only h4 ho (fun hm => by have:=hS _ hm;omega),h3,Nat.lt_of_lt_of_le h4 ho.2.2.2.1,h5⟩
def lkA:Option (Nat × ByteArray):=some (homeK kA 2048,kA)
def Sg (B d:Nat):Nat → World → Prop
 | 0,w => DS1 B d w
 | 1,w => DS2s B d w
 | 2,w => SgM B d 2 none 0 0 none true 0 w
 | 3,w => SgM B d 3 none 0 0 lkA true 0 w
 | 4,w => SgM B d 4 (some (0,⟨#[]⟩,0)) 0 0 lkA true 0 w
 | 5,w => SgM B d 5 (some (1,kA,5)) (-1) 1 lkA true (-1) w
 | 6,w => SgM B d 6 (some (1,kA,5)) (-1) 1 lkA false (-1) w
 | 7,w => SgM B d 7 (some (1,kA,5)) (-1) 1 none false (-1) w
 | _,w => SgM B d 0 (some (1,kA,5)) (-1) 1 none false (-1) w
section
variable {B d:Nat} {w w':World} {ph:Int} {rec:Option (Int × ByteArray × Int)} {ra cnt:Int} {lo:Option (Nat × ByteArray)} {stp:Bool} {ro:Int}
theorem DS1.later (h:DS1 B d w) (hb:Below w.heap.size w w'):DS1 B d w':=by
 obtain ⟨a,cc,t,h1,h2⟩:=h
 exact ⟨a,cc,t,h1.later hb,h2⟩
theorem DS2s.later (h:DS2s B d w) (hb:Below w.heap.size w w'):DS2s B d w':=by
 obtain ⟨st,a,cc,t,ob,oc,h1,h2,h3,h4⟩:=h
 exact ⟨st,a,cc,t,ob,oc,h1.later hb,h2,h3,h4.later hb⟩
theorem SgM.later (h:SgM B d ph rec ra cnt lo stp ro w) (hb:Below w.heap.size w w'):SgM B d ph rec ra cnt lo stp ro w':=by
 obtain ⟨a,cc,t,ob,oc,gn,cn,steps,rc,h1,h2⟩:=h
 exact ⟨a,cc,t,ob,oc,gn,cn,steps,rc,h1.later hb,h2.only (onlyIn.of_below (S:=[]) hb) (by simp) h1.ob1⟩
theorem Sg.later {k:Nat} (h:Sg B d k w) (hb:Below w.heap.size w w'):Sg B d k w':=by
 unfold Sg at h ⊢
 split at h <;> first | exact h.later hb | exact DS1.later h hb | exact DS2s.later h hb | exact SgM.later h hb
def Dst (B d:Nat) (w:World):Prop:=∃ st:Int,w.cell? ⟨d,2,none⟩=some (.int .i64 st) ∧ w.frozen? ⟨d,2,none⟩=false ∧ B ≤ d ∧ d < w.heap.size
theorem DS.dst {a:Adr} {cc:Nat} {steps:Int} {opv:Value} {opn:Int} {buf:Array Value} {cs cr:Nat} {mc:Array Value} (h:DS B d a cc w steps opv opn buf cs cr mc cnt lo stp):Dst B d w :=
 ⟨steps,h.dsk.at_ (i:=2) rfl,h.dsk.free 2,h.ord.ge.1,h.dsk.lt⟩
theorem Sg.dst {k:Nat} (h:Sg B d k w):Dst B d w:=by
 unfold Sg at h
 split at h
 ·obtain ⟨a,cc,t,h1,_⟩:=h;exact h1.dst
 ·obtain ⟨st,a,cc,t,ob,oc,h1,_⟩:=h;exact h1.dst
 all_goals (obtain ⟨a,cc,t,ob,oc,gn,cn,steps,rc,h1,_⟩:=h;exact h1.ds.dst)
theorem DS2s.set (h:DS2s B d w) (x:Int):DS2s B d (w.setCell ⟨d,2,none⟩ (.int .i64 x)):=by
 obtain ⟨st,a,cc,t,ob,oc,h1,h2,h3,h4⟩:=h
 have ho:onlyIn [d] w (w.setCell ⟨d,2,none⟩ (.int .i64 x)):=onlyIn_set (onlyIn.refl _ _) (p:=⟨d,2,none⟩) (by simp) _
 have hord:=h1.ord
 unfold OrdA at hord
 exact ⟨x,a,cc,t,ob,oc,h1.put_d x _ ho (by simpa using h1.dsk.put 2 (.int .i64 x)),h2,h3,h4.only ho (by simp;omega)⟩
theorem SgM.set (h:SgM B d ph rec ra cnt lo stp ro w) (x:Int):SgM B d ph rec ra cnt lo stp ro (w.setCell ⟨d,2,none⟩ (.int .i64 x)):=by
 obtain ⟨a,cc,t,ob,oc,gn,cn,steps,rc,h1,h2⟩:=h
 have ho:onlyIn [d] w (w.setCell ⟨d,2,none⟩ (.int .i64 x)):=onlyIn_set (onlyIn.refl _ _) (p:=⟨d,2,none⟩) (by simp) _
 have hord:=h1.ds.ord
 unfold OrdA at hord
 have hob:=h1.ob1
 have hgn:=h1.gn1
 obtain ⟨op,ttl,nm,dc,an,hp⟩:=h1.ops
 exact ⟨a,cc,t,ob,oc,gn,cn,x,rc,⟨h1.ds.put_d x _ ho (by simpa using h1.ds.dsk.put 2 (.int .i64 x)),⟨op,ttl,nm,dc,an,hp.only ho (by simp;omega)⟩,h1.nam.only h1.gnl ho (by simp;omega),h1.rcs.only ho (by intro y hy;simp at hy;exact .inl (by omega)),h1.ob1,h1.gn1,Nat.lt_of_lt_of_le h1.gnl ho.2.2.2.1,h1.ne⟩,h2.only ho (by intro y hy;simp at hy;omega) hob⟩
theorem Sg.set {k:Nat} (h:Sg B d (k + 1) w) (x:Int):Sg B d (k + 1) (w.setCell ⟨d,2,none⟩ (.int .i64 x)):=by
 rcases k with _ | _ | _ | _ | _ | _ | _ | k <;> first | exact DS2s.set h x | exact SgM.set h x
theorem SgM.busy (h:SgM B d ph rec ra cnt lo stp ro w) (hp:ph ≠ 0):Calls Tryz.prog 72 #[.pointer (some ⟨d,0,none⟩)] w (RetBz w [0]):=by
 obtain ⟨a,cc,t,ob,oc,gn,cn,steps,rc,h1,_⟩:=h
 exact busy_yes ph h1.ds (mc_phase h1.ds.mac) (.inl hp)
theorem Sg.busy {k:Nat} (h:Sg B d k w) (hk:k < 8):Calls Tryz.prog 72 #[.pointer (some ⟨d,0,none⟩)] w (RetBz w [0]):=by
 rcases k with _ | _ | _ | _ | _ | _ | _ | _ | k
 ·obtain ⟨a,cc,t,h1,_⟩:=h;exact busy_yes 0 h1 (mc_phase h1.mac) (.inr ⟨rfl,rfl⟩)
 ·obtain ⟨st,a,cc,t,ob,oc,h1,_⟩:=h;exact busy_yes 1 h1 (mc_phase h1.mac) (.inl (by decide))
 ·exact SgM.busy h (by decide)
 ·exact SgM.busy h (by decide)
 ·exact SgM.busy h (by decide)
 ·exact SgM.busy h (by decide)
 ·exact SgM.busy h (by decide)
 ·exact SgM.busy h (by decide)
 ·omega
theorem Sg.still (h:Sg B d 8 w):Calls Tryz.prog 72 #[.pointer (some ⟨d,0,none⟩)] w fun e w' => e=.returned (.slice none 0 0) ∧ w=w':=by
 obtain ⟨a,cc,t,ob,oc,gn,cn,steps,rc,h1,_⟩:=h
 exact busy_no h1.ds (mc_phase h1.ds.mac)
end
def Pk (B d:Nat) (w:World) (X:World → Prop):Prop:=∃ st:Int,w.cell? ⟨d,2,none⟩=some (.int .i64 st) ∧ Calls Tryz.prog 70 #[.pointer (some ⟨d,0,none⟩),.int .i64 0,.int .i64 st] w fun e w' => e=.returned (.bool true) ∧ X w' ∧ Below B w w'
section
variable {B d:Nat} {w:World}
theorem pick_0 (h:DS1 B d w):Pk B d w (DS2s B d):=by
 have HB:=Lib.hid (begin1_any B d w h)
 obtain ⟨a,cc,t,hd,ht⟩:=h
 refine ⟨1,hd.dsk.at_ (i:=2) rfl,?_⟩
 have y1:w.cell? ⟨d,1,none⟩=some (.slice (some ⟨a.ca,0,none⟩) 1 cc):=hd.dsk.at_ (i:=1) rfl
 have yc:=hd.cla
 have ym:w.cell? ⟨a.c,1,none⟩=some (.pointer (some ⟨a.m,0,none⟩)):=hd.cli.at_ (i:=1) rfl
 have HP:=Lib.hid (phase_any a.m 0 w (mc_phase hd.mac))
 clear hd ht
 go_enter Tryz.func70,Tryz.ntmps70
 go_wp2_with (first | (go_at_call 118;refine HP.out.mono ?_;rintro e w1 ⟨rfl,rfl⟩) | (go_at_call 119;refine HB.out.mono ?_;rintro e w1 ⟨rfl,⟨a2,cc2,t2,ob,oc,h1,h2,h3,h4⟩,h5⟩))
 go_ret
 exact ⟨rfl,⟨1,a2,cc2,t2,ob,oc,h1,h2,h3,h4⟩,h5⟩
theorem pick_1 (h:DS2s B d w) (hg:Glob w.drew):Pk B d w (SgM B d 2 none 0 0 none true 0):=by
 obtain ⟨st,a,cc,t,ob,oc,hd,ht,hob,hp⟩:=h
 refine ⟨st,hd.dsk.at_ (i:=2) rfl,?_⟩
 have hb:Below w.heap.size w w.drew:=(Below.refl _ _).drew
 have hd1:=hd.later hb
 have hp1:=hp.later hb
 have hord:=hd1.ord
 have hge:=hord.ge
 unfold OrdA at hord
 have hcal:=hd.cal
 refine (dpick_any B d a cc t ob oc st 2 0 0 none true 0 none 1 (.inl rfl) w _ _ _ _ _ _ _ _ _ _ hd 1 (mc_phase hd.mac) (by decide) st ?_).mono ?_
 ·refine (step_parse a.m a.sh t 0 0 _ _ 0 0 w.drew hd1.mac (ht _ _) hg).mono ?_
  rintro e w' ⟨gn,cn,rfl,hm,g1,g2,g3,ho⟩
  have hs:=hb.size
  have hl:=hp.lt
  have hbm:Below B w.drew w':=ho.below (by intro x hx;simp at hx;omega) (by omega)
  exact ⟨rfl,⟨gn,cn,_,hd1.step_m ho hm,⟨_,_,_,_,_,hp1.only ho (by simp;omega)⟩,g3,rfl,hob,by omega,g2,by omega⟩,(hb.mono (by omega)).trans hbm⟩
 ·rintro e w' ⟨rfl,⟨gn,cn,rc,ro',_,hr,hm,hn⟩,hb'⟩
  obtain rfl:=hr (by decide)
  exact ⟨rfl,⟨a,cc,t,ob,oc,gn,cn,st,rc,hm,hn⟩,hb'⟩
theorem pick_2 (h:SgM B d 2 none 0 0 none true 0 w):Pk B d w (SgM B d 3 none 0 0 lkA true 0):=by
 obtain ⟨a,cc,t,ob,oc,gn,cn,st,rc,hd,_⟩:=h
 refine ⟨st,hd.ds.dsk.at_ (i:=2) rfl,?_⟩
 have hb:Below w.heap.size w w.drew:=(Below.refl _ _).drew
 have hd1:=hd.later hb
 obtain ⟨op,ttl,nm,dc,an,hp1⟩:=hd1.ops
 have hord:=hd1.ds.ord
 have hge:=hord.ge
 unfold OrdA at hord
 have hcal:=hd.ds.cal
 have hob:=hd.ob1
 have hgn:=hd.gn1
 refine (dpick_any B d a cc t ob oc st 3 0 0 lkA true 0 none 1 (.inl rfl) w _ _ _ _ _ _ _ _ _ _ hd.ds 2 (mc_phase hd.ds.mac) (by decide) st ?_).mono ?_
 ·refine (step_lock a.m a.sh a.lk a.sl a.ow gn cn t txH rc 0 w.drew hd1.ds.mac hd1.nam (hd1.ds.sha.at_ (i:=4) rfl) hd1.ds.lks (by omega) (by omega) (by omega)).mono ?_
  rintro e w' ⟨rfl,hm,hl,ho⟩
  have hs:=hb.size
  have hbm:Below B w.drew w':=ho.below (by intro x hx;simp at hx;omega) (by omega)
  exact ⟨rfl,⟨gn,cn,_,hd1.ds.step_l ho hm hl,⟨_,_,_,_,_,hp1.only ho (by simp;omega)⟩,hd1.nam.only hd1.gnl ho (by simp;omega),hd1.rcs.only ho (by intro x hx;simp at hx;exact .inl (by omega)),hob,hgn,Nat.lt_of_lt_of_le hd1.gnl ho.2.2.2.1,hd1.ne⟩,(hb.mono (by omega)).trans hbm⟩
 ·rintro e w' ⟨rfl,⟨gn,cn,rc,ro',_,hr,hm,hn⟩,hb'⟩
  obtain rfl:=hr (by decide)
  exact ⟨rfl,⟨a,cc,t,ob,oc,gn,cn,st,rc,hm,hn⟩,hb'⟩
theorem pick_3 (h:SgM B d 3 none 0 0 lkA true 0 w):Pk B d w (SgM B d 4 (some (0,⟨#[]⟩,0)) 0 0 lkA true 0):=by
 obtain ⟨a,cc,t,ob,oc,gn,cn,st,rc,hd,_⟩:=h
 refine ⟨st,hd.ds.dsk.at_ (i:=2) rfl,?_⟩
 have hb:Below w.heap.size w w.drew:=(Below.refl _ _).drew
 obtain rfl:rc=.slice none 0 0:=hd.rcs
 have hd1:=hd.later hb
 obtain ⟨op,ttl,nm,dc,an,hp1⟩:=hd1.ops
 have hord:=hd1.ds.ord
 have hge:=hord.ge
 unfold OrdA at hord
 have hcal:=hd.ds.cal
 have hob:=hd.ob1
 have hgn:=hd.gn1
 refine (dpick_any B d a cc t ob oc st 4 0 0 lkA true 0 (some (0,⟨#[]⟩,0)) 1 (.inl rfl) w _ _ _ _ _ _ _ _ _ _ hd.ds 3 (mc_phase hd.ds.mac) (by decide) st ?_).mono ?_
 ·refine (step_read a.m a.sh a.st a.ss a.sr gn cn t txH 0 w.drew hd1.ds.mac hd1.nam (hd1.ds.sha.at_ (i:=5) rfl) (hd1.ds.sto rfl)).mono ?_
  rintro e w' ⟨gr,cr,rfl,hm,g1,g2,g3,ho⟩
  have hs:=hb.size
  have hl:=hp1.lt
  have hcal1:=hd1.ds.cal
  have hbm:Below B w.drew w':=ho.below (by intro x hx;simp at hx;omega) (by omega)
  exact ⟨rfl,⟨gn,cn,_,hd1.ds.step_m ho hm,⟨_,_,_,_,_,hp1.only ho (by simp;omega)⟩,hd1.nam.only hd1.gnl ho (by simp;omega),⟨gr,cr,rfl,g3,by omega,g2,by omega⟩,hob,hgn,Nat.lt_of_lt_of_le hd1.gnl ho.2.2.2.1,hd1.ne⟩,(hb.mono (by omega)).trans hbm⟩
 ·rintro e w' ⟨rfl,⟨gn,cn,rc,ro',_,hr,hm,hn⟩,hb'⟩
  obtain rfl:=hr (by decide)
  exact ⟨rfl,⟨a,cc,t,ob,oc,gn,cn,st,rc,hm,hn⟩,hb'⟩
theorem pick_4 (h:SgM B d 4 (some (0,⟨#[]⟩,0)) 0 0 lkA true 0 w):Pk B d w (SgM B d 5 (some (1,kA,5)) (-1) 1 lkA true (-1)):=by
 obtain ⟨a,cc,t,ob,oc,gn,cn,st,rc,hd,_⟩:=h
 refine ⟨st,hd.ds.dsk.at_ (i:=2) rfl,?_⟩
 have hb:Below w.heap.size w w.drew:=(Below.refl _ _).drew
 have hd1:=hd.later hb
 obtain ⟨gr,cr,rfl,hr1,r1,r2,r3⟩:=hd1.rcs
 obtain ⟨op,ttl,nm,dc,an,hp1⟩:=hd1.ops
 have hord:=hd1.ds.ord
 have hge:=hord.ge
 unfold OrdA at hord
 have hcal:=hd.ds.cal
 have hob:=hd.ob1
 have hgn:=hd.gn1
 refine (dpick_any B d a cc t ob oc st 5 (-1) 1 lkA true 0 (some (1,kA,5)) 3 (.inr (.inl rfl)) w _ _ _ _ _ _ _ _ _ _ hd.ds 4 (mc_phase hd.ds.mac) (by decide) st ?_).mono ?_
 ·refine (step_decide a.m a.sh gn cn gr cr _ _ t txH 0 w.drew hd1.ds.mac hd1.nam hr1 hd1.ds.sha hd1.gnl r2 (by omega) (by omega)).mono ?_
  rintro e w' ⟨g,c,rfl,hm,g1,g2,g3,hsh,ho⟩
  have hs:=hb.size
  have hl:=hp1.lt
  have hcal1:=hd1.ds.cal
  have hbm:Below B w.drew w':=ho.below (by intro x hx;simp at hx;omega) (by omega)
  exact ⟨rfl,⟨gn,cn,_,hd1.ds.step_d ho hm hsh,⟨_,_,_,_,_,hp1.only ho (by simp;omega)⟩,hd1.nam.only hd1.gnl ho (by simp;omega),⟨g,c,rfl,g3,by omega,g2,by omega⟩,hob,hgn,Nat.lt_of_lt_of_le hd1.gnl ho.2.2.2.1,hd1.ne⟩,(hb.mono (by omega)).trans hbm⟩
 ·rintro e w' ⟨rfl,⟨gn,cn,rc,ro',hr,_,hm,hn⟩,hb'⟩
  obtain rfl:=hr rfl
  exact ⟨rfl,⟨a,cc,t,ob,oc,gn,cn,st,rc,hm,hn⟩,hb'⟩
theorem pick_5 (h:SgM B d 5 (some (1,kA,5)) (-1) 1 lkA true (-1) w):Pk B d w (SgM B d 6 (some (1,kA,5)) (-1) 1 lkA false (-1)):=by
 obtain ⟨a,cc,t,ob,oc,gn,cn,st,rc,hd,_⟩:=h
 refine ⟨st,hd.ds.dsk.at_ (i:=2) rfl,?_⟩
 have hb:Below w.heap.size w w.drew:=(Below.refl _ _).drew
 have hd1:=hd.later hb
 have hrc:=hd1.rcs
 obtain ⟨gr,cr,rfl,hr1,r1,r2,r3⟩:=hd1.rcs
 obtain ⟨op,ttl,nm,dc,an,hp1⟩:=hd1.ops
 have hord:=hd1.ds.ord
 have hge:=hord.ge
 unfold OrdA at hord
 have hcal:=hd.ds.cal
 have hob:=hd.ob1
 have hgn:=hd.gn1
 refine (dpick_any B d a cc t ob oc st 6 (-1) 1 lkA false (-1) (some (1,kA,5)) 1 (.inl rfl) w _ _ _ _ _ _ _ _ _ _ hd.ds 5 (mc_phase hd.ds.mac) (by decide) st ?_).mono ?_
 ·refine (step_write a.m a.sh a.st a.ss a.sr gn cn gr cr t txH (-1) w.drew hd1.ds.mac hd1.nam hr1 (hd1.ds.sha.at_ (i:=5) rfl) (hd1.ds.sto rfl) (by simp;omega) (by simp;omega) (by simp;omega) hd1.ds.sha.lt r2).mono ?_
  rintro e w' ⟨rfl,hm,ho⟩
  have hs:=hb.size
  have hbm:Below B w.drew w':=ho.below (by intro x hx;simp at hx;omega) (by omega)
  exact ⟨rfl,⟨gn,cn,_,hd1.ds.step_w ho hm,⟨_,_,_,_,_,hp1.only ho (by simp;omega)⟩,hd1.nam.only hd1.gnl ho (by simp;omega),hrc.only ho (by intro x hx;simp at hx;exact .inl (by omega)),hob,hgn,Nat.lt_of_lt_of_le hd1.gnl ho.2.2.2.1,hd1.ne⟩,(hb.mono (by omega)).trans hbm⟩
 ·rintro e w' ⟨rfl,⟨gn,cn,rc,ro',_,hr,hm,hn⟩,hb'⟩
  obtain rfl:=hr (by decide)
  exact ⟨rfl,⟨a,cc,t,ob,oc,gn,cn,st,rc,hm,hn⟩,hb'⟩
theorem pick_6 (h:SgM B d 6 (some (1,kA,5)) (-1) 1 lkA false (-1) w):Pk B d w (SgM B d 7 (some (1,kA,5)) (-1) 1 none false (-1)):=by
 obtain ⟨a,cc,t,ob,oc,gn,cn,st,rc,hd,_⟩:=h
 refine ⟨st,hd.ds.dsk.at_ (i:=2) rfl,?_⟩
 have hb:Below w.heap.size w w.drew:=(Below.refl _ _).drew
 have hd1:=hd.later hb
 obtain ⟨op,ttl,nm,dc,an,hp1⟩:=hd1.ops
 have hord:=hd1.ds.ord
 have hge:=hord.ge
 unfold OrdA at hord
 have hcal:=hd.ds.cal
 have hob:=hd.ob1
 have hgn:=hd.gn1
 refine (dpick_any B d a cc t ob oc st 7 (-1) 1 none false (-1) (some (1,kA,5)) 1 (.inl rfl) w _ _ _ _ _ _ _ _ _ _ hd.ds 6 (mc_phase hd.ds.mac) (by decide) st ?_).mono ?_
 ·refine (step_free a.m a.sh a.lk a.sl a.ow gn cn t txH rc (-1) w.drew hd1.ds.mac hd1.nam (hd1.ds.sha.at_ (i:=4) rfl) hd1.ds.lks (by omega) (by omega) (by omega)).mono ?_
  rintro e w' ⟨rfl,hm,hl,ho⟩
  have hs:=hb.size
  have hbm:Below B w.drew w':=ho.below (by intro x hx;simp at hx;omega) (by omega)
  exact ⟨rfl,⟨gn,cn,_,hd1.ds.step_l ho hm hl,⟨_,_,_,_,_,hp1.only ho (by simp;omega)⟩,hd1.nam.only hd1.gnl ho (by simp;omega),hd1.rcs.only ho (by intro x hx;simp at hx;exact .inl (by omega)),hob,hgn,Nat.lt_of_lt_of_le hd1.gnl ho.2.2.2.1,hd1.ne⟩,(hb.mono (by omega)).trans hbm⟩
 ·rintro e w' ⟨rfl,⟨gn,cn,rc,ro',_,hr,hm,hn⟩,hb'⟩
  obtain rfl:=hr (by decide)
  exact ⟨rfl,⟨a,cc,t,ob,oc,gn,cn,st,rc,hm,hn⟩,hb'⟩
theorem pick_7 (h:SgM B d 7 (some (1,kA,5)) (-1) 1 none false (-1) w):Pk B d w (SgM B d 0 (some (1,kA,5)) (-1) 1 none false (-1)):=by
 obtain ⟨a,cc,t,ob,oc,gn,cn,st,rc,hd,_⟩:=h
 refine ⟨st,hd.ds.dsk.at_ (i:=2) rfl,?_⟩
 have hb:Below w.heap.size w w.drew:=(Below.refl _ _).drew
 have hd1:=hd.later hb
 obtain ⟨op,ttl,nm,dc,an,hp1⟩:=hd1.ops
 have hord:=hd1.ds.ord
 have hge:=hord.ge
 unfold OrdA at hord
 have hcal:=hd.ds.cal
 have hob:=hd.ob1
 have hgn:=hd.gn1
 refine (dpick_any B d a cc t ob oc st 0 (-1) 1 none false (-1) (some (1,kA,5)) 4 (.inr (.inr rfl)) w _ _ _ _ _ _ _ _ _ _ hd.ds 7 (mc_phase hd.ds.mac) (by decide) st ?_).mono ?_
 ·refine (step_reply a.m a.sh t txH 1 5 _ rc 0 (-1) w.drew hd1.ds.mac).mono ?_
  rintro e w' ⟨rfl,hm,ho⟩
  have hs:=hb.size
  have hbm:Below B w.drew w':=ho.below (by intro x hx;simp at hx;omega) (by omega)
  exact ⟨rfl,⟨gn,cn,_,hd1.ds.step_m ho hm,⟨_,_,_,_,_,hp1.only ho (by simp;omega)⟩,hd1.nam.only hd1.gnl ho (by simp;omega),hd1.rcs.only ho (by intro x hx;simp at hx;exact .inl (by omega)),hob,hgn,Nat.lt_of_lt_of_le hd1.gnl ho.2.2.2.1,hd1.ne⟩,(hb.mono (by omega)).trans hbm⟩
 ·rintro e w' ⟨rfl,⟨gn,cn,rc,ro',_,hr,hm,hn⟩,hb'⟩
  obtain rfl:=hr (by decide)
  exact ⟨rfl,⟨a,cc,t,ob,oc,gn,cn,st,rc,hm,hn⟩,hb'⟩
theorem Sg.pick {k:Nat} (h:Sg B d k w) (hk:k < 8) (hg:Glob w.drew):Pk B d w (Sg B d (k + 1)):=by
 rcases k with _ | _ | _ | _ | _ | _ | _ | _ | k
 ·exact pick_0 h
 ·exact pick_1 h hg
 ·exact pick_2 h
 ·exact pick_3 h
 ·exact pick_4 h
 ·exact pick_5 h
 ·exact pick_6 h
 ·exact pick_7 h
 ·omega
end
end Go.Proofs.YtjafpikjpipbkaaGreatDoor
