/-
  Merged texts: lemmas and walks that the last text of this claim leans on.
-/
import Derived.Test.YtjafpikjpipbkaaGreatDoorMgTS30
import Derived.Conc.LoneCalls
import Derived.Conc.LoneSelect
import Derived.Conc.LoneSelectN
import Derived.Test.YtjafpikjpipbkaaGreatDoorMgTS35
import Derived.StillTailTactics
import Derived.Test.YtjafpikjpipbkaaGreatDoorMgTS27
set_option maxRecDepth 100000
set_option maxHeartbeats 40000000
namespace Go.Proofs.YtjafpikjpipbkaaGreatDoor
open Go.RowKit Go.Conc
theorem mput_any (s:ByteArray) (b c:Nat) (w:World) (hb:Blk w b 177 #[.chan (some c)]) (hc:w.heap[c]?=some (.chan 8 #[] false 0 0 false)) :
  Calls Tryz.prog 69 #[.pointer (some ⟨b,0,none⟩),.string s] w fun e w' => e=.returned (.bool true) ∧ w'=w.setChan c 8 #[.string s] false 1 0 false:=by
 have x0:=hb.at_ (i:=0) rfl
 refine calls_of_loneTo fun cs => ?_
 have e:Frame.enter Tryz.prog 69 #[.pointer (some ⟨b,0,none⟩),.string s] .normal=(base 69).at ⟨#[.pointer (some ⟨b,0,none⟩),.string s,undef,undef,undef,undef,undef,undef,undef,undef,undef,undef,undef],[]⟩ [.code (Tryz.f69.body.getD .skip)]:=by
  simp [Frame.enter,Frame.at,Tryz.func69,base,Tryz.f69]
 rw [e]
 refine LoneTo.goes (n:=18) ?_
 simp only [Tryz.f69,Option.getD_some]
 s_c stepG_seq
 s_reg
 s_op
 s_c stepG_region_end
 s_c stepG_seq
 s_c stepG_seq
 s_reg
 s_op
 s_op
 s_op
 s_op
 s_c stepG_region_end
 s_reg
 s_op
 s_c stepG_region_end
 s_c stepG_seq
 s_reg
 s_stop
 refine LoneTo.step (step_lone_select_send_room (c:=c) (v:=.string s) (z':=.string ⟨#[]⟩) (cap:=8) (buf:=#[]) (s:=0) (r:=0) (tm:=false) (stepG_comm (cases:=#[scase c (.string s) (.string ⟨#[]⟩)]) (blocking:=false) (shape:=.select) (w':=w) rfl rfl (by decide) (by simp [go_sem,execOp,scase,Act.eval])) hc (by simp)) ?_
 rw [Frame.finish_at]
 walk_nrm
 refine LoneTo.goes (n:=12) ?_
 s_op
 s_op
 s_c stepG_region_end
 s_c stepG_block
 s_cond true
 s_c stepG_seq
 s_reg
 s_op
 s_c stepG_region_end
 s_c stepG_ret'
 s_stop
 exact LoneTo.done ⟨.returned (.bool true),_,rfl,⟨rfl,rfl⟩,rfl,rfl,rfl,rfl,_,Tryz.func69,by simp [results,Tryz.f69,Frame.at]⟩
theorem mtake_any (s:ByteArray) (b c:Nat) (w:World) (hb:Blk w b 177 #[.chan (some c)]) (hc:w.heap[c]?=some (.chan 8 #[.string s] false 1 0 false)) :
  Calls Tryz.prog 152 #[.pointer (some ⟨b,0,none⟩)] w fun e w' => e=.returned (.tuple #[.string s,.bool true]) ∧ w'=w.setChan c 8 #[] false 1 1 false:=by
 have x0:=hb.at_ (i:=0) rfl
 refine calls_of_loneTo fun cs => ?_
 have e:Frame.enter Tryz.prog 152 #[.pointer (some ⟨b,0,none⟩)] .normal=(base 152).at ⟨#[.pointer (some ⟨b,0,none⟩),undef,undef,undef,undef,undef,undef,undef,undef,undef,undef,undef,undef,undef],[]⟩ [.code (Tryz.f152.body.getD .skip)]:=by
  simp [Frame.enter,Frame.at,Tryz.func152,base,Tryz.f152]
 rw [e]
 refine LoneTo.goes (n:=18) ?_
 simp only [Tryz.f152,Option.getD_some]
 s_c stepG_seq
 s_reg
 s_op
 s_op
 s_c stepG_region_end
 s_c stepG_seq
 s_reg
 s_op
 s_op
 s_op
 s_op
 s_c stepG_region_end
 s_c stepG_seq
 s_reg
 s_stop
 refine LoneTo.step (step_lone_select_recv_buf (c:=c) (z:=.string ⟨#[]⟩) (cap:=8) (buf:=#[.string s]) (closed:=false) (s:=1) (r:=0) (tm:=false) (stepG_comm (cases:=#[rcase c (.string ⟨#[]⟩)]) (blocking:=false) (shape:=.select) (w':=w) rfl rfl (by decide) (by simp [go_sem,execOp,rcase,Act.eval])) hc (by simp)) ?_
 rw [Frame.finish_at]
 walk_nrm
 refine LoneTo.goes (n:=17) ?_
 s_op
 s_op
 s_c stepG_region_end
 s_c stepG_block
 s_cond true
 s_c stepG_seq
 s_reg
 s_op
 s_op
 s_c stepG_region_end
 s_c stepG_seq
 s_reg
 s_op
 s_op
 s_op
 s_c stepG_region_end
 s_c stepG_ret'
 s_stop
 exact LoneTo.done ⟨.returned (.tuple #[.string s,.bool true]),_,rfl,⟨rfl,by simp⟩,rfl,rfl,rfl,rfl,_,Tryz.func152,by simp [results,Tryz.f152,Frame.at]⟩
theorem mlen_any (buf:Array Value) (b c s r:Nat) (w:World) (hb:Blk w b 177 #[.chan (some c)]) (hc:w.heap[c]?=some (.chan 8 buf false s r false)) :
  Calls Tryz.prog 125 #[.pointer (some ⟨b,0,none⟩)] w fun e w' => e=.returned (.int .i64 buf.size) ∧ w=w':=by
 have x0:=hb.at_ (i:=0) rfl
 have hl:=run_len_chan (P:=Tryz.prog) 175 3 Tryz.underlying175 hc
 go_enter Tryz.func125,Tryz.ntmps125
 go_wp2_with fail
 go_ret
 exact ⟨rfl,rfl⟩
theorem mnew_any (w:World):Calls Tryz.prog 67 #[.int .i64 8] w fun e w' => e=.returned (.tuple #[.pointer (some ⟨w.heap.size + 1,0,none⟩),.int .i64 0]) ∧ w'=(w.alloc (.chan 8 #[] false 0 0 false)).alloc (.cells #[.chan (some w.heap.size)] 177):=by
 have hmc:∀ w,(Instr.makeChan 175 (.int .i64 8)).run Tryz.prog w=.ok (.chan (some w.heap.size)) (w.alloc (.chan 8 #[] false 0 0 false)):=by
  intro w
  kernel_rfl
 go_enter Tryz.func67,Tryz.ntmps67
 go_wp2_with fail
 go_ret2
 exact ⟨rfl,rfl⟩
end Go.Proofs.YtjafpikjpipbkaaGreatDoor
namespace Go.Proofs.YtjafpikjpipbkaaGreatDoor
open Go.RowKit ND
theorem spans0 {w:World} {B:Nat} {v:Value} (h:Spans w B v []) (W:World) (C:Nat):Spans W C v []:=by
 obtain ⟨A,c,h1,h2,h3,h4,_⟩:=h;exact ⟨A,c,h1,h2,h3,h4,fun i x hx => by simp at hx⟩
theorem mapps0 {w:World} {B:Nat} {v:Value} (h:Mapps w B v []) (W:World) (C:Nat):Mapps W C v []:=by
 obtain ⟨A,c,h1,h2,h3,h4,_⟩:=h;exact ⟨A,c,h1,h2,h3,h4,fun i x hx => by simp at hx⟩
theorem ints0 {w:World} {B:Nat} {v:Value} (h:Ints w B .i64 v []) (W:World) (C:Nat):Ints W C .i64 v []:=by
 obtain ⟨A,c,h1,h2,h3,h4,_⟩:=h;exact ⟨A,c,h1,h2,h3,h4,fun i x hx => by simp at hx⟩
theorem tab0 {w:World} {B:Nat} {t:Tv} (h:TabR w B t T0) (W:World) (C:Nat):TabR W C t T0 :=
 ⟨spans0 h.r0 W C,spans0 h.r1 W C,spans0 h.r2 W C,spans0 h.r3 W C,spans0 h.r4 W C,spans0 h.r5 W C,spans0 h.r6 W C,mapps0 h.r7 W C,mapps0 h.r8 W C,mapps0 h.r9 W C,ints0 h.r10 W C,mapps0 h.r11 W C⟩
def RetMN (w:World) (e:Ending) (w':World):Prop :=
 ∃ m t',e=.returned (.tuple #[.pointer (some ⟨m,0,none⟩),.int .i64 0]) ∧ Blk w' m 165 (mcells t' 0 ⟨#[]⟩ 0 0 (.slice none 0 0) 0 (.slice none 0 0) 0) ∧ (∀ W B,TabR W B t' T0) ∧ w.heap.size ≤ m ∧ Below w.heap.size w w'
theorem mn_any (t:Tv) (w:World) (ht:TabR w w.heap.size t T0) (hg:Glob w) :
  Calls Tryz.prog 65 #[t.val,.int .i64 0] w (RetMN w):=by
 have HB0:Hid (Below w.heap.size w (w.alloc (.cells t.cells 26))):=Lib.hid ((Below.refl _ _).alloc (Nat.le_refl _) _)
 have HT:Hid (Tbl (w.alloc (.cells t.cells 26)) w.heap.size t T0):=Lib.hid ⟨Blk.new _ _ _,ht.later HB0.out⟩
 have HC:=Lib.hid (check_table t T0 _ HT.out.2 (hg.later HB0.out))
 rw [T0_check] at HC
 have HP:=Lib.hid (fun W (h:TabR W W.heap.size t T0) => copy_any t T0 W h T0_check)
 clear ht hg
 go_enter Tryz.func65,Tryz.ntmps65
 go_upto_region 1 with fail
 generalize w.alloc (.cells t.cells 26)=w1 at *
 obtain ⟨x0,x1,x2,x3,x4,x5,x6,x7,x8,x9,x10,x11⟩:=HT.out.1.tab
 go_upto_region 5 with (go_at_call 29;refine HC.out.mono ?_;rintro e w2 ⟨rfl,b2⟩)
 have HT2:=Lib.hid (HT.out.later b2)
 have HB2:=Lib.hid (below_next HB0.out b2)
 clear x0 x1 x2 x3 x4 x5 x6 x7 x8 x9 x10 x11 b2 HC HT HB0
 obtain ⟨x0,x1,x2,x3,x4,x5,x6,x7,x8,x9,x10,x11⟩:=HT2.out.1.tab
 have HQ:=Lib.hid (HP.out w2 HT2.out.2)
 go_wp2_with (go_at_call 42;refine HQ.out.mono ?_;rintro e w3 ⟨t3,rfl,ht3,b3⟩;have HT3:=Lib.hid (fun W B => tab0 ht3 W B);have HB3:=Lib.hid (HB2.out.trans (b3.mono HB2.out.size));obtain ⟨y0,y1,y2,y3,y4,y5,y6,y7,y8,y9,y10,y11⟩:=t3;dsimp only [Tv.val] at *;clear ht3 b3)
 go_ret2
 exact ⟨w3.heap.size,⟨y0,y1,y2,y3,y4,y5,y6,y7,y8,y9,y10,y11⟩,rfl,Blk.new _ _ _,HT3.out,HB3.out.size,HB3.out.alloc HB3.out.size _⟩
def RetNS (w:World) (e:Ending) (w':World):Prop :=
 ∃ sh lk sl ow st ss sr,e=.returned (.tuple #[.pointer (some ⟨sh,0,none⟩),.int .i64 0]) ∧ Blk w' sh 174 #[.int .i64 1,.int .i64 1,.int .i64 0,.int .i64 0,.pointer (some ⟨lk,0,none⟩),.pointer (some ⟨st,0,none⟩)] ∧
  LockS w' lk sl ow none ∧ StoreS w' st ss sr ∧ (∀ x ∈ [lk,sl,ow],w.heap.size ≤ x) ∧ (∀ x ∈ [lk,sl,ow],∀ y ∈ [st,ss,sr],x < y) ∧ (∀ y ∈ [st,ss,sr],y < sh) ∧ Below w.heap.size w w'
theorem ns_any (w:World):Calls Tryz.prog 66 #[.agg #[.int .i64 1,.int .i64 1]] w (RetNS w):=by
 have HB0:Hid (Below w.heap.size w (w.alloc (.cells #[.int .i64 1,.int .i64 1] 73))):=Lib.hid ((Below.refl _ _).alloc (Nat.le_refl _) _)
 have HK:Hid (Blk (w.alloc (.cells #[.int .i64 1,.int .i64 1] 73)) w.heap.size 73 #[.int .i64 1,.int .i64 1]):=Lib.hid (Blk.new _ _ _)
 go_enter Tryz.func66,Tryz.ntmps66
 go_upto_region 1 with fail
 generalize w.alloc (.cells #[.int .i64 1,.int .i64 1] 73)=w1 at *
 have k0:w1.cell? ⟨w.heap.size,0,none⟩=some (.int .i64 1):=HK.out.at_ (i:=0) rfl
 have k1:w1.cell? ⟨w.heap.size,1,none⟩=some (.int .i64 1):=HK.out.at_ (i:=1) rfl
 go_upto_region 4 with (go_at_call 115;refine (mcheck11 _).mono ?_;rintro e w2 ⟨rfl,b2⟩;have HK2:=Lib.hid (HK.out.later b2);have HB2:=Lib.hid (HB0.out.trans (b2.mono HB0.out.size));clear b2 k0 k1)
 go_upto_region 5 with (go_at_call 116;refine (lkNew_any _).mono ?_;rintro e w3 ⟨lk,sl,ow,rfl,hl3,h1,h2,h3,b3⟩;have HK3:=Lib.hid (HK2.out.later b3);have HB3:=Lib.hid (HB2.out.trans (b3.mono HB2.out.size));have HL3:=Lib.hid hl3;clear b3 hl3)
 go_upto_region 6 with (go_at_call 117;refine (stNew_any _).mono ?_;rintro e w4 ⟨st,ss,sr,rfl,hs4,h4,h5,h6,b4⟩;have HK4:=Lib.hid (HK3.out.later b4);have HB4:=Lib.hid (HB3.out.trans (b4.mono HB3.out.size));have HL4:=Lib.hid (HL3.out.later b4);have HS4:=Lib.hid hs4;clear b4 hs4)
 have k0:w4.cell? ⟨w.heap.size,0,none⟩=some (.int .i64 1):=HK4.out.at_ (i:=0) rfl
 have k1:w4.cell? ⟨w.heap.size,1,none⟩=some (.int .i64 1):=HK4.out.at_ (i:=1) rfl
 go_wp2_with fail
 go_ret2
 have b5:Below w4.heap.size w4 (w4.alloc (.cells #[.int .i64 1,.int .i64 1,.int .i64 0,.int .i64 0,.pointer (some ⟨lk,0,none⟩),.pointer (some ⟨st,0,none⟩)] 174)):=(Below.refl _ _).alloc (Nat.le_refl _) _
 have hw2:=HB2.out.size
 have l1:=HL3.out.blk.lt
 have l2:=HL3.out.slots.lt
 have l3:=HL3.out.own.lt
 have s1:=HS4.out.blk.lt
 have s2:=HS4.out.slots.lt
 have s3:sr < w4.heap.size:=by obtain ⟨_,h,_⟩:=HS4.out.rec_;exact h.lt
 refine ⟨w4.heap.size,lk,sl,ow,st,ss,sr,rfl,Blk.new _ _ _,HL4.out.later b5,HS4.out.later b5,?_,?_,?_,HB4.out.trans (b5.mono HB4.out.size)⟩
 ·intro x hx;simp at hx;omega
 ·intro x hx y hy;simp at hx hy;omega
 ·intro y hy;simp at hy;omega
end Go.Proofs.YtjafpikjpipbkaaGreatDoor
namespace Go.Proofs.YtjafpikjpipbkaaGreatDoor
open Go.RowKit ND
structure Adr where
 lk:Nat
 sl:Nat
 ow:Nat
 st:Nat
 ss:Nat
 sr:Nat
 sh:Nat
 ch:Nat
 bx:Nat
 m:Nat
 c:Nat
 ca:Nat
def OrdA (B d:Nat) (a:Adr):Prop :=
 B ≤ a.lk ∧ B ≤ a.sl ∧ B ≤ a.ow ∧ a.lk < a.st ∧ a.lk < a.ss ∧ a.lk < a.sr ∧ a.sl < a.st ∧ a.sl < a.ss ∧ a.sl < a.sr ∧ a.ow < a.st ∧ a.ow < a.ss ∧ a.ow < a.sr ∧ a.st < a.sh ∧ a.ss < a.sh ∧ a.sr < a.sh ∧ a.sh < d ∧ d < a.ch ∧ a.ch < a.bx ∧ a.bx < a.m ∧ a.m < a.c ∧ a.c < a.ca
structure DS (B d:Nat) (a:Adr) (cc:Nat) (w:World) (steps:Int) (opv:Value) (opn:Int) (buf:Array Value) (cs cr:Nat) (mc:Array Value) (cnt:Int) (lo:Option (Nat × ByteArray)) (stp:Bool):Prop where
 ord:OrdA B d a
 dsk:Blk w d 116 #[.pointer (some ⟨a.sh,0,none⟩),.slice (some ⟨a.ca,0,none⟩) 1 cc,.int .i64 steps,opv]
 cla:w.cell? ⟨a.ca,0,none⟩=some (.pointer (some ⟨a.c,0,none⟩))
 cal:a.ca < w.heap.size
 cli:Blk w a.c 122 #[.pointer (some ⟨a.bx,0,none⟩),.pointer (some ⟨a.m,0,none⟩),.int .i64 opn]
 box:Blk w a.bx 177 #[.chan (some a.ch)]
 chn:w.heap[a.ch]?=some (.chan 8 buf false cs cr false)
 mac:Blk w a.m 165 mc
 sha:Blk w a.sh 174 #[.int .i64 1,.int .i64 1,.int .i64 0,.int .i64 cnt,.pointer (some ⟨a.lk,0,none⟩),.pointer (some ⟨a.st,0,none⟩)]
 lks:LockS w a.lk a.sl a.ow lo
 sto:stp=true → StoreS w a.st a.ss a.sr
section
variable {B d:Nat} {a:Adr} {cc:Nat} {w w':World} {steps:Int} {opv:Value} {opn:Int} {buf:Array Value} {cs cr:Nat} {mc mc':Array Value} {cnt cnt':Int} {lo lo':Option (Nat × ByteArray)} {stp:Bool}
theorem DS.later (h:DS B d a cc w steps opv opn buf cs cr mc cnt lo stp) (hb:Below w.heap.size w w'):DS B d a cc w' steps opv opn buf cs cr mc cnt lo stp :=
 ⟨h.ord,h.dsk.later hb,cell_stay h.cla h.cal hb,Nat.lt_of_lt_of_le h.cal hb.size,h.cli.later hb,h.box.later hb,(hb.block _ (Array.getElem?_eq_some_iff.1 h.chn).1).trans h.chn,h.mac.later hb,h.sha.later hb,h.lks.later hb,fun e => (h.sto e).later hb⟩
theorem chn_only {S:List Nat} {o:Obj} {g:Nat} (h:w.heap[g]?=some o) (ho:onlyIn S w w') (hg:g ∉ S):w'.heap[g]?=some o :=
 (ho.2.2.2.2 g hg (Array.getElem?_eq_some_iff.1 h).1).trans h
theorem DS.step_o {S:List Nat} (h:DS B d a cc w steps opv opn buf cs cr mc cnt lo stp) (ho:onlyIn S w w') (hS:∀ x ∈ S,a.ca < x):DS B d a cc w' steps opv opn buf cs cr mc cnt lo stp:=by
 have hO:=h.ord
 unfold OrdA at hO
 have hn:∀ x,x ≤ a.ca → x ∉ S:=fun x hx hm => by have:=hS x hm;omega
 exact ⟨h.ord,ho.blk h.dsk (hn _ (by omega)),cell_only h.cla h.cal ho (hn _ (by omega)),Nat.lt_of_lt_of_le h.cal ho.2.2.2.1,ho.blk h.cli (hn _ (by omega)),ho.blk h.box (hn _ (by omega)),chn_only h.chn ho (hn _ (by omega)),ho.blk h.mac (hn _ (by omega)),ho.blk h.sha (hn _ (by omega)),h.lks.only ho (hn _ (by omega)) (hn _ (by omega)) (hn _ (by omega)),fun e => (h.sto e).only ho (hn _ (by omega)) (hn _ (by omega)) (hn _ (by omega))⟩
theorem DS.step_m (h:DS B d a cc w steps opv opn buf cs cr mc cnt lo stp) (ho:onlyIn [a.m] w w') (hm:Blk w' a.m 165 mc'):DS B d a cc w' steps opv opn buf cs cr mc' cnt lo stp:=by
 have hO:=h.ord
 unfold OrdA at hO
 exact ⟨h.ord,ho.blk h.dsk (by simp;omega),cell_only h.cla h.cal ho (by simp;omega),Nat.lt_of_lt_of_le h.cal ho.2.2.2.1,ho.blk h.cli (by simp;omega),ho.blk h.box (by simp;omega),chn_only h.chn ho (by simp;omega),hm,ho.blk h.sha (by simp;omega),h.lks.only ho (by simp;omega) (by simp;omega) (by simp;omega),fun e => (h.sto e).only ho (by simp;omega) (by simp;omega) (by simp;omega)⟩
theorem DS.step_l (h:DS B d a cc w steps opv opn buf cs cr mc cnt lo stp) (ho:onlyIn [a.m,a.lk,a.sl,a.ow] w w') (hm:Blk w' a.m 165 mc') (hl:LockS w' a.lk a.sl a.ow lo'):DS B d a cc w' steps opv opn buf cs cr mc' cnt lo' stp:=by
 have hO:=h.ord
 unfold OrdA at hO
 exact ⟨h.ord,ho.blk h.dsk (by simp;omega),cell_only h.cla h.cal ho (by simp;omega),Nat.lt_of_lt_of_le h.cal ho.2.2.2.1,ho.blk h.cli (by simp;omega),ho.blk h.box (by simp;omega),chn_only h.chn ho (by simp;omega),hm,ho.blk h.sha (by simp;omega),hl,fun e => (h.sto e).only ho (by simp;omega) (by simp;omega) (by simp;omega)⟩
theorem DS.step_d (h:DS B d a cc w steps opv opn buf cs cr mc cnt lo stp) (ho:onlyIn [a.m,a.sh] w w') (hm:Blk w' a.m 165 mc') (hs:Blk w' a.sh 174 #[.int .i64 1,.int .i64 1,.int .i64 0,.int .i64 cnt',.pointer (some ⟨a.lk,0,none⟩),.pointer (some ⟨a.st,0,none⟩)]):DS B d a cc w' steps opv opn buf cs cr mc' cnt' lo stp:=by
 have hO:=h.ord
 unfold OrdA at hO
 exact ⟨h.ord,ho.blk h.dsk (by simp;omega),cell_only h.cla h.cal ho (by simp;omega),Nat.lt_of_lt_of_le h.cal ho.2.2.2.1,ho.blk h.cli (by simp;omega),ho.blk h.box (by simp;omega),chn_only h.chn ho (by simp;omega),hm,hs,h.lks.only ho (by simp;omega) (by simp;omega) (by simp;omega),fun e => (h.sto e).only ho (by simp;omega) (by simp;omega) (by simp;omega)⟩
theorem DS.step_w (h:DS B d a cc w steps opv opn buf cs cr mc cnt lo stp) (ho:onlyIn [a.m,a.st,a.ss,a.sr] w w') (hm:Blk w' a.m 165 mc'):DS B d a cc w' steps opv opn buf cs cr mc' cnt lo false:=by
 have hO:=h.ord
 unfold OrdA at hO
 exact ⟨h.ord,ho.blk h.dsk (by simp;omega),cell_only h.cla h.cal ho (by simp;omega),Nat.lt_of_lt_of_le h.cal ho.2.2.2.1,ho.blk h.cli (by simp;omega),ho.blk h.box (by simp;omega),chn_only h.chn ho (by simp;omega),hm,ho.blk h.sha (by simp;omega),h.lks.only ho (by simp;omega) (by simp;omega) (by simp;omega),fun e => by cases e⟩
theorem DS.put_d (h:DS B d a cc w steps opv opn buf cs cr mc cnt lo stp) (steps':Int) (opv':Value) (ho:onlyIn [d] w w') (hd:Blk w' d 116 #[.pointer (some ⟨a.sh,0,none⟩),.slice (some ⟨a.ca,0,none⟩) 1 cc,.int .i64 steps',opv']):DS B d a cc w' steps' opv' opn buf cs cr mc cnt lo stp:=by
 have hO:=h.ord
 unfold OrdA at hO
 exact ⟨h.ord,hd,cell_only h.cla h.cal ho (by simp;omega),Nat.lt_of_lt_of_le h.cal ho.2.2.2.1,ho.blk h.cli (by simp;omega),ho.blk h.box (by simp;omega),chn_only h.chn ho (by simp;omega),ho.blk h.mac (by simp;omega),ho.blk h.sha (by simp;omega),h.lks.only ho (by simp;omega) (by simp;omega) (by simp;omega),fun e => (h.sto e).only ho (by simp;omega) (by simp;omega) (by simp;omega)⟩
theorem DS.put_c (h:DS B d a cc w steps opv opn buf cs cr mc cnt lo stp) (opn':Int) (ho:onlyIn [a.c] w w') (hc:Blk w' a.c 122 #[.pointer (some ⟨a.bx,0,none⟩),.pointer (some ⟨a.m,0,none⟩),.int .i64 opn']):DS B d a cc w' steps opv opn' buf cs cr mc cnt lo stp:=by
 have hO:=h.ord
 unfold OrdA at hO
 exact ⟨h.ord,ho.blk h.dsk (by simp;omega),cell_only h.cla h.cal ho (by simp;omega),Nat.lt_of_lt_of_le h.cal ho.2.2.2.1,hc,ho.blk h.box (by simp;omega),chn_only h.chn ho (by simp;omega),ho.blk h.mac (by simp;omega),ho.blk h.sha (by simp;omega),h.lks.only ho (by simp;omega) (by simp;omega) (by simp;omega),fun e => (h.sto e).only ho (by simp;omega) (by simp;omega) (by simp;omega)⟩
theorem only_setChan {S:List Nat} {g:Nat} (hg:g ∈ S) (cap:Nat) (b:Array Value) (cl:Bool) (s r:Nat) (tm:Bool):onlyIn S w (w.setChan g cap b cl s r tm) :=
 ⟨rfl,rfl,rfl,Nat.le_of_eq (Go.Conc.size_setChan w g cap b cl s r tm).symm,fun k hk _ => by
  have hne:g ≠ k:=fun e => hk (e ▸ hg)
  simp only [World.setChan];rw [Array.getElem?_setIfInBounds_ne hne]⟩
theorem DS.put_ch (h:DS B d a cc w steps opv opn buf cs cr mc cnt lo stp) (buf':Array Value) (cs' cr':Nat):DS B d a cc (w.setChan a.ch 8 buf' false cs' cr' false) steps opv opn buf' cs' cr' mc cnt lo stp:=by
 have hO:=h.ord
 unfold OrdA at hO
 have ho:onlyIn [a.ch] w (w.setChan a.ch 8 buf' false cs' cr' false):=only_setChan (by simp) _ _ _ _ _ _
 exact ⟨h.ord,ho.blk h.dsk (by simp;omega),cell_only h.cla h.cal ho (by simp;omega),Nat.lt_of_lt_of_le h.cal ho.2.2.2.1,ho.blk h.cli (by simp;omega),ho.blk h.box (by simp;omega),Go.Conc.heap_setChan w _ _ _ _ _ _ _ (Array.getElem?_eq_some_iff.1 h.chn).1,ho.blk h.mac (by simp;omega),ho.blk h.sha (by simp;omega),h.lks.only ho (by simp;omega) (by simp;omega) (by simp;omega),fun e => (h.sto e).only ho (by simp;omega) (by simp;omega) (by simp;omega)⟩
end
theorem Tryz.infoCli:(Tryz.prog.info? 120).map (fun i => (i.zero,i.size,i.bytes))=some (some (.pointer none),1,8):=by kernel_rfl
def DS0 (B d:Nat) (w:World):Prop:=∃ a cc t,DS B d a cc w 0 (.slice none 0 0) 0 #[] 0 0 (mcells t 0 ⟨#[]⟩ 0 0 (.slice none 0 0) 0 (.slice none 0 0) 0) 0 none true ∧ ∀ W C,TabR W C t T0
def RetDN (w:World) (e:Ending) (w':World):Prop:=∃ d,e=.returned (.tuple #[.pointer (some ⟨d,0,none⟩),.int .i64 0]) ∧ DS0 w.heap.size d w' ∧ Below w.heap.size w w'
theorem deskNew_any (t:Tv) (w:World) (ht:TabR w w.heap.size t T0) (hg:Glob w) :
  Calls Tryz.prog 32 #[t.val,.agg #[.int .i64 1,.int .i64 1]] w (RetDN w):=by
 obtain ⟨i0,hi,hz0,hz1,hz2⟩:=info_parts Tryz.infoCli
 have HB0:Hid (Below w.heap.size w ((w.alloc (.cells t.cells 26)).alloc (.cells #[.int .i64 1,.int .i64 1] 73))):=Lib.hid (below_new2 _ _ _)
 have HT:Hid (Tbl ((w.alloc (.cells t.cells 26)).alloc (.cells #[.int .i64 1,.int .i64 1] 73)) w.heap.size t T0):=Lib.hid ⟨(Blk.new _ _ _).alloc _,ht.later HB0.out⟩
 have HK:Hid (Blk ((w.alloc (.cells t.cells 26)).alloc (.cells #[.int .i64 1,.int .i64 1] 73)) (w.heap.size + 1) 73 #[.int .i64 1,.int .i64 1]):=Lib.hid (blk_new2 _ _ _ _)
 have HG:=Lib.hid (fun V (h:Below w.heap.size w V) => hg.later h)
 clear ht hg
 go_enter Tryz.func32,Tryz.ntmps32
 go_upto_region 1 with fail
 generalize (w.alloc (.cells t.cells 26)).alloc (.cells #[.int .i64 1,.int .i64 1] 73)=w1 at *
 obtain ⟨x0,x1,x2,x3,x4,x5,x6,x7,x8,x9,x10,x11⟩:=HT.out.1.tab
 have HM1:=Lib.hid (mn_any t w1 HT.out.2 (HG.out w1 HB0.out))
 go_upto_region 4 with (go_at_call 65;refine HM1.out.mono ?_;rintro e w2 ⟨m0,t0,rfl,_,_,_,b2⟩)
 have HT2:=Lib.hid (HT.out.later b2)
 have HK2:=Lib.hid (HK.out.later b2)
 have HB2:=Lib.hid (HB0.out.trans (b2.mono HB0.out.size))
 clear x0 x1 x2 x3 x4 x5 x6 x7 x8 x9 x10 x11 b2 HM1 HT HK HB0
 have k0:w2.cell? ⟨w.heap.size + 1,0,none⟩=some (.int .i64 1):=HK2.out.at_ (i:=0) rfl
 have k1:w2.cell? ⟨w.heap.size + 1,1,none⟩=some (.int .i64 1):=HK2.out.at_ (i:=1) rfl
 go_upto_region 5 with (go_at_call 66;refine (ns_any _).mono ?_;rintro e w3 ⟨sh,lk,sl,ow,st,ss,sr,rfl,hsh,hlk,hst,o1,o2,o3,b3⟩)
 have HT3:=Lib.hid (HT2.out.later b3)
 have HK3:=Lib.hid (HK2.out.later b3)
 have HB3:=Lib.hid (HB2.out.trans (b3.mono HB2.out.size))
 have HSH:=Lib.hid hsh
 have HLK:=Lib.hid hlk
 have HST:=Lib.hid hst
 have hw2:=HB2.out.size
 have hshl:=hsh.lt
 have HO:Hid (w.heap.size ≤ lk ∧ w.heap.size ≤ sl ∧ w.heap.size ≤ ow ∧ lk < st ∧ lk < ss ∧ lk < sr ∧ sl < st ∧ sl < ss ∧ sl < sr ∧ ow < st ∧ ow < ss ∧ ow < sr ∧ st < sh ∧ ss < sh ∧ sr < sh):=Lib.hid (by
  have a1:=o1 lk (by simp);have a2:=o1 sl (by simp);have a3:=o1 ow (by simp)
  have c1:=o2 lk (by simp) st (by simp);have c2:=o2 lk (by simp) ss (by simp);have c3:=o2 lk (by simp) sr (by simp)
  have c4:=o2 sl (by simp) st (by simp);have c5:=o2 sl (by simp) ss (by simp);have c6:=o2 sl (by simp) sr (by simp)
  have c7:=o2 ow (by simp) st (by simp);have c8:=o2 ow (by simp) ss (by simp);have c9:=o2 ow (by simp) sr (by simp)
  have e1:=o3 st (by simp);have e2:=o3 ss (by simp);have e3:=o3 sr (by simp)
  omega)
 clear k0 k1 b3 hsh hlk hst o1 o2 o3 HT2 HK2 HB2
 have k0:w3.cell? ⟨w.heap.size + 1,0,none⟩=some (.int .i64 1):=HK3.out.at_ (i:=0) rfl
 go_upto_region 8 with fail
 have b4:Below w3.heap.size w3 (w3.alloc (.cells #[.pointer (some ⟨sh,0,none⟩),.slice none 0 0,.int .i64 0,.slice none 0 0] 116)):=(Below.refl _ _).alloc (Nat.le_refl _) _
 have HD4:Hid (Blk (w3.alloc (.cells #[.pointer (some ⟨sh,0,none⟩),.slice none 0 0,.int .i64 0,.slice none 0 0] 116)) w3.heap.size 116 #[.pointer (some ⟨sh,0,none⟩),.slice none 0 0,.int .i64 0,.slice none 0 0]):=Lib.hid (Blk.new _ _ _)
 have HT4:=Lib.hid (HT3.out.later b4)
 have HK4:=Lib.hid (HK3.out.later b4)
 have HB4:=Lib.hid (HB3.out.trans (b4.mono HB3.out.size))
 have HSH4:=Lib.hid (HSH.out.later b4)
 have HLK4:=Lib.hid (HLK.out.later b4)
 have HST4:=Lib.hid (HST.out.later b4)
 have hw3:=HB3.out.size
 clear k0 b4 HT3 HK3 HB3 HSH HLK HST
 generalize w3.alloc (.cells #[.pointer (some ⟨sh,0,none⟩),.slice none 0 0,.int .i64 0,.slice none 0 0] 116)=w4 at *
 obtain ⟨d,hd⟩:∃ d,d=w3.heap.size:=⟨_,rfl⟩
 rw [← hd] at HD4 hshl ⊢
 clear hd
 have k0:w4.cell? ⟨w.heap.size + 1,0,none⟩=some (.int .i64 1):=HK4.out.at_ (i:=0) rfl
 go_wp2_with fail
 refine wp_loop_rounds 2 ?_
 rw [rounds_succ]
 go_upto_region 12 with (go_at_call 67;refine (mnew_any _).mono ?_;rintro e w5 ⟨rfl,h5⟩)
 subst h5
 have b5:Below w4.heap.size w4 ((w4.alloc (.chan 8 #[] false 0 0 false)).alloc (.cells #[.chan (some w4.heap.size)] 177)):=below_new2 _ _ _
 have HCH5:Hid (((w4.alloc (.chan 8 #[] false 0 0 false)).alloc (.cells #[.chan (some w4.heap.size)] 177)).heap[w4.heap.size]?=some (.chan 8 #[] false 0 0 false)):=Lib.hid ((Below.heap_alloc (w4.alloc (.chan 8 #[] false 0 0 false)) _ w4.heap.size (by simp)).trans (heap_alloc_new w4 _))
 have HBX5:Hid (Blk ((w4.alloc (.chan 8 #[] false 0 0 false)).alloc (.cells #[.chan (some w4.heap.size)] 177)) (w4.heap.size + 1) 177 #[.chan (some w4.heap.size)]):=Lib.hid (blk_new2 _ _ _ _)
 have hz5:((w4.alloc (.chan 8 #[] false 0 0 false)).alloc (.cells #[.chan (some w4.heap.size)] 177)).heap.size=w4.heap.size + 1 + 1:=by simp
 have HT5:=Lib.hid (HT4.out.later b5)
 have HK5:=Lib.hid (HK4.out.later b5)
 have HB5:=Lib.hid (HB4.out.trans (b5.mono HB4.out.size))
 have HSH5:=Lib.hid (HSH4.out.later b5)
 have HLK5:=Lib.hid (HLK4.out.later b5)
 have HST5:=Lib.hid (HST4.out.later b5)
 have HD5:=Lib.hid (HD4.out.later b5)
 have hd4:=HD4.out.lt
 clear k0 b5 HT4 HK4 HB4 HSH4 HLK4 HST4 HD4
 generalize ((w4.alloc (.chan 8 #[] false 0 0 false)).alloc (.cells #[.chan (some w4.heap.size)] 177))=w5 at *
 obtain ⟨ch,hch⟩:∃ ch,ch=w4.heap.size:=⟨_,rfl⟩
 rw [← hch] at HCH5 HBX5 hz5 hd4 ⊢
 have HZ5:=Lib.hid hz5
 clear hch hz5
 obtain ⟨x0,x1,x2,x3,x4,x5,x6,x7,x8,x9,x10,x11⟩:=HT5.out.1.tab
 have HM5:=Lib.hid (mn_any t w5 HT5.out.2 (HG.out w5 HB5.out))
 go_upto_region 13 with (go_at_call 65;refine HM5.out.mono ?_;rintro e w6 ⟨m,tm,rfl,hm6,ht6,hml,b6⟩)
 have HMM:=Lib.hid hm6
 have HTM:=Lib.hid ht6
 have HB6:=Lib.hid (HB5.out.trans (b6.mono HB5.out.size))
 have HSH6:=Lib.hid (HSH5.out.later b6)
 have HLK6:=Lib.hid (HLK5.out.later b6)
 have HST6:=Lib.hid (HST5.out.later b6)
 have HD6:=Lib.hid (HD5.out.later b6)
 have HBX6:=Lib.hid (HBX5.out.later b6)
 have HCH6:=Lib.hid ((b6.block _ (Array.getElem?_eq_some_iff.1 HCH5.out).1).trans HCH5.out)
 have HK6:=Lib.hid (HK5.out.later b6)
 have hml6:=hm6.lt
 clear x0 x1 x2 x3 x4 x5 x6 x7 x8 x9 x10 x11 b6 hm6 ht6 HM5 HT5 HK5 HB5 HSH5 HLK5 HST5 HD5 HBX5 HCH5
 have y1:w6.cell? ⟨d,1,none⟩=some (.slice none 0 0):=HD6.out.at_ (i:=1) rfl
 have b7:Below w6.heap.size w6 ((w6.alloc (.cells #[.pointer (some ⟨ch + 1,0,none⟩),.pointer (some ⟨m,0,none⟩),.int .i64 0] 122)).alloc (.cells #[.pointer (some ⟨w6.heap.size,0,none⟩)] 120)):=below_new2 _ _ _
 have HC7:Hid (Blk ((w6.alloc (.cells #[.pointer (some ⟨ch + 1,0,none⟩),.pointer (some ⟨m,0,none⟩),.int .i64 0] 122)).alloc (.cells #[.pointer (some ⟨w6.heap.size,0,none⟩)] 120)) w6.heap.size 122 #[.pointer (some ⟨ch + 1,0,none⟩),.pointer (some ⟨m,0,none⟩),.int .i64 0]):=Lib.hid ((Blk.new _ _ _).alloc _)
 have hn7:∀ (j:Nat) (u:Value),[Value.pointer (some ⟨w6.heap.size,0,none⟩)][j]?=some u → ((w6.alloc (.cells #[.pointer (some ⟨ch + 1,0,none⟩),.pointer (some ⟨m,0,none⟩),.int .i64 0] 122)).alloc (.cells #[.pointer (some ⟨w6.heap.size,0,none⟩)] 120)).cell? ((⟨w6.heap.size + 1,0,none⟩:Addr).add j)=some u:=by
  intro j u hu
  match j with
  | 0 => simp at hu;subst hu;exact (blk_new2 w6 _ _ _).at_ (i:=0) rfl
  | j + 1 => simp at hu
 have HN7:=Lib.hid hn7
 clear hn7
 go_wp2_with (at_builtin;refine wpList_append_own _ rfl _ _ 114 rfl (w6.heap.size + 1 + 1) 120 i0 _ 1 8 Tryz.underlying114 hi hz0 hz1 hz2 rfl (by decide) _ _ _ rfl (World.ownsRow_nil _ _ _ _) ⟨w6.heap.size + 1,0,none⟩ 1 1 [.pointer (some ⟨w6.heap.size,0,none⟩)] rfl rfl HN7.out ?c2 ?c3 ?c4 ?c5 ?_)
 case c2 => intro u hu;simp at hu;subst hu;rfl
 case c3 => unfold maxLen;omega
 case c4 => omega
 case c5 => simp
 intro v8 w8 ho8 hg8 _
 have b8:Below w6.heap.size w6 w8:=b7.grown hg8 (by simp;omega) (by intro k hk;cases hk)
 have HC8:=Lib.hid (HC7.out.grown hg8 (by intro h;cases h))
 obtain ⟨ca,cc,rfl,hca,hcal,_,_,hcs⟩:=own_at ho8 (by omega)
 have HCA8:=Lib.hid (hcs 0 _ rfl)
 have HM8:=Lib.hid (HMM.out.later b8)
 have HB8:=Lib.hid (HB6.out.trans (b8.mono HB6.out.size))
 have HSH8:=Lib.hid (HSH6.out.later b8)
 have HLK8:=Lib.hid (HLK6.out.later b8)
 have HST8:=Lib.hid (HST6.out.later b8)
 have HD8:=Lib.hid (HD6.out.later b8)
 have HBX8:=Lib.hid (HBX6.out.later b8)
 have HCH8:=Lib.hid ((b8.block _ (Array.getElem?_eq_some_iff.1 HCH6.out).1).trans HCH6.out)
 have hk8:=cell_stay (HK6.out.at_ (i:=0) rfl) HK6.out.lt b8
 have hc6:w6.heap.size < ca:=by omega
 obtain ⟨c,hc⟩:∃ c,c=w6.heap.size:=⟨_,rfl⟩
 rw [← hc] at HC8 HCA8 hc6 hml6
 have hdl:d < w8.heap.size:=HD8.out.lt
 clear hc y1 b7 b8 HN7 HC7 ho8 hg8 hcs hca HMM HB6 HSH6 HLK6 HST6 HD6 HBX6 HCH6 HK6
 have y1:w8.cell? ⟨d,1,none⟩=some (.slice none 0 0):=HD8.out.at_ (i:=1) rfl
 have f1:=HD8.out.free 1
 go_wp2_with fail
 rw [rounds_succ]
 go_wp2_with fail
 go_ret2
 have hz:=HZ5.out
 have hO:=HO.out
 have ho:onlyIn [d] w8 (w8.setCell ⟨d,1,none⟩ (.slice (some ⟨ca,0,none⟩) 1 cc)):=onlyIn_set (onlyIn.refl _ _) (p:=⟨d,1,none⟩) (by simp) _
 have HORD:OrdA w.heap.size d ⟨lk,sl,ow,st,ss,sr,sh,ch,ch + 1,m,c,ca⟩:=by unfold OrdA;simp only;omega
 refine ⟨d,rfl,⟨⟨lk,sl,ow,st,ss,sr,sh,ch,ch + 1,m,c,ca⟩,cc,tm,⟨HORD,by simpa using HD8.out.put 1 (.slice (some ⟨ca,0,none⟩) 1 cc),cell_only HCA8.out hcal ho (by simp;omega),Nat.lt_of_lt_of_le hcal ho.2.2.2.1,ho.blk HC8.out (by simp;omega),ho.blk HBX8.out (by simp;omega),chn_only HCH8.out ho (by simp;omega),ho.blk HM8.out (by simp;omega),ho.blk HSH8.out (by simp;omega),HLK8.out.only ho (by simp;omega) (by simp;omega) (by simp;omega),fun _ => HST8.out.only ho (by simp;omega) (by simp;omega) (by simp;omega)⟩,HTM.out⟩,HB8.out.setCell (p:=⟨d,1,none⟩) (by simp;omega) _⟩
end Go.Proofs.YtjafpikjpipbkaaGreatDoor
namespace Go.Proofs.YtjafpikjpipbkaaGreatDoor
open Go.RowKit ND
theorem OrdA.ge {B d:Nat} {a:Adr} (h:OrdA B d a):B ≤ d ∧ B ≤ a.ch ∧ B ≤ a.m ∧ B ≤ a.c ∧ B ≤ a.ca ∧ B ≤ a.sh ∧ B ≤ a.st ∧ B ≤ a.ss ∧ B ≤ a.sr ∧ B ≤ a.bx:=by unfold OrdA at h;omega
theorem dhas_any (d ca cc:Nat) (w:World) (h:w.cell? ⟨d,1,none⟩=some (.slice (some ⟨ca,0,none⟩) 1 cc)):Calls Tryz.prog 68 #[.pointer (some ⟨d,0,none⟩),.int .i64 0] w fun e w' => e=.returned (.bool true) ∧ w=w':=by
 go_enter Tryz.func68,Tryz.ntmps68
 go_wp2_with fail
 go_ret
 exact ⟨rfl,rfl⟩
def DS1 (B d:Nat) (w:World):Prop:=∃ a cc t,DS B d a cc w 1 (.slice none 0 0) 0 #[.string txH] 1 0 (mcells t 0 ⟨#[]⟩ 0 0 (.slice none 0 0) 0 (.slice none 0 0) 0) 0 none true ∧ ∀ W C,TabR W C t T0
theorem do_any (B d:Nat) (w:World) (h:DS0 B d w) :
  Calls Tryz.prog 33 #[.pointer (some ⟨d,0,none⟩),.agg #[.int .i64 1,.int .i64 0,.int .i64 0,.string txH]] w fun e w' => e=.returned (.int .i64 0) ∧ DS1 B d w' ∧ Below B w w':=by
 obtain ⟨a,cc,t,hd,ht⟩:=h
 have hO:=hd.ord.ge
 have b0:Below w.heap.size w (w.alloc (.cells #[.int .i64 1,.int .i64 0,.int .i64 0,.string txH] 76)):=(Below.refl _ _).alloc (Nat.le_refl _) _
 have HK:Hid (Blk (w.alloc (.cells #[.int .i64 1,.int .i64 0,.int .i64 0,.string txH] 76)) w.heap.size 76 #[.int .i64 1,.int .i64 0,.int .i64 0,.string txH]):=Lib.hid (Blk.new _ _ _)
 have HD:=Lib.hid (hd.later b0)
 have hcal:=hd.cal
 have hBw:B ≤ w.heap.size:=by omega
 have HB:=Lib.hid (b0.mono hBw)
 have HT:=Lib.hid ht
 have hord:=hd.ord
 clear hd ht b0
 unfold OrdA at hord
 go_enter Tryz.func33,Tryz.ntmps33
 go_upto_region 1 with fail
 generalize w.alloc (.cells #[.int .i64 1,.int .i64 0,.int .i64 0,.string txH] 76)=w1 at *
 have y2:w1.cell? ⟨d,2,none⟩=some (.int .i64 0):=HD.out.dsk.at_ (i:=2) rfl
 have f2:=HD.out.dsk.free 2
 go_upto_region 3 with fail
 have ho2:onlyIn [d] w1 (w1.setCell ⟨d,2,none⟩ (.int .i64 1)):=onlyIn_set (onlyIn.refl _ _) (p:=⟨d,2,none⟩) (by simp) _
 have HD2:=Lib.hid (HD.out.put_d 1 (.slice none 0 0) ho2 (by simpa using HD.out.dsk.put 2 (.int .i64 1)))
 have HK2:=Lib.hid (ho2.blk HK.out (by simp;omega))
 have HB2:=Lib.hid (HB.out.trans (ho2.below (B:=B) (by intro x hx;simp at hx;omega) (Nat.le_trans hBw HB.out.size)))
 clear y2 f2 ho2 HD HK HB
 generalize w1.setCell ⟨d,2,none⟩ (.int .i64 1)=w2 at *
 have k0:w2.cell? ⟨w.heap.size,0,none⟩=some (.int .i64 1):=HK2.out.at_ (i:=0) rfl
 have k1:w2.cell? ⟨w.heap.size,1,none⟩=some (.int .i64 0):=HK2.out.at_ (i:=1) rfl
 have k3:w2.cell? ⟨w.heap.size,3,none⟩=some (.string txH):=HK2.out.at_ (i:=3) rfl
 have y1:w2.cell? ⟨d,1,none⟩=some (.slice (some ⟨a.ca,0,none⟩) 1 cc):=HD2.out.dsk.at_ (i:=1) rfl
 have yc:w2.cell? ⟨a.ca,0,none⟩=some (.pointer (some ⟨a.c,0,none⟩)):=HD2.out.cla
 have yb:w2.cell? ⟨a.c,0,none⟩=some (.pointer (some ⟨a.bx,0,none⟩)):=HD2.out.cli.at_ (i:=0) rfl
 have htx:decide ((4096:Int) < (txH.size:Int))=false:=by decide
 have HH:=Lib.hid (dhas_any d a.ca cc w2 y1)
 have HPT:Hid (Calls Tryz.prog 69 #[.pointer (some ⟨a.bx,0,none⟩),.string txH] w2.drew fun e w' => e=.returned (.bool true) ∧ DS B d a cc w' 1 (.slice none 0 0) 0 #[.string txH] 1 0 (mcells t 0 ⟨#[]⟩ 0 0 (.slice none 0 0) 0 (.slice none 0 0) 0) 0 none true ∧ onlyIn [a.ch] w2 w'):=Lib.hid (by
  have hb:=(Below.refl w2.heap.size w2).drew
  have h2:=HD2.out.later hb
  refine (mput_any txH a.bx a.ch w2.drew h2.box h2.chn).mono ?_
  rintro e w' ⟨rfl,rfl⟩
  exact ⟨rfl,h2.put_ch _ _ _,(onlyIn.of_below hb).trans (only_setChan (by simp) _ _ _ _ _ _)⟩)
 have hl1:w.heap.size < w2.heap.size:=HK2.out.lt
 have hl2:d < w2.heap.size:=HD2.out.dsk.lt
 have hl3:a.ca < w2.heap.size:=HD2.out.cal
 have hl4:a.c < w2.heap.size:=HD2.out.cli.lt
 go_upto_region 8 with (go_at_call 68;refine HH.out.mono ?_;rintro e w3 ⟨rfl,rfl⟩)
 go_region_held3 (fun W => W.cell? ⟨w.heap.size,1,none⟩=some (.int .i64 0) ∧ W.cell? ⟨w.heap.size,3,none⟩=some (.string txH) ∧ W.cell? ⟨d,1,none⟩=some (.slice (some ⟨a.ca,0,none⟩) 1 cc) ∧ W.cell? ⟨a.ca,0,none⟩=some (.pointer (some ⟨a.c,0,none⟩)) ∧ W.cell? ⟨a.c,0,none⟩=some (.pointer (some ⟨a.bx,0,none⟩))) (go_keep) ((go_at_call 69;refine HPT.out.mono ?_;rintro e w4 ⟨rfl,hd4,ho4⟩;have q1:=cell_only k1 hl1 ho4 (by simp;omega);have q3:=cell_only k3 hl1 ho4 (by simp;omega);have r1:=cell_only y1 hl2 ho4 (by simp;omega);have rc:=cell_only yc hl3 ho4 (by simp;omega);have rb:=cell_only yb hl4 ho4 (by simp;omega)))
 have HD4:=Lib.hid hd4
 have HB4:=Lib.hid (HB2.out.trans (ho4.below (B:=B) (by intro x hx;simp at hx;omega) (Nat.le_trans hBw HB2.out.size)))
 clear k0 k1 k3 y1 yc yb q1 q3 r1 rc rb HH HPT HD2 HK2 HB2 hd4 ho4
 go_wp2_with fail
 go_ret
 exact ⟨rfl,⟨a,cc,t,HD4.out,HT.out⟩,HB4.out⟩
def RetBz (w:World) (xs:List Int) (e:Ending) (w':World):Prop:=∃ v,e=.returned v ∧ Ints w' w'.heap.size .i64 v xs ∧ Below w.heap.size w w'
theorem mc_phase {w:World} {m:Nat} {t:Tv} {ph:Int} {tx:ByteArray} {op ttl:Int} {nm:Value} {at_:Int} {rc:Value} {ra:Int} (h:Blk w m 165 (mcells t ph tx op ttl nm at_ rc ra)):w.cell? ⟨m,13,none⟩=some (.int .i64 ph):=(mc_own h).2.1
theorem busy_yes {B d:Nat} {a:Adr} {cc:Nat} {w:World} {steps:Int} {opv:Value} {opn:Int} {buf:Array Value} {cs cr:Nat} {mc:Array Value} {cnt:Int} {lo:Option (Nat × ByteArray)} {stp:Bool} (ph:Int) (h:DS B d a cc w steps opv opn buf cs cr mc cnt lo stp) (hp:w.cell? ⟨a.m,13,none⟩=some (.int .i64 ph)) (hy:ph ≠ 0 ∨ (ph=0 ∧ buf.size=1)) :
  Calls Tryz.prog 72 #[.pointer (some ⟨d,0,none⟩)] w (RetBz w [0]):=by
 obtain ⟨i1,hi1,hi10,hi11,hi12⟩:=info_parts Tryz.infoInt
 have y1:w.cell? ⟨d,1,none⟩=some (.slice (some ⟨a.ca,0,none⟩) 1 cc):=h.dsk.at_ (i:=1) rfl
 have yc:=h.cla
 have yb:w.cell? ⟨a.c,0,none⟩=some (.pointer (some ⟨a.bx,0,none⟩)):=h.cli.at_ (i:=0) rfl
 have ym:w.cell? ⟨a.c,1,none⟩=some (.pointer (some ⟨a.m,0,none⟩)):=h.cli.at_ (i:=1) rfl
 have HP:=Lib.hid (phase_any a.m ph w hp)
 have HL:=Lib.hid (mlen_any buf a.bx a.ch cs cr w h.box h.chn)
 clear h hp
 have hcase:((ph != 0)=true) ∨ (ph=0 ∧ 0 < buf.size):=by
  rcases hy with h | ⟨h1,h2⟩
  ·exact .inl (by simpa using h)
  ·exact .inr ⟨h1,by omega⟩
 clear hy
 rcases hcase with z1 | ⟨rfl,z2⟩
 ·go_enter Tryz.func72,Tryz.ntmps72
  go_wp2_with fail
  refine wp_loop_rounds 2 ?_
  rw [rounds_succ]
  go_upto_region 6 with (go_at_call 118;refine HP.out.mono ?_;rintro e w1 ⟨rfl,rfl⟩)
  go_wp2_with (at_builtin;refine wpList_append_own _ rfl _ _ 22 rfl w.heap.size 3 i1 (.int .i64 0) 1 8 Tryz.underlying22 hi1 hi10 hi11 hi12 rfl (by decide) _ _ _ rfl (World.ownsRow_nil _ _ _ _) ⟨w.heap.size,0,none⟩ 1 1 [.int .i64 0] rfl rfl (cells_new _ [_] _) ?c2 ?c3 ?c4 ?c5 ?_)
  case c2 => intro u hu;simp at hu;subst hu;rfl
  case c3 => unfold maxLen;omega
  case c4 => omega
  case c5 => simp
  intro v2 w2 ho2 hg2 _
  have b2:Below w.heap.size w w2:=((Below.refl _ w).alloc (Nat.le_refl _) _).grown hg2 (by simp) (by intro k hk;cases hk)
  have HI:=Lib.hid (Ints.of_own (xs:=[0]) ho2)
  obtain ⟨g,c,rfl,_,_,_,_,_⟩:=own_at ho2 (by omega)
  clear ho2 hg2 y1 yc yb ym HP HL
  go_wp2_with fail
  rw [rounds_succ]
  go_wp2_with fail
  go_ret
  exact ⟨_,rfl,HI.out,b2⟩
 ·go_enter Tryz.func72,Tryz.ntmps72
  go_wp2_with fail
  refine wp_loop_rounds 2 ?_
  rw [rounds_succ]
  go_upto_region 6 with (first | (go_at_call 118;refine HP.out.mono ?_;rintro e w1 ⟨rfl,rfl⟩) | (go_at_call 125;refine HL.out.mono ?_;rintro e w1 ⟨rfl,rfl⟩))
  go_wp2_with (at_builtin;refine wpList_append_own _ rfl _ _ 22 rfl w.heap.size 3 i1 (.int .i64 0) 1 8 Tryz.underlying22 hi1 hi10 hi11 hi12 rfl (by decide) _ _ _ rfl (World.ownsRow_nil _ _ _ _) ⟨w.heap.size,0,none⟩ 1 1 [.int .i64 0] rfl rfl (cells_new _ [_] _) ?c2 ?c3 ?c4 ?c5 ?_)
  case c2 => intro u hu;simp at hu;subst hu;rfl
  case c3 => unfold maxLen;omega
  case c4 => omega
  case c5 => simp
  intro v2 w2 ho2 hg2 _
  have b2:Below w.heap.size w w2:=((Below.refl _ w).alloc (Nat.le_refl _) _).grown hg2 (by simp) (by intro k hk;cases hk)
  have HI:=Lib.hid (Ints.of_own (xs:=[0]) ho2)
  obtain ⟨g,c,rfl,_,_,_,_,_⟩:=own_at ho2 (by omega)
  clear ho2 hg2 y1 yc yb ym HP HL
  go_wp2_with fail
  rw [rounds_succ]
  go_wp2_with fail
  go_ret
  exact ⟨_,rfl,HI.out,b2⟩
theorem busy_no {B d:Nat} {a:Adr} {cc:Nat} {w:World} {steps:Int} {opv:Value} {opn:Int} {cs cr:Nat} {mc:Array Value} {cnt:Int} {lo:Option (Nat × ByteArray)} {stp:Bool} (h:DS B d a cc w steps opv opn #[] cs cr mc cnt lo stp) (hp:w.cell? ⟨a.m,13,none⟩=some (.int .i64 0)) :
  Calls Tryz.prog 72 #[.pointer (some ⟨d,0,none⟩)] w fun e w' => e=.returned (.slice none 0 0) ∧ w=w':=by
 have y1:w.cell? ⟨d,1,none⟩=some (.slice (some ⟨a.ca,0,none⟩) 1 cc):=h.dsk.at_ (i:=1) rfl
 have yc:=h.cla
 have yb:w.cell? ⟨a.c,0,none⟩=some (.pointer (some ⟨a.bx,0,none⟩)):=h.cli.at_ (i:=0) rfl
 have ym:w.cell? ⟨a.c,1,none⟩=some (.pointer (some ⟨a.m,0,none⟩)):=h.cli.at_ (i:=1) rfl
 have HP:=Lib.hid (phase_any a.m 0 w hp)
 have HL:=Lib.hid (mlen_any #[] a.bx a.ch cs cr w h.box h.chn)
 clear h hp
 go_enter Tryz.func72,Tryz.ntmps72
 go_wp2_with fail
 refine wp_loop_rounds 2 ?_
 rw [rounds_succ]
 go_wp2_with (first | (go_at_call 118;refine HP.out.mono ?_;rintro e w1 ⟨rfl,rfl⟩) | (go_at_call 125;refine HL.out.mono ?_;rintro e w1 ⟨rfl,rfl⟩))
 rw [rounds_succ]
 go_wp2_with fail
 go_ret
 exact ⟨rfl,rfl⟩
end Go.Proofs.YtjafpikjpipbkaaGreatDoor
namespace Go.Proofs.YtjafpikjpipbkaaGreatDoor
open Go.RowKit ND
theorem blk_setRow {w:World} {b:Nat} {t:TypeId} {old:Array Value} (h:Blk w b t old) (cs:Array Value):Blk (w.setRow b cs) b t cs:=setRow_heap w b old cs t (0,0) h
theorem only_setRow (w:World) (b:Nat) (cs:Array Value):onlyIn [b] w (w.setRow b cs) :=
 ⟨rfl,rfl,rfl,by simp [World.setRow],fun k hk _ => setRow_other w b k cs (fun e => hk (by simp [e]))⟩
theorem begin_any (m:Nat) (t:Tv) (tx:ByteArray) (w:World) (hm:Blk w m 165 (mcells t 0 ⟨#[]⟩ 0 0 (.slice none 0 0) 0 (.slice none 0 0) 0)) (ht:TabR w w.heap.size t T0) :
  Calls Tryz.prog 153 #[.pointer (some ⟨m,0,none⟩),.string tx] w fun e w' => e=.returned (.int .i64 0) ∧ Blk w' m 165 (mcells t 1 tx 0 0 (.slice none 0 0) 0 (.slice none 0 0) 0) ∧ onlyIn [m] w w':=by
 obtain ⟨A0,A1,A2,A3,A4,A5,A6,A7,A8,A9,A10,A11,k0,k1,k2,k3,k4,k5,k6,k7,k8,k9,k10,k11,rfl⟩:=ht.shape
 clear ht
 have HM:=Lib.hid hm
 obtain ⟨x0,x1,x2,x3,x4,x5,x6,x7⟩:=mc_own hm
 clear hm
 go_enter Tryz.func153,Tryz.ntmps153
 go_upto_region 3 with fail
 obtain ⟨y0,y1,y2,y3,y4,y5,y6,y7,y8,y9,y10,y11⟩:=mc_tab HM.out
 obtain ⟨z0,z1,z2,z3,z4,z5,z6,z7⟩:=mc_rsp HM.out
 simp only at y0 y1 y2 y3 y4 y5 y6 y7 y8 y9 y10 y11
 go_still_tail 12,(by kernel_rfl)
 change wpList _ _ _ _ _ w.drew
 have hb2:=(Below.refl w.heap.size w).drew
 have HM2:=Lib.hid (HM.out.later hb2)
 have HO2:=Lib.hid (onlyIn.of_below (S:=[m]) hb2)
 clear x0 x1 x2 x3 x4 x5 x6 x7 y0 y1 y2 y3 y4 y5 y6 y7 y8 y9 y10 y11 z0 z1 z2 z3 z4 z5 z6 z7 HM hb2
 generalize w.drew=w2 at *
 refine wpList_plain rfl fun _ hK => wp_store_row 165 (.tmp 21) (.tmp 20) rfl m #[.slice A0 T0.category.length k0,.slice A1 T0.cls.length k1,.slice A2 T0.joining.length k2,.slice A3 T0.bidi.length k3,.slice A4 T0.script.length k4,.slice A5 T0.status.length k5,.slice A6 T0.ignorable.length k6,.slice A7 T0.extensions.length k7,.slice A8 T0.maps.length k8,.slice A9 T0.decomps.length k9,.slice A10 T0.excluded.length k10,.slice A11 T0.prototypes.length k11,.int .i64 0,.int .i64 1,.string tx,.int .i64 0,.int .i64 0,.slice none 0 0,.int .i64 0,.slice none 0 0,.int .i64 0,.int .i64 0,.string ⟨#[]⟩,.int .i64 0,.int .i64 0,.string ⟨#[]⟩,.int .i64 0,.int .i64 0] rfl rfl _ _ HM2.out rfl rfl (by simp [Value.oneCell']) (hK _ _ ?_)
 have HM3:=Lib.hid (blk_setRow HM2.out #[.slice A0 T0.category.length k0,.slice A1 T0.cls.length k1,.slice A2 T0.joining.length k2,.slice A3 T0.bidi.length k3,.slice A4 T0.script.length k4,.slice A5 T0.status.length k5,.slice A6 T0.ignorable.length k6,.slice A7 T0.extensions.length k7,.slice A8 T0.maps.length k8,.slice A9 T0.decomps.length k9,.slice A10 T0.excluded.length k10,.slice A11 T0.prototypes.length k11,.int .i64 0,.int .i64 1,.string tx,.int .i64 0,.int .i64 0,.slice none 0 0,.int .i64 0,.slice none 0 0,.int .i64 0,.int .i64 0,.string ⟨#[]⟩,.int .i64 0,.int .i64 0,.string ⟨#[]⟩,.int .i64 0,.int .i64 0])
 have HO3:=Lib.hid (HO2.out.trans (only_setRow w2 m #[.slice A0 T0.category.length k0,.slice A1 T0.cls.length k1,.slice A2 T0.joining.length k2,.slice A3 T0.bidi.length k3,.slice A4 T0.script.length k4,.slice A5 T0.status.length k5,.slice A6 T0.ignorable.length k6,.slice A7 T0.extensions.length k7,.slice A8 T0.maps.length k8,.slice A9 T0.decomps.length k9,.slice A10 T0.excluded.length k10,.slice A11 T0.prototypes.length k11,.int .i64 0,.int .i64 1,.string tx,.int .i64 0,.int .i64 0,.slice none 0 0,.int .i64 0,.slice none 0 0,.int .i64 0,.int .i64 0,.string ⟨#[]⟩,.int .i64 0,.int .i64 0,.string ⟨#[]⟩,.int .i64 0,.int .i64 0]))
 clear HM2 HO2
 generalize w2.setRow m #[.slice A0 T0.category.length k0,.slice A1 T0.cls.length k1,.slice A2 T0.joining.length k2,.slice A3 T0.bidi.length k3,.slice A4 T0.script.length k4,.slice A5 T0.status.length k5,.slice A6 T0.ignorable.length k6,.slice A7 T0.extensions.length k7,.slice A8 T0.maps.length k8,.slice A9 T0.decomps.length k9,.slice A10 T0.excluded.length k10,.slice A11 T0.prototypes.length k11,.int .i64 0,.int .i64 1,.string tx,.int .i64 0,.int .i64 0,.slice none 0 0,.int .i64 0,.slice none 0 0,.int .i64 0,.int .i64 0,.string ⟨#[]⟩,.int .i64 0,.int .i64 0,.string ⟨#[]⟩,.int .i64 0,.int .i64 0]=w3 at *
 go_wp2_with fail
 go_ret
 exact ⟨rfl,HM3.out,HO3.out⟩
end Go.Proofs.YtjafpikjpipbkaaGreatDoor
