/-
  Merged texts: lemmas and walks that the last text of this claim leans on.
-/
import Derived.Test.YtjafpikjpipbkaaGreatDoorMgTS34
import Derived.Deep.RegionHeld3
import Derived.Deep.CutRange
import Derived.Test.YtjafpikjpipbkaaGreatDoorMgTS27
set_option maxRecDepth 100000
set_option maxHeartbeats 40000000
namespace Go.Proofs.YtjafpikjpipbkaaGreatDoor
open Go.RowKit ND
theorem cell_only {S:List Nat} {w w':World} {g j:Nat} {u:Value} (h:w.cell? ⟨g,j,none⟩=some u) (hg:g < w.heap.size) (ho:onlyIn S w w') (hS:g ∉ S):w'.cell? ⟨g,j,none⟩=some u :=
 (World.cell?_of_block (w:=w) (a:=⟨g,j,none⟩) (ho.2.2.2.2 g hS hg)).trans h
theorem NameAt.only {S:List Nat} {w w':World} {g:Nat} (h:NameAt w g) (hg:g < w.heap.size) (ho:onlyIn S w w') (hS:g ∉ S):NameAt w' g :=
 ⟨cell_only h.1 hg ho hS,cell_only h.2.1 hg ho hS,cell_only h.2.2 hg ho hS⟩
theorem NameAt.later {w w':World} {g:Nat} (h:NameAt w g) (hg:g < w.heap.size) (hb:Below w.heap.size w w'):NameAt w' g :=
 ⟨cell_stay h.1 hg hb,cell_stay h.2.1 hg hb,cell_stay h.2.2 hg hb⟩
def kA:ByteArray:=⟨#[97]⟩
theorem step_lock (m sh lk sl ow gn cn:Nat) (t:Tv) (tx:ByteArray) (rc:Value) (ra:Int) (w:World) (hm:Blk w m 165 (mcells t 2 tx 1 5 (.slice (some ⟨gn,0,none⟩) 1 cn) 0 rc ra)) (hn:NameAt w gn)
  (hs:w.cell? ⟨sh,4,none⟩=some (.pointer (some ⟨lk,0,none⟩))) (hl:LockS w lk sl ow none) (n1:m ≠ lk) (n2:m ≠ sl) (n3:m ≠ ow) :
  Calls Tryz.prog 120 #[.pointer (some ⟨m,0,none⟩),.pointer (some ⟨sh,0,none⟩)] w fun e w' => e=.returned (.int .i64 1) ∧ Blk w' m 165 (mcells t 3 tx 1 5 (.slice (some ⟨gn,0,none⟩) 1 cn) 0 rc ra) ∧ LockS w' lk sl ow (some (homeK kA 2048,kA)) ∧ onlyIn [m,lk,sl,ow] w w':=by
 obtain ⟨x0,x1,x2,x3,x4,x5,x6,x7⟩:=mc_own hm
 have HK:=Lib.hid (fun k => key_any m gn cn (w.drewN k) x5 x6 hn)
 have HA:=Lib.hid (fun k => acquire_any kA lk sl ow (w.drewN k) (by decide) (hl.later (below_drewN (Below.refl _ _) k)))
 have HM:=Lib.hid hm
 have HN:=Lib.hid hn
 have HL:=Lib.hid hl
 clear hm hn hl
 go_enter Tryz.func120,Tryz.ntmps120
 go_upto_region 5 with fail
 go_region_law (first | (go_simp;go_at_call 156;refine (HK.out _).mono ?_;rintro e w2 ⟨rfl,nk,rfl⟩) | (go_simp;go_at_call 155;refine (HA.out _).mono ?_;rintro e w3 ⟨rfl,hl3,ho3⟩))
 all_goals
  have ho:=(onlyIn.of_below (S:=[lk,sl,ow]) (below_drewN (Below.refl w.heap.size w) _)).trans ho3
  have HM3:=Lib.hid (ho.blk HM.out (by simp [n1,n2,n3]))
  have HL3:=Lib.hid hl3
  have HO3:=Lib.hid (ho.more (S':=[m,lk,sl,ow]) (by intro x hx;exact List.mem_cons_of_mem _ hx))
  have HX:=Lib.hid (next_one m t 2 3 tx 1 5 _ cn rc ra w3 HM3.out)
  clear x0 x1 x2 x3 x4 x5 x6 x7 hs ho ho3 hl3 HK HA HM HL
  go_wp2_with (go_at_call 157;refine HX.out.mono ?_;rintro e w4 ⟨rfl,h4,o4⟩)
  go_ret
  exact ⟨rfl,h4,HL3.out.only o4 (by simp;omega) (by simp;omega) (by simp;omega),HO3.out.trans (o4.more (by simp))⟩
def RecAt (w:World) (g:Nat) (a:Int) (s:ByteArray) (d:Int):Prop:=w.cell? ⟨g,0,none⟩=some (.int .i64 a) ∧ w.cell? ⟨g,1,none⟩=some (.int .i64 0) ∧ w.cell? ⟨g,2,none⟩=some (.string s) ∧ w.cell? ⟨g,3,none⟩=some (.int .i64 d)
theorem RecAt.only {S:List Nat} {w w':World} {g:Nat} {a:Int} {s:ByteArray} {d:Int} (h:RecAt w g a s d) (hg:g < w.heap.size) (ho:onlyIn S w w') (hS:g ∉ S):RecAt w' g a s d :=
 ⟨cell_only h.1 hg ho hS,cell_only h.2.1 hg ho hS,cell_only h.2.2.1 hg ho hS,cell_only h.2.2.2 hg ho hS⟩
theorem RecAt.later {w w':World} {g:Nat} {a:Int} {s:ByteArray} {d:Int} (h:RecAt w g a s d) (hg:g < w.heap.size) (hb:Below w.heap.size w w'):RecAt w' g a s d :=
 ⟨cell_stay h.1 hg hb,cell_stay h.2.1 hg hb,cell_stay h.2.2.1 hg hb,cell_stay h.2.2.2 hg hb⟩
theorem one4 (a b d:Int) (s:ByteArray):∀ u ∈ [Value.int .i64 a,.int .i64 b,.string s,.int .i64 d],u.oneCell'=true:=by
 intro u hu
 rcases List.mem_cons.1 hu with rfl | hu
 ·rfl
 rcases List.mem_cons.1 hu with rfl | hu
 ·rfl
 rcases List.mem_cons.1 hu with rfl | hu
 ·rfl
 rcases List.mem_cons.1 hu with rfl | hu
 ·rfl
 cases hu
def RetRead (w:World) (m gn cn:Nat) (t:Tv) (tx:ByteArray) (ra:Int) (e:Ending) (w':World):Prop :=
 ∃ gr cr,e=.returned (.int .i64 1) ∧ Blk w' m 165 (mcells t 4 tx 1 5 (.slice (some ⟨gn,0,none⟩) 1 cn) 0 (.slice (some ⟨gr,0,none⟩) 1 cr) ra) ∧ w.heap.size ≤ gr ∧ gr < w'.heap.size ∧ RecAt w' gr 0 ⟨#[]⟩ 0 ∧ onlyIn [m] w w'
theorem step_read (m sh st ss sr gn cn:Nat) (t:Tv) (tx:ByteArray) (ra:Int) (w:World) (hm:Blk w m 165 (mcells t 3 tx 1 5 (.slice (some ⟨gn,0,none⟩) 1 cn) 0 (.slice none 0 0) ra)) (hn:NameAt w gn)
  (hs:w.cell? ⟨sh,5,none⟩=some (.pointer (some ⟨st,0,none⟩))) (hst:StoreS w st ss sr) :
  Calls Tryz.prog 120 #[.pointer (some ⟨m,0,none⟩),.pointer (some ⟨sh,0,none⟩)] w (RetRead w m gn cn t tx ra):=by
 obtain ⟨i0,hi,hz0,hz1,hz2⟩:=info_parts Tryz.infoRec
 obtain ⟨x0,x1,x2,x3,x4,x5,x6,x7⟩:=mc_own hm
 have HK:=Lib.hid (fun k => key_any m gn cn (w.drewN k) x5 x6 hn)
 have HGT:=Lib.hid (fun k => get0_any kA st ss sr (w.drewN k) (by decide) (hst.later (below_drewN (Below.refl _ _) k)))
 have HM:=Lib.hid hm
 have hml:=hm.lt
 clear hm hn hst
 go_enter Tryz.func120,Tryz.ntmps120
 go_upto_region 9 with fail
 clear x0 x1 x2 x3 x4 x5 x6
 go_region_law (first | (go_simp;go_at_call 156;refine (HK.out _).mono ?_;rintro e w2 ⟨rfl,nk,rfl⟩) | (go_simp;go_at_call 158;refine (HGT.out _).mono ?_;rintro e w3 ⟨rfl,b3⟩;have hb3:Below w.heap.size w w3:=(below_drewN (Below.refl w.heap.size w) _).trans b3;have y7:=cell_stay x7 hml hb3;have hm3:m < w3.heap.size:=Nat.lt_of_lt_of_le hml hb3.size;have hn3:m ≠ w3.heap.size:=Nat.ne_of_lt hm3) | (refine step_app_own rfl (.tmp 35) (.tmp 43) rfl w.heap.size (.agg #[.int .i64 0,.int .i64 0,.string ⟨#[]⟩,.int .i64 0]) 4 40 Tryz.underlying163 hi hz0 hz1 hz2 rfl (by decide) _ _ _ rfl (World.ownsRow_nil _ _ _ _) _ 1 1 [.int .i64 0,.int .i64 0,.string ⟨#[]⟩,.int .i64 0] rfl rfl (cells_new _ [_,_,_,_] _) (one4 _ _ _ _) (by unfold maxLen;omega) (by omega) (by have:=hb3.size;simp;omega) ?_;intro v4 w4 ho4 hg4;have hb4:Below w.heap.size w w4:=(hb3.alloc hb3.size _).grown hg4 (by have:=hb3.size;simp;omega) (by intro k hk;cases hk);have z7:=cell_stay x7 hml hb4;have f7:=(HM.out.later hb4).free 19;obtain ⟨g4,c4,rfl,hg40,hg4l,_,_,hcs⟩:=own_at ho4 (by omega);have HR4:Hid (RecAt w4 g4 0 ⟨#[]⟩ 0):=Lib.hid ⟨hcs 0 _ rfl,hcs 1 _ rfl,hcs 2 _ rfl,hcs 3 _ rfl⟩;clear ho4 hg4 hcs))
 all_goals
  have HB:=Lib.hid (mc_put 19 (.slice (some ⟨g4,0,none⟩) 1 c4) _ rfl (HM.out.later hb4))
  have ho5:onlyIn [m] w4 (w4.setCell ⟨m,19,none⟩ (.slice (some ⟨g4,0,none⟩) 1 c4)):=onlyIn_set (onlyIn.refl _ _) (p:=⟨m,19,none⟩) (by simp) _
  have HO5:=Lib.hid ((onlyIn.of_below hb4).trans ho5)
  have HR5:=Lib.hid (HR4.out.only hg4l ho5 (by simp;omega))
  have hl5:=Nat.lt_of_lt_of_le hg4l ho5.2.2.2.1
  clear HR4 HM HK HGT b3 hb3 y7 hm3 hn3 hb4 z7 f7 ho5 x7
  generalize w4.setCell ⟨m,19,none⟩ (.slice (some ⟨g4,0,none⟩) 1 c4)=w5 at *
  have HX:=Lib.hid (next_one m t 3 4 tx 1 5 (some ⟨gn,0,none⟩) cn (.slice (some ⟨g4,0,none⟩) 1 c4) ra w5 HB.out)
  go_wp2_with (go_at_call 157;refine HX.out.mono ?_;rintro e w6 ⟨rfl,h6,o6⟩)
  go_ret
  exact ⟨g4,c4,rfl,h6,hg40,Nat.lt_of_lt_of_le hl5 o6.2.2.2.1,HR5.out.only hl5 o6 (by simp;omega),HO5.out.trans o6⟩
end Go.Proofs.YtjafpikjpipbkaaGreatDoor
namespace Go.Proofs.YtjafpikjpipbkaaGreatDoor
open Go.RowKit ND
def RetDc (w:World) (m sh gn cn:Nat) (lkv stv:Value) (t:Tv) (tx:ByteArray) (e:Ending) (w':World):Prop :=
 ∃ gr cr,e=.returned (.int .i64 3) ∧ Blk w' m 165 (mcells t 5 tx 1 5 (.slice (some ⟨gn,0,none⟩) 1 cn) 0 (.slice (some ⟨gr,0,none⟩) 1 cr) (-1)) ∧ w.heap.size ≤ gr ∧ gr < w'.heap.size ∧ RecAt w' gr 1 kA 5 ∧ Blk w' sh 174 #[.int .i64 1,.int .i64 1,.int .i64 0,.int .i64 1,lkv,stv] ∧ onlyIn [m,sh] w w'
def RetDec2 (w:World) (B:Nat) (W:World) (e:Ending) (w':World):Prop :=
 ∃ g c,e=.returned (.tuple #[.agg #[.int .i64 0,.int .i64 (-1),.string ⟨#[]⟩,.int .i64 0,.int .i64 0,.string ⟨#[]⟩,.int .i64 0,.int .i64 0],.slice (some ⟨g,0,none⟩) 1 c]) ∧ B ≤ g ∧ g < w'.heap.size ∧ RecAt w' g 1 kA 5 ∧ Below w.heap.size w w' ∧ ∀ b T cs,Blk W b T cs → Blk w' b T cs
theorem decide_any (m sh gn cn gr cr:Nat) (lkv stv:Value) (t:Tv) (tx:ByteArray) (ra:Int) (w:World) (hm:Blk w m 165 (mcells t 4 tx 1 5 (.slice (some ⟨gn,0,none⟩) 1 cn) 0 (.slice (some ⟨gr,0,none⟩) 1 cr) ra)) (hn:NameAt w gn) (hr:RecAt w gr 0 ⟨#[]⟩ 0)
  (hs:Blk w sh 174 #[.int .i64 1,.int .i64 1,.int .i64 0,.int .i64 0,lkv,stv]) (hgn:gn < w.heap.size) (hgr:gr < w.heap.size) (hne:m ≠ sh) (hne2:gr ≠ m) :
  Calls Tryz.prog 159 #[.pointer (some ⟨m,0,none⟩),.pointer (some ⟨sh,0,none⟩)] w (RetDc w m sh gn cn lkv stv t tx):=by
 have HD:Hid (∀ W B,Below w.heap.size w W → B ≤ W.heap.size → Calls Tryz.prog 189 #[.agg #[.int .i64 1,.int .i64 1],.int .i64 0,.int .i64 0,.int .i64 1,.int .i64 5,.slice (some ⟨gn,0,none⟩) 1 cn,.slice (some ⟨gr,0,none⟩) 1 cr,.int .i64 0] W (RetDec2 w B W)):=Lib.hid fun W B hW hBW => by
  have hsz:=hW.size
  refine (decideH kA kA kA gn cn gr cr W (by omega) (by omega) (cell_stay hn.1 hgn hW) (cell_stay hn.2.1 hgn hW) (cell_stay hn.2.2 hgn hW) (cell_stay hr.1 hgr hW) (cell_stay hr.2.1 hgr hW) (cell_stay hr.2.2.1 hgr hW) (cell_stay hr.2.2.2 hgr hW)).mono ?_
  rintro e w' ⟨v,he,ho,hb⟩
  obtain ⟨g,c,rfl,h1,h2,_,_,hcs⟩:=own_at ho (by omega)
  exact ⟨g,c,he,by omega,h2,⟨hcs 0 _ rfl,hcs 1 _ rfl,hcs 2 _ rfl,hcs 3 _ rfl⟩,hW.trans (hb.mono hsz),fun _ _ _ h => h.later hb⟩
 have hba:Below w.heap.size w ((w.alloc (.cells #[.int .i64 0,.int .i64 0,.string ⟨#[]⟩,.int .i64 0,.int .i64 0,.string ⟨#[]⟩,.int .i64 0,.int .i64 0] 83)).drew):=((Below.refl _ _).alloc (Nat.le_refl _) _).drew
 have hka:Blk ((w.alloc (.cells #[.int .i64 0,.int .i64 0,.string ⟨#[]⟩,.int .i64 0,.int .i64 0,.string ⟨#[]⟩,.int .i64 0,.int .i64 0] 83)).drew) w.heap.size 83 #[.int .i64 0,.int .i64 0,.string ⟨#[]⟩,.int .i64 0,.int .i64 0,.string ⟨#[]⟩,.int .i64 0,.int .i64 0]:=(Blk.new w _ _).later ((Below.refl _ _).drew)
 have HDA:Hid (Calls Tryz.prog 189 #[.agg #[.int .i64 1,.int .i64 1],.int .i64 0,.int .i64 0,.int .i64 1,.int .i64 5,.slice (some ⟨gn,0,none⟩) 1 cn,.slice (some ⟨gr,0,none⟩) 1 cr,.int .i64 0] ((w.alloc (.cells #[.int .i64 0,.int .i64 0,.string ⟨#[]⟩,.int .i64 0,.int .i64 0,.string ⟨#[]⟩,.int .i64 0,.int .i64 0] 83)).drew) (RetDec2 w (w.heap.size + 1) ((w.alloc (.cells #[.int .i64 0,.int .i64 0,.string ⟨#[]⟩,.int .i64 0,.int .i64 0,.string ⟨#[]⟩,.int .i64 0,.int .i64 0] 83)).drew))):=Lib.hid (HD.out _ _ hba (by rw [← World.size_alloc w (.cells #[.int .i64 0,.int .i64 0,.string ⟨#[]⟩,.int .i64 0,.int .i64 0,.string ⟨#[]⟩,.int .i64 0,.int .i64 0] 83)];exact Nat.le_refl _))
 have HDB:Hid (Calls Tryz.prog 189 #[.agg #[.int .i64 1,.int .i64 1],.int .i64 0,.int .i64 0,.int .i64 1,.int .i64 5,.slice (some ⟨gn,0,none⟩) 1 cn,.slice (some ⟨gr,0,none⟩) 1 cr,.int .i64 0] w.drew (RetDec2 w w.heap.size w.drew)):=Lib.hid (HD.out _ _ (Below.refl _ _).drew (Nat.le_refl _))
 have HKA:=Lib.hid hka
 clear hba hka HD
 obtain ⟨x0,x1,x2,x3,x4,x5,x6,x7⟩:=mc_own hm
 have s0:w.cell? ⟨sh,0,none⟩=some (.int .i64 1):=hs.at_ (i:=0) rfl
 have s1:w.cell? ⟨sh,1,none⟩=some (.int .i64 1):=hs.at_ (i:=1) rfl
 have s2:w.cell? ⟨sh,2,none⟩=some (.int .i64 0):=hs.at_ (i:=2) rfl
 have s3:w.cell? ⟨sh,3,none⟩=some (.int .i64 0):=hs.at_ (i:=3) rfl
 have HM:=Lib.hid hm
 have HS:=Lib.hid hs
 have HRR:=Lib.hid hr
 have hml:=hm.lt
 have hsl:=hs.lt
 have nb1:w.heap.size ≠ sh:=by omega
 have nb2:w.heap.size ≠ m:=by omega
 clear hm hs hn hr
 go_enter Tryz.func159,Tryz.ntmps159
 go_upto_region 1 with fail
 go_cut [5,6] from 5 to 44 (fun s5 s6 wx => ∃ b g c,s5=.pointer (some ⟨b,0,none⟩) ∧ s6=.slice (some ⟨g,0,none⟩) 1 c ∧ w.heap.size ≤ b ∧ w.heap.size ≤ g ∧ g < wx.heap.size ∧ Hid (Blk wx b 83 #[.int .i64 0,.int .i64 (-1),.string ⟨#[]⟩,.int .i64 0,.int .i64 0,.string ⟨#[]⟩,.int .i64 0,.int .i64 0]) ∧ Hid (RecAt wx g 1 kA 5) ∧ Hid (Below w.heap.size w wx))
 case first =>
  go_region_held3 (fun W => W.cell? ⟨sh,0,none⟩=some (.int .i64 1) ∧ W.cell? ⟨sh,1,none⟩=some (.int .i64 1) ∧ W.cell? ⟨sh,2,none⟩=some (.int .i64 0) ∧ W.cell? ⟨sh,3,none⟩=some (.int .i64 0) ∧ W.cell? ⟨m,12,none⟩=some (.int .i64 0) ∧ W.cell? ⟨m,15,none⟩=some (.int .i64 1) ∧ W.cell? ⟨m,16,none⟩=some (.int .i64 5) ∧ W.cell? ⟨m,17,none⟩=some (.slice (some ⟨gn,0,none⟩) 1 cn) ∧ W.cell? ⟨m,19,none⟩=some (.slice (some ⟨gr,0,none⟩) 1 cr)) (go_keep) (first | (go_at_call 189;(with_reducible refine HDB.out.mono ?_);rintro e w3 ⟨g3,c3,rfl,hg3,hg3l,hr3,hb3,_⟩;have HQ3:=Lib.hid (show _ ∧ _ ∧ _ from ⟨hr3,hg3l,hb3⟩);clear hr3;have q1:w3.heap.size ≠ sh:=Nat.ne_of_gt (Nat.lt_of_lt_of_le hsl hb3.size);have q2:w3.heap.size ≠ m:=Nat.ne_of_gt (Nat.lt_of_lt_of_le hml hb3.size);have y0:=cell_stay s0 hsl hb3;have y1:=cell_stay s1 hsl hb3;have y2:=cell_stay s2 hsl hb3;have y3:=cell_stay s3 hsl hb3;have v0:=cell_stay x0 hml hb3;have v3:=cell_stay x3 hml hb3;have v4:=cell_stay x4 hml hb3;have v5:=cell_stay x5 hml hb3;have v7:=cell_stay x7 hml hb3) | (go_at_call 189;(with_reducible refine HDA.out.mono ?_);rintro e w3 ⟨g3,c3,rfl,hg3,hg3l,hr3,hb3,hpk⟩;have HQ3:=Lib.hid (show _ ∧ _ ∧ _ from ⟨hr3,hg3l,hb3⟩);have HXB:=Lib.hid (hpk _ _ _ HKA.out);clear hr3 hpk;obtain ⟨z0,z1,z2,z3,z4,z5,z6,z7⟩:=HXB.out.eight;have f0:=HXB.out.free 0;have f1:=HXB.out.free 1;have f2:=HXB.out.free 2;have f3:=HXB.out.free 3;have f4:=HXB.out.free 4;have f5:=HXB.out.free 5;have f6:=HXB.out.free 6;have f7:=HXB.out.free 7;have y0:=cell_stay s0 hsl hb3;have y1:=cell_stay s1 hsl hb3;have y2:=cell_stay s2 hsl hb3;have y3:=cell_stay s3 hsl hb3;have v0:=cell_stay x0 hml hb3;have v3:=cell_stay x3 hml hb3;have v4:=cell_stay x4 hml hb3;have v5:=cell_stay x5 hml hb3;have v7:=cell_stay x7 hml hb3))
  ·have b4:Below w3.heap.size w3 (w3.alloc (.cells #[.int .i64 0,.int .i64 (-1),.string ⟨#[]⟩,.int .i64 0,.int .i64 0,.string ⟨#[]⟩,.int .i64 0,.int .i64 0] 83)):=(Below.refl _ _).alloc (Nat.le_refl _) _
   have HB4:=Lib.hid (HQ3.out.2.2.trans (b4.mono HQ3.out.2.2.size))
   have HR4:=Lib.hid (HQ3.out.1.later hg3l b4)
   have HX4:Hid (Blk (w3.alloc (.cells #[.int .i64 0,.int .i64 (-1),.string ⟨#[]⟩,.int .i64 0,.int .i64 0,.string ⟨#[]⟩,.int .i64 0,.int .i64 0] 83)) w3.heap.size 83 #[.int .i64 0,.int .i64 (-1),.string ⟨#[]⟩,.int .i64 0,.int .i64 0,.string ⟨#[]⟩,.int .i64 0,.int .i64 0]):=Lib.hid (Blk.new _ _ _)
   have hl4:=Nat.lt_of_lt_of_le hg3l b4.size
   have hw3:=HQ3.out.2.2.size
   go_wp2_with fail
   go_meet
   case rel => exact ⟨_,g3,c3,rfl,rfl,hw3,hg3,hl4,HX4,HR4,HB4⟩
  ·have HE8:Hid (put8 w3 w.heap.size (.int .i64 0) (.int .i64 (-1)) (.string ⟨#[]⟩) (.int .i64 0) (.int .i64 0) (.string ⟨#[]⟩) (.int .i64 0) (.int .i64 0)=((((((((w3.setCell ⟨w.heap.size,0,none⟩ (.int .i64 0)).setCell ⟨w.heap.size,1,none⟩ (.int .i64 (-1))).setCell ⟨w.heap.size,2,none⟩ (.string ⟨#[]⟩)).setCell ⟨w.heap.size,3,none⟩ (.int .i64 0)).setCell ⟨w.heap.size,4,none⟩ (.int .i64 0)).setCell ⟨w.heap.size,5,none⟩ (.string ⟨#[]⟩)).setCell ⟨w.heap.size,6,none⟩ (.int .i64 0)).setCell ⟨w.heap.size,7,none⟩ (.int .i64 0))):=Lib.hid rfl
   have HX8:=Lib.hid (put8_blk (u0:=.int .i64 0) (u1:=.int .i64 (-1)) (u2:=.string ⟨#[]⟩) (u3:=.int .i64 0) (u4:=.int .i64 0) (u5:=.string ⟨#[]⟩) (u6:=.int .i64 0) (u7:=.int .i64 0) HXB.out)
   have HB8:=Lib.hid (put8_below (u0:=.int .i64 0) (u1:=.int .i64 (-1)) (u2:=.string ⟨#[]⟩) (u3:=.int .i64 0) (u4:=.int .i64 0) (u5:=.string ⟨#[]⟩) (u6:=.int .i64 0) (u7:=.int .i64 0) (b:=w.heap.size) HQ3.out.2.2 (Nat.le_refl _))
   have HR8:Hid (RecAt (put8 w3 w.heap.size (.int .i64 0) (.int .i64 (-1)) (.string ⟨#[]⟩) (.int .i64 0) (.int .i64 0) (.string ⟨#[]⟩) (.int .i64 0) (.int .i64 0)) g3 1 kA 5):=Lib.hid (HQ3.out.1.only (S:=[w.heap.size]) hg3l (onlyIn.of_grown put8_grown (by simp)) (by simp;omega))
   have hl8:g3 < (put8 w3 w.heap.size (.int .i64 0) (.int .i64 (-1)) (.string ⟨#[]⟩) (.int .i64 0) (.int .i64 0) (.string ⟨#[]⟩) (.int .i64 0) (.int .i64 0)).heap.size:=Nat.lt_of_lt_of_le hg3l (put8_grown (w:=w3) (b:=w.heap.size) (u0:=.int .i64 0) (u1:=.int .i64 (-1)) (u2:=.string ⟨#[]⟩) (u3:=.int .i64 0) (u4:=.int .i64 0) (u5:=.string ⟨#[]⟩) (u6:=.int .i64 0) (u7:=.int .i64 0)).size
   have hg3':w.heap.size ≤ g3:=by omega
   rw [HE8.out] at HX8 HB8 HR8 hl8
   clear HE8 z0 z1 z2 z3 z4 z5 z6 z7 f0 f1 f2 f3 f4 f5 f6 f7 HXB y0 y1 y2 y3 v0 v3 v4 v5 v7
   generalize ((((((((w3.setCell ⟨w.heap.size,0,none⟩ (.int .i64 0)).setCell ⟨w.heap.size,1,none⟩ (.int .i64 (-1))).setCell ⟨w.heap.size,2,none⟩ (.string ⟨#[]⟩)).setCell ⟨w.heap.size,3,none⟩ (.int .i64 0)).setCell ⟨w.heap.size,4,none⟩ (.int .i64 0)).setCell ⟨w.heap.size,5,none⟩ (.string ⟨#[]⟩)).setCell ⟨w.heap.size,6,none⟩ (.int .i64 0)).setCell ⟨w.heap.size,7,none⟩ (.int .i64 0))=w4 at *
   go_wp2_with fail
   go_meet
   case rel => exact ⟨_,g3,c3,rfl,rfl,Nat.le_refl _,hg3',hl8,HX8,HR8,HB8⟩
 case rest =>
  obtain ⟨b,g,c,rfl,rfl,hb,hg,hgl,HXB,HR,HB⟩:=hcut
  have HMc:=Lib.hid (HM.out.later HB.out)
  have HSc:=Lib.hid (HS.out.later HB.out)
  clear HM HS HDA HDB HKA x0 x1 x2 x3 x4 x5 x6 x7 s0 s1 s2 s3
  obtain ⟨y0,y1,y2,y3,y4,y5,y6,y7⟩:=HXB.out.eight
  obtain ⟨x0,x1,x2,x3,x4,x5,x6,x7⟩:=mc_rsp HMc.out
  have f0:=HMc.out.free 20
  have f1:=HMc.out.free 21
  have f2:=HMc.out.free 22
  have f3:=HMc.out.free 23
  have f4:=HMc.out.free 24
  have f5:=HMc.out.free 25
  have f6:=HMc.out.free 26
  have f7:=HMc.out.free 27
  go_upto_region 3 with fail
  have hm5:Blk ((((((((wc.setCell ⟨m,20,none⟩ (.int .i64 0)).setCell ⟨m,21,none⟩ (.int .i64 (-1))).setCell ⟨m,22,none⟩ (.string ⟨#[]⟩)).setCell ⟨m,23,none⟩ (.int .i64 0)).setCell ⟨m,24,none⟩ (.int .i64 0)).setCell ⟨m,25,none⟩ (.string ⟨#[]⟩)).setCell ⟨m,26,none⟩ (.int .i64 0)).setCell ⟨m,27,none⟩ (.int .i64 0)) m 165 (mcells t 4 tx 1 5 (.slice (some ⟨gn,0,none⟩) 1 cn) 0 (.slice (some ⟨gr,0,none⟩) 1 cr) (-1)):=(mc_put 27 _ (mcells t 4 tx 1 5 (.slice (some ⟨gn,0,none⟩) 1 cn) 0 (.slice (some ⟨gr,0,none⟩) 1 cr) (-1)) rfl (mc_put 26 _ (mcells t 4 tx 1 5 (.slice (some ⟨gn,0,none⟩) 1 cn) 0 (.slice (some ⟨gr,0,none⟩) 1 cr) (-1)) rfl (mc_put 25 _ (mcells t 4 tx 1 5 (.slice (some ⟨gn,0,none⟩) 1 cn) 0 (.slice (some ⟨gr,0,none⟩) 1 cr) (-1)) rfl (mc_put 24 _ (mcells t 4 tx 1 5 (.slice (some ⟨gn,0,none⟩) 1 cn) 0 (.slice (some ⟨gr,0,none⟩) 1 cr) (-1)) rfl (mc_put 23 _ (mcells t 4 tx 1 5 (.slice (some ⟨gn,0,none⟩) 1 cn) 0 (.slice (some ⟨gr,0,none⟩) 1 cr) (-1)) rfl (mc_put 22 _ (mcells t 4 tx 1 5 (.slice (some ⟨gn,0,none⟩) 1 cn) 0 (.slice (some ⟨gr,0,none⟩) 1 cr) (-1)) rfl (mc_put 21 _ (mcells t 4 tx 1 5 (.slice (some ⟨gn,0,none⟩) 1 cn) 0 (.slice (some ⟨gr,0,none⟩) 1 cr) (-1)) rfl (mc_put 20 _ (mcells t 4 tx 1 5 (.slice (some ⟨gn,0,none⟩) 1 cn) 0 (.slice (some ⟨gr,0,none⟩) 1 cr) ra) rfl HMc.out))))))))
  have ho5:onlyIn [m] wc ((((((((wc.setCell ⟨m,20,none⟩ (.int .i64 0)).setCell ⟨m,21,none⟩ (.int .i64 (-1))).setCell ⟨m,22,none⟩ (.string ⟨#[]⟩)).setCell ⟨m,23,none⟩ (.int .i64 0)).setCell ⟨m,24,none⟩ (.int .i64 0)).setCell ⟨m,25,none⟩ (.string ⟨#[]⟩)).setCell ⟨m,26,none⟩ (.int .i64 0)).setCell ⟨m,27,none⟩ (.int .i64 0)):=(onlyIn_set (onlyIn_set (onlyIn_set (onlyIn_set (onlyIn_set (onlyIn_set (onlyIn_set (onlyIn_set (onlyIn.refl _ _) (p:=⟨m,20,none⟩) (by simp) _) (p:=⟨m,21,none⟩) (by simp) _) (p:=⟨m,22,none⟩) (by simp) _) (p:=⟨m,23,none⟩) (by simp) _) (p:=⟨m,24,none⟩) (by simp) _) (p:=⟨m,25,none⟩) (by simp) _) (p:=⟨m,26,none⟩) (by simp) _) (p:=⟨m,27,none⟩) (by simp) _)
  have hbs:=HB.out.size
  have HM5:=Lib.hid hm5
  have HS5:=Lib.hid (ho5.blk HSc.out (by simp;omega))
  have HX5:=Lib.hid (ho5.blk HXB.out (by simp;omega))
  have HR5:=Lib.hid (HR.out.only hgl ho5 (by simp;omega))
  have HRR5:=Lib.hid ((HRR.out.later hgr HB.out).only (S:=[m]) (by omega) ho5 (by simp;omega))
  have hl5:=Nat.lt_of_lt_of_le hgl ho5.2.2.2.1
  have hgr5:gr < ((((((((wc.setCell ⟨m,20,none⟩ (.int .i64 0)).setCell ⟨m,21,none⟩ (.int .i64 (-1))).setCell ⟨m,22,none⟩ (.string ⟨#[]⟩)).setCell ⟨m,23,none⟩ (.int .i64 0)).setCell ⟨m,24,none⟩ (.int .i64 0)).setCell ⟨m,25,none⟩ (.string ⟨#[]⟩)).setCell ⟨m,26,none⟩ (.int .i64 0)).setCell ⟨m,27,none⟩ (.int .i64 0)).heap.size:=Nat.lt_of_lt_of_le (Nat.lt_of_lt_of_le hgr hbs) ho5.2.2.2.1
  have HO5:=Lib.hid (((onlyIn.of_below HB.out).trans ho5).more (S':=[m,sh]) (by simp))
  clear y0 y1 y2 y3 y4 y5 y6 y7 x0 x1 x2 x3 x4 x5 x6 x7 f0 f1 f2 f3 f4 f5 f6 f7 hm5 ho5 HMc HSc HXB HR HB HRR
  generalize ((((((((wc.setCell ⟨m,20,none⟩ (.int .i64 0)).setCell ⟨m,21,none⟩ (.int .i64 (-1))).setCell ⟨m,22,none⟩ (.string ⟨#[]⟩)).setCell ⟨m,23,none⟩ (.int .i64 0)).setCell ⟨m,24,none⟩ (.int .i64 0)).setCell ⟨m,25,none⟩ (.string ⟨#[]⟩)).setCell ⟨m,26,none⟩ (.int .i64 0)).setCell ⟨m,27,none⟩ (.int .i64 0))=w5 at *
  obtain ⟨x0,x1,x2,x3,x4,x5,x6,x7⟩:=mc_own HM5.out
  have y0:w5.cell? ⟨b,0,none⟩=some (.int .i64 0):=HX5.out.at_ (i:=0) rfl
  obtain ⟨r0,r1,r2,r3⟩:=HRR5.out
  go_wp2_with fail
  refine wp_loop_rounds 2 ?_
  rw [rounds_succ]
  go_upto_region 9 with fail
  have b6:Below w5.heap.size w5 (w5.alloc (.cells #[.int .i64 0,.int .i64 0,.string ⟨#[]⟩,.int .i64 0] 81)):=(Below.refl _ _).alloc (Nat.le_refl _) _
  have HB6:Hid (Blk (w5.alloc (.cells #[.int .i64 0,.int .i64 0,.string ⟨#[]⟩,.int .i64 0] 81)) w5.heap.size 81 #[.int .i64 0,.int .i64 0,.string ⟨#[]⟩,.int .i64 0]):=Lib.hid (Blk.new _ _ _)
  have HM6:=Lib.hid (HM5.out.later b6)
  have HS6:=Lib.hid (HS5.out.later b6)
  have HR6:=Lib.hid (HR5.out.later hl5 b6)
  have hl6:=Nat.lt_of_lt_of_le hl5 b6.size
  have HO6:=Lib.hid (HO5.out.trans (onlyIn.of_below b6))
  clear b6 x0 x1 x2 x3 x4 x5 x6 x7 y0 r0 r1 r2 r3 HM5 HS5 HR5 HO5 HX5 HRR5
  generalize w5.alloc (.cells #[.int .i64 0,.int .i64 0,.string ⟨#[]⟩,.int .i64 0] 81)=w6 at *
  obtain ⟨rb,hrb⟩:∃ rb,rb=w5.heap.size:=⟨_,rfl⟩
  rw [← hrb] at HB6 ⊢
  clear hrb
  obtain ⟨r0,r1,r2,r3⟩:=HB6.out.four
  have k1:IntKind.i64.wrap 1=1:=by kernel_rfl
  obtain ⟨_,_,_,x3,_,_,_,_⟩:=mc_own HM6.out
  have s3:w6.cell? ⟨sh,3,none⟩=some (.int .i64 0):=HS6.out.at_ (i:=3) rfl
  go_region_law ((go_simp;go_at_call 190;refine (grows0 _).mono ?_;rintro e w7 ⟨rfl,b7⟩;have hb7:Below w6.heap.size w6 w7:=((Below.refl w6.heap.size w6).drew).trans b7;obtain ⟨q0,q1,q2,q3⟩:=(HB6.out.later hb7).four;have HS7:=Lib.hid (HS6.out.later hb7);have c3:w7.cell? ⟨sh,3,none⟩=some (.int .i64 0):=HS7.out.at_ (i:=3) rfl;have g3:=HS7.out.free 3;have HB7:=Lib.hid hb7;clear b7 hb7))
  all_goals
   have ho8:onlyIn [sh] w7 (w7.setCell ⟨sh,3,none⟩ (.int .i64 1)):=onlyIn_set (onlyIn.refl _ _) (p:=⟨sh,3,none⟩) (by simp) _
   have HS8:Hid (Blk (w7.setCell ⟨sh,3,none⟩ (.int .i64 1)) sh 174 #[.int .i64 1,.int .i64 1,.int .i64 0,.int .i64 1,lkv,stv]):=Lib.hid (HS7.out.put 3 (.int .i64 1))
   have HM8:=Lib.hid (ho8.blk (HM6.out.later HB7.out) (by simp;omega))
   have HR8:=Lib.hid ((HR6.out.later hl6 HB7.out).only (Nat.lt_of_lt_of_le hl6 HB7.out.size) ho8 (by simp;omega))
   have hl8:=Nat.lt_of_lt_of_le (Nat.lt_of_lt_of_le hl6 HB7.out.size) ho8.2.2.2.1
   have HO8:=Lib.hid ((HO6.out.trans (onlyIn.of_below HB7.out)).trans (ho8.more (S':=[m,sh]) (by simp)))
   clear ho8 r0 r1 r2 r3 x3 s3 q0 q1 q2 q3 HS7 c3 g3 HB7 HM6 HS6 HR6 HO6 HB6
   generalize w7.setCell ⟨sh,3,none⟩ (.int .i64 1)=w8 at *
   obtain ⟨_,_,_,_,_,_,_,x7⟩:=mc_own HM8.out
   have f19:=HM8.out.free 19
   go_wp2_with fail
   rw [rounds_succ]
   go_upto_region 12 with fail
   have HM9:=Lib.hid (mc_put 19 (.slice (some ⟨g,0,none⟩) 1 c) (mcells t 4 tx 1 5 (.slice (some ⟨gn,0,none⟩) 1 cn) 0 (.slice (some ⟨g,0,none⟩) 1 c) (-1)) rfl HM8.out)
   have ho9:onlyIn [m] w8 (w8.setCell ⟨m,19,none⟩ (.slice (some ⟨g,0,none⟩) 1 c)):=onlyIn_set (onlyIn.refl _ _) (p:=⟨m,19,none⟩) (by simp) _
   have HR9:=Lib.hid (HR8.out.only hl8 ho9 (by simp;omega))
   have HS9:=Lib.hid (ho9.blk HS8.out (by simp;omega))
   have hl9:=Nat.lt_of_lt_of_le hl8 ho9.2.2.2.1
   have HO9:=Lib.hid (HO8.out.trans (ho9.more (S':=[m,sh]) (by simp)))
   clear x7 f19 HM8 HR8 HO8 HS8 ho9
   generalize w8.setCell ⟨m,19,none⟩ (.slice (some ⟨g,0,none⟩) 1 c)=w9 at *
   have HE:=Lib.hid (enter_any m t 4 5 tx 1 5 _ 0 _ (-1) w9 HM9.out)
   go_wp2_with (go_at_call 162;refine HE.out.mono ?_;rintro e w10 ⟨rfl,h10,o10⟩)
   go_ret
   exact ⟨g,c,rfl,h10,hg,Nat.lt_of_lt_of_le hl9 o10.2.2.2.1,HR9.out.only hl9 o10 (by simp;omega),o10.blk HS9.out (by simp;omega),HO9.out.trans (o10.more (by simp))⟩
end Go.Proofs.YtjafpikjpipbkaaGreatDoor
namespace Go.Proofs.YtjafpikjpipbkaaGreatDoor
open Go.RowKit ND
theorem step_decide (m sh gn cn gr cr:Nat) (lkv stv:Value) (t:Tv) (tx:ByteArray) (ra:Int) (w:World) (hm:Blk w m 165 (mcells t 4 tx 1 5 (.slice (some ⟨gn,0,none⟩) 1 cn) 0 (.slice (some ⟨gr,0,none⟩) 1 cr) ra)) (hn:NameAt w gn) (hr:RecAt w gr 0 ⟨#[]⟩ 0)
  (hs:Blk w sh 174 #[.int .i64 1,.int .i64 1,.int .i64 0,.int .i64 0,lkv,stv]) (hgn:gn < w.heap.size) (hgr:gr < w.heap.size) (hne:m ≠ sh) (hne2:gr ≠ m) :
  Calls Tryz.prog 120 #[.pointer (some ⟨m,0,none⟩),.pointer (some ⟨sh,0,none⟩)] w (RetDc w m sh gn cn lkv stv t tx):=by
 obtain ⟨x0,x1,x2,x3,x4,x5,x6,x7⟩:=mc_own hm
 have HD:=Lib.hid (decide_any m sh gn cn gr cr lkv stv t tx ra w hm hn hr hs hgn hgr hne hne2)
 clear hm hn hr hs
 go_enter Tryz.func120,Tryz.ntmps120
 go_wp2_with (go_at_call 159;refine HD.out.mono ?_;rintro e w1 ⟨g,c,rfl,h1,h2,h3,h4,h5,h6⟩)
 go_ret
 exact ⟨g,c,rfl,h1,h2,h3,h4,h5,h6⟩
theorem step_reply (m sh:Nat) (t:Tv) (tx:ByteArray) (op ttl:Int) (nm rc:Value) (at_ ra:Int) (w:World) (hm:Blk w m 165 (mcells t 7 tx op ttl nm at_ rc ra)) :
  Calls Tryz.prog 120 #[.pointer (some ⟨m,0,none⟩),.pointer (some ⟨sh,0,none⟩)] w fun e w' => e=.returned (.int .i64 4) ∧ Blk w' m 165 (mcells t 0 tx op ttl nm 0 rc ra) ∧ onlyIn [m] w w':=by
 obtain ⟨x0,x1,x2,x3,x4,x5,x6,x7⟩:=mc_own hm
 have HE:=Lib.hid (enter_any m t 7 0 tx op ttl nm at_ rc ra w hm)
 clear hm
 go_enter Tryz.func120,Tryz.ntmps120
 go_wp2_with (go_at_call 162;refine HE.out.mono ?_;rintro e w1 ⟨rfl,h1,h2⟩)
 go_ret
 exact ⟨rfl,h1,h2⟩
theorem step_free (m sh lk sl ow gn cn:Nat) (t:Tv) (tx:ByteArray) (rc:Value) (ra:Int) (w:World) (hm:Blk w m 165 (mcells t 6 tx 1 5 (.slice (some ⟨gn,0,none⟩) 1 cn) 0 rc ra)) (hn:NameAt w gn)
  (hs:w.cell? ⟨sh,4,none⟩=some (.pointer (some ⟨lk,0,none⟩))) (hl:LockS w lk sl ow (some (homeK kA 2048,kA))) (n1:m ≠ lk) (n2:m ≠ sl) (n3:m ≠ ow) :
  Calls Tryz.prog 120 #[.pointer (some ⟨m,0,none⟩),.pointer (some ⟨sh,0,none⟩)] w fun e w' => e=.returned (.int .i64 1) ∧ Blk w' m 165 (mcells t 7 tx 1 5 (.slice (some ⟨gn,0,none⟩) 1 cn) 0 rc ra) ∧ LockS w' lk sl ow none ∧ onlyIn [m,lk,sl,ow] w w':=by
 obtain ⟨x0,x1,x2,x3,x4,x5,x6,x7⟩:=mc_own hm
 have HK:=Lib.hid (fun k => key_any m gn cn (w.drewN k) x5 x6 hn)
 have HA:=Lib.hid (fun k => release_any kA lk sl ow (w.drewN k) (by decide) (hl.later (below_drewN (Below.refl _ _) k)))
 have HM:=Lib.hid hm
 have HN:=Lib.hid hn
 have HL:=Lib.hid hl
 clear hm hn hl
 go_enter Tryz.func120,Tryz.ntmps120
 go_upto_region 17 with fail
 go_region_law (first | (go_simp;go_at_call 156;refine (HK.out _).mono ?_;rintro e w2 ⟨rfl,nk,rfl⟩) | (go_simp;go_at_call 161;refine (HA.out _).mono ?_;rintro e w3 ⟨rfl,hl3,ho3⟩))
 all_goals
  have ho:=(onlyIn.of_below (S:=[lk,sl,ow]) (below_drewN (Below.refl w.heap.size w) _)).trans ho3
  have HM3:=Lib.hid (ho.blk HM.out (by simp [n1,n2,n3]))
  have HL3:=Lib.hid hl3
  have HO3:=Lib.hid (ho.more (S':=[m,lk,sl,ow]) (by intro x hx;exact List.mem_cons_of_mem _ hx))
  have HX:=Lib.hid (next_one m t 6 7 tx 1 5 _ cn rc ra w3 HM3.out)
  clear x0 x1 x2 x3 x4 x5 x6 x7 hs ho ho3 hl3 HK HA HM HL
  go_wp2_with (go_at_call 157;refine HX.out.mono ?_;rintro e w4 ⟨rfl,h4,o4⟩)
  go_ret
  exact ⟨rfl,h4,HL3.out.only o4 (by simp;omega) (by simp;omega) (by simp;omega),HO3.out.trans (o4.more (by simp))⟩
theorem step_write (m sh st ss sr gn cn gr cr:Nat) (t:Tv) (tx:ByteArray) (ra:Int) (w:World) (hm:Blk w m 165 (mcells t 5 tx 1 5 (.slice (some ⟨gn,0,none⟩) 1 cn) 0 (.slice (some ⟨gr,0,none⟩) 1 cr) ra)) (hn:NameAt w gn) (hr:RecAt w gr 1 kA 5)
  (hs:w.cell? ⟨sh,5,none⟩=some (.pointer (some ⟨st,0,none⟩))) (hst:StoreS w st ss sr) (hml:m ∉ [st,ss,sr]) (hshl:sh ∉ [st,ss,sr]) (hgrl:gr ∉ [st,ss,sr]) (h1:sh < w.heap.size) (h3:gr < w.heap.size) :
  Calls Tryz.prog 120 #[.pointer (some ⟨m,0,none⟩),.pointer (some ⟨sh,0,none⟩)] w fun e w' => e=.returned (.int .i64 1) ∧ Blk w' m 165 (mcells t 6 tx 1 5 (.slice (some ⟨gn,0,none⟩) 1 cn) 0 (.slice (some ⟨gr,0,none⟩) 1 cr) ra) ∧ onlyIn [m,st,ss,sr] w w':=by
 obtain ⟨x0,x1,x2,x3,x4,x5,x6,x7⟩:=mc_own hm
 have HK:=Lib.hid (fun k => key_any m gn cn (w.drewN k) x5 x6 hn)
 have HA:=Lib.hid (fun k => sput_any kA st ss sr (w.drewN k) (by decide) (hst.later (below_drewN (Below.refl _ _) k)))
 have HM:=Lib.hid hm
 have HNM:=Lib.hid hn
 have HML:=Lib.hid hml
 have HSL:=Lib.hid hshl
 have HRL:=Lib.hid hgrl
 obtain ⟨r0,r1,r2,r3⟩:=hr
 have hml2:=hm.lt
 clear hm hn hst hml hshl hgrl
 go_enter Tryz.func120,Tryz.ntmps120
 go_upto_region 14 with fail
 go_region_held3 (fun W => W.cell? ⟨sh,5,none⟩=some (.pointer (some ⟨st,0,none⟩)) ∧ W.cell? ⟨m,18,none⟩=some (.int .i64 0) ∧ W.cell? ⟨m,19,none⟩=some (.slice (some ⟨gr,0,none⟩) 1 cr) ∧ W.cell? ⟨gr,0,none⟩=some (.int .i64 1) ∧ W.cell? ⟨gr,1,none⟩=some (.int .i64 0) ∧ W.cell? ⟨gr,2,none⟩=some (.string kA) ∧ W.cell? ⟨gr,3,none⟩=some (.int .i64 5)) (go_keep) (first | (go_at_call 156;refine (HK.out _).mono ?_;rintro e w2 ⟨rfl,nk,rfl⟩) | (go_at_call 160;refine (HA.out _).mono ?_;rintro e w3 ⟨rfl,o3⟩;have ho:onlyIn [st,ss,sr] w w3:=(onlyIn.of_below (below_drewN (Below.refl w.heap.size w) _)).trans o3;have y0:=cell_only hs h1 ho HSL.out;have y1:=cell_only x6 hml2 ho HML.out;have y2:=cell_only x7 hml2 ho HML.out;have q0:=cell_only r0 h3 ho HRL.out;have q1:=cell_only r1 h3 ho HRL.out;have q2:=cell_only r2 h3 ho HRL.out;have q3:=cell_only r3 h3 ho HRL.out))
 have HM3:=Lib.hid (ho.blk HM.out HML.out)
 have HO3:=Lib.hid (ho.more (S':=[m,st,ss,sr]) (by intro x hx;exact List.mem_cons_of_mem _ hx))
 have HX:=Lib.hid (next_one m t 5 6 tx 1 5 _ cn _ ra w3 HM3.out)
 clear x0 x1 x2 x3 x4 x5 x6 x7 hs ho o3 HK HA HM y0 y1 y2 q0 q1 q2 q3 r0 r1 r2 r3
 go_wp2_with (go_at_call 157;refine HX.out.mono ?_;rintro e w4 ⟨rfl,h4,o4⟩)
 go_ret
 exact ⟨rfl,h4,HO3.out.trans (o4.more (by simp))⟩
end Go.Proofs.YtjafpikjpipbkaaGreatDoor
namespace Go.Proofs.YtjafpikjpipbkaaGreatDoor
open Go.RowKit ND
def RetPs (w:World) (m:Nat) (t:Tv) (tx:ByteArray) (rc:Value) (ra:Int) (e:Ending) (w':World):Prop :=
 ∃ gn cn,e=.returned (.int .i64 1) ∧ Blk w' m 165 (mcells t 2 tx 1 5 (.slice (some ⟨gn,0,none⟩) 1 cn) 0 rc ra) ∧ w.heap.size ≤ gn ∧ gn < w'.heap.size ∧ NameAt w' gn ∧ onlyIn [m] w w'
def txH:ByteArray:=⟨#[72,79,76,68,32,53,32,65]⟩
def RetMk2 (w:World) (B:Nat) (W:World) (e:Ending) (w':World):Prop :=
 ∃ g c u,e=.returned (.tuple #[.slice (some ⟨g,0,none⟩) 1 c,u,.agg #[.int .i64 0,.int .i64 (-1),.string ⟨#[]⟩,.int .i64 0,.int .i64 0,.string ⟨#[]⟩,.int .i64 0,.int .i64 0]]) ∧ B ≤ g ∧ g < w'.heap.size ∧ NameAt w' g ∧ Below w.heap.size w w' ∧ ∀ b T cs,Blk W b T cs → Blk w' b T cs
theorem parse_any (m:Nat) (t:Tv) (op ttl:Int) (nm rc:Value) (at_ ra:Int) (w:World) (hm:Blk w m 165 (mcells t 1 txH op ttl nm at_ rc ra)) (ht:TabR w w.heap.size t T0) (hg:Glob w) :
  Calls Tryz.prog 154 #[.pointer (some ⟨m,0,none⟩)] w (RetPs w m t txH rc ra):=by
 obtain ⟨x0,x1,x2,x3,x4,x5,x6,x7⟩:=mc_own hm
 have HM:=Lib.hid hm
 have HT:=Lib.hid ht
 have HG:=Lib.hid hg
 have HP:=Lib.hid (parseH w)
 have hml:=hm.lt
 clear hm ht hg
 go_enter Tryz.func154,Tryz.ntmps154
 go_upto_region 2 with (go_at_call 185;refine HP.out.mono ?_;rintro e w1 ⟨v,rfl,ho1,b1⟩;obtain ⟨g1,c1,rfl,hg1,hg1l,_,_,hcs⟩:=own_at ho1 (by omega);have HA1:=Lib.hid (hcs 0 _ rfl);have HB1:=Lib.hid b1;clear ho1 b1 hcs)
 have b2:Below w1.heap.size w1 (w1.alloc (.cells #[.int .i64 1,.int .i64 5,.slice (some ⟨g1,0,none⟩) 1 c1] 219)):=(Below.refl _ _).alloc (Nat.le_refl _) _
 have HQ2:Hid (Blk (w1.alloc (.cells #[.int .i64 1,.int .i64 5,.slice (some ⟨g1,0,none⟩) 1 c1] 219)) w1.heap.size 219 #[.int .i64 1,.int .i64 5,.slice (some ⟨g1,0,none⟩) 1 c1]):=Lib.hid (Blk.new _ _ _)
 have HA2:=Lib.hid (cell_stay HA1.out hg1l b2)
 have hg2l:=Nat.lt_of_lt_of_le hg1l b2.size
 have HB2:=Lib.hid (below_next HB1.out b2)
 have hq1:=HB1.out.size
 clear b2 HA1 HB1 HP x0 x1 x2 x3 x4 x5 x6 x7
 generalize w1.alloc (.cells #[.int .i64 1,.int .i64 5,.slice (some ⟨g1,0,none⟩) 1 c1] 219)=w2 at *
 obtain ⟨qb,hqb⟩:∃ qb,qb=w1.heap.size:=⟨_,rfl⟩
 rw [← hqb] at HQ2 hq1 ⊢
 clear hqb
 have HM2:=Lib.hid (HM.out.later HB2.out)
 have HT2:=Lib.hid (HT.out.later HB2.out)
 have HG2:=Lib.hid (HG.out.later HB2.out)
 have hml2:=Nat.lt_of_lt_of_le hml HB2.out.size
 have hql:=HQ2.out.lt
 have nb1:w2.heap.size ≠ m:=by omega
 have nb2:w2.heap.size ≠ qb:=by omega
 have HMK:Hid (∀ W B,Below w2.heap.size w2 W → B ≤ W.heap.size → Calls Tryz.prog 186 #[.agg #[t.c0,t.c1,t.c2,t.c3,t.c4,t.c5,t.c6,t.c7,t.c8,t.c9,t.c10,t.c11],.slice (some ⟨g1,0,none⟩) 1 c1] W (RetMk2 w2 B W)):=Lib.hid fun W B hW hBW => by
  refine (makeA t g1 c1 W (HT2.out.later hW) (HG2.out.later hW) (Nat.lt_of_lt_of_le hg2l hW.size) (cell_stay HA2.out hg2l hW)).mono ?_
  rintro e w' ⟨v,u,he,ho,hb⟩
  obtain ⟨g,c,rfl,h1,h2,_,_,hcs⟩:=own_at ho (by omega)
  exact ⟨g,c,u,he,by omega,h2,⟨hcs 0 _ rfl,hcs 1 _ rfl,hcs 2 _ rfl⟩,hW.trans (hb.mono hW.size),fun _ _ _ h => h.later hb⟩
 go_upto_region 6 with fail
 have hba:Below w2.heap.size w2 ((w2.alloc (.cells #[.int .i64 0,.int .i64 0,.string ⟨#[]⟩,.int .i64 0,.int .i64 0,.string ⟨#[]⟩,.int .i64 0,.int .i64 0] 83)).drew):=((Below.refl _ _).alloc (Nat.le_refl _) _).drew
 have hka:Blk ((w2.alloc (.cells #[.int .i64 0,.int .i64 0,.string ⟨#[]⟩,.int .i64 0,.int .i64 0,.string ⟨#[]⟩,.int .i64 0,.int .i64 0] 83)).drew) w2.heap.size 83 #[.int .i64 0,.int .i64 0,.string ⟨#[]⟩,.int .i64 0,.int .i64 0,.string ⟨#[]⟩,.int .i64 0,.int .i64 0]:=(Blk.new w2 _ _).later ((Below.refl _ _).drew)
 have HDA:Hid (Calls Tryz.prog 186 #[.agg #[t.c0,t.c1,t.c2,t.c3,t.c4,t.c5,t.c6,t.c7,t.c8,t.c9,t.c10,t.c11],.slice (some ⟨g1,0,none⟩) 1 c1] ((w2.alloc (.cells #[.int .i64 0,.int .i64 0,.string ⟨#[]⟩,.int .i64 0,.int .i64 0,.string ⟨#[]⟩,.int .i64 0,.int .i64 0] 83)).drew) (RetMk2 w2 (w2.heap.size + 1) ((w2.alloc (.cells #[.int .i64 0,.int .i64 0,.string ⟨#[]⟩,.int .i64 0,.int .i64 0,.string ⟨#[]⟩,.int .i64 0,.int .i64 0] 83)).drew))):=Lib.hid (HMK.out _ _ hba (by rw [← World.size_alloc w2 (.cells #[.int .i64 0,.int .i64 0,.string ⟨#[]⟩,.int .i64 0,.int .i64 0,.string ⟨#[]⟩,.int .i64 0,.int .i64 0] 83)];exact Nat.le_refl _))
 have HDB:Hid (Calls Tryz.prog 186 #[.agg #[t.c0,t.c1,t.c2,t.c3,t.c4,t.c5,t.c6,t.c7,t.c8,t.c9,t.c10,t.c11],.slice (some ⟨g1,0,none⟩) 1 c1] w2.drew (RetMk2 w2 w2.heap.size w2.drew)):=Lib.hid (HMK.out _ _ (Below.refl _ _).drew (Nat.le_refl _))
 have HKA:=Lib.hid hka
 clear hba hka HMK
 obtain ⟨x0,x1,x2,x3,x4,x5,x6,x7,x8,x9,x10,x11⟩:=mc_tab HM2.out
 have xq:w2.cell? ⟨qb,2,none⟩=some (.slice (some ⟨g1,0,none⟩) 1 c1):=HQ2.out.at_ (i:=2) rfl
 go_cut [5,7] from 5 to 38 (fun s5 s7 wx => ∃ b g c,s7=.pointer (some ⟨b,0,none⟩) ∧ s5=.slice (some ⟨g,0,none⟩) 1 c ∧ w2.heap.size ≤ b ∧ w2.heap.size ≤ g ∧ g < wx.heap.size ∧ Hid (Blk wx b 83 #[.int .i64 0,.int .i64 (-1),.string ⟨#[]⟩,.int .i64 0,.int .i64 0,.string ⟨#[]⟩,.int .i64 0,.int .i64 0]) ∧ Hid (NameAt wx g) ∧ Hid (Below w2.heap.size w2 wx))
 case first =>
  go_region_held3 (fun W => W.cell? ⟨m,0,none⟩=some t.c0 ∧ W.cell? ⟨m,1,none⟩=some t.c1 ∧ W.cell? ⟨m,2,none⟩=some t.c2 ∧ W.cell? ⟨m,3,none⟩=some t.c3 ∧ W.cell? ⟨m,4,none⟩=some t.c4 ∧ W.cell? ⟨m,5,none⟩=some t.c5 ∧ W.cell? ⟨m,6,none⟩=some t.c6 ∧ W.cell? ⟨m,7,none⟩=some t.c7 ∧ W.cell? ⟨m,8,none⟩=some t.c8 ∧ W.cell? ⟨m,9,none⟩=some t.c9 ∧ W.cell? ⟨m,10,none⟩=some t.c10 ∧ W.cell? ⟨m,11,none⟩=some t.c11 ∧ W.cell? ⟨qb,2,none⟩=some (.slice (some ⟨g1,0,none⟩) 1 c1)) (go_keep) (first | (go_at_call 186;(with_reducible refine HDB.out.mono ?_);rintro e w3 ⟨g3,c3,u3,rfl,hg3,hg3l,hr3,hb3,_⟩;have HQ3:=Lib.hid (show _ ∧ _ ∧ _ from ⟨hr3,hg3l,hb3⟩);clear hr3;have q1:w3.heap.size ≠ m:=Nat.ne_of_gt (Nat.lt_of_lt_of_le hml2 hb3.size);have q2:w3.heap.size ≠ qb:=Nat.ne_of_gt (Nat.lt_of_lt_of_le hql hb3.size);obtain ⟨v0,v1,v2,v3,v4,v5,v6,v7,v8,v9,v10,v11⟩:=mc_tab (HM2.out.later hb3);have vq:w3.cell? ⟨qb,2,none⟩=some (.slice (some ⟨g1,0,none⟩) 1 c1):=(HQ2.out.later hb3).at_ (i:=2) rfl) | (go_at_call 186;(with_reducible refine HDA.out.mono ?_);rintro e w3 ⟨g3,c3,u3,rfl,hg3,hg3l,hr3,hb3,hpk⟩;have HQ3:=Lib.hid (show _ ∧ _ ∧ _ from ⟨hr3,hg3l,hb3⟩);have HXB:=Lib.hid (hpk _ _ _ HKA.out);clear hr3 hpk;obtain ⟨z0,z1,z2,z3,z4,z5,z6,z7⟩:=HXB.out.eight;have f0:=HXB.out.free 0;have f1:=HXB.out.free 1;have f2:=HXB.out.free 2;have f3:=HXB.out.free 3;have f4:=HXB.out.free 4;have f5:=HXB.out.free 5;have f6:=HXB.out.free 6;have f7:=HXB.out.free 7;have q1:w3.heap.size ≠ m:=Nat.ne_of_gt (Nat.lt_of_lt_of_le hml2 hb3.size);have q2:w3.heap.size ≠ qb:=Nat.ne_of_gt (Nat.lt_of_lt_of_le hql hb3.size);obtain ⟨v0,v1,v2,v3,v4,v5,v6,v7,v8,v9,v10,v11⟩:=mc_tab (HM2.out.later hb3);have vq:w3.cell? ⟨qb,2,none⟩=some (.slice (some ⟨g1,0,none⟩) 1 c1):=(HQ2.out.later hb3).at_ (i:=2) rfl))
  ·have b4:Below w3.heap.size w3 (w3.alloc (.cells #[.int .i64 0,.int .i64 (-1),.string ⟨#[]⟩,.int .i64 0,.int .i64 0,.string ⟨#[]⟩,.int .i64 0,.int .i64 0] 83)):=(Below.refl _ _).alloc (Nat.le_refl _) _
   have HB4:=Lib.hid (HQ3.out.2.2.trans (b4.mono HQ3.out.2.2.size))
   have HR4:=Lib.hid (HQ3.out.1.later hg3l b4)
   have HX4:Hid (Blk (w3.alloc (.cells #[.int .i64 0,.int .i64 (-1),.string ⟨#[]⟩,.int .i64 0,.int .i64 0,.string ⟨#[]⟩,.int .i64 0,.int .i64 0] 83)) w3.heap.size 83 #[.int .i64 0,.int .i64 (-1),.string ⟨#[]⟩,.int .i64 0,.int .i64 0,.string ⟨#[]⟩,.int .i64 0,.int .i64 0]):=Lib.hid (Blk.new _ _ _)
   have hl4:=Nat.lt_of_lt_of_le hg3l b4.size
   have hw3:=HQ3.out.2.2.size
   go_wp2_with fail
   go_meet
   case rel => exact ⟨_,g3,c3,rfl,rfl,hw3,hg3,hl4,HX4,HR4,HB4⟩
  ·have HE8:Hid (put8 w3 w2.heap.size (.int .i64 0) (.int .i64 (-1)) (.string ⟨#[]⟩) (.int .i64 0) (.int .i64 0) (.string ⟨#[]⟩) (.int .i64 0) (.int .i64 0)=((((((((w3.setCell ⟨w2.heap.size,0,none⟩ (.int .i64 0)).setCell ⟨w2.heap.size,1,none⟩ (.int .i64 (-1))).setCell ⟨w2.heap.size,2,none⟩ (.string ⟨#[]⟩)).setCell ⟨w2.heap.size,3,none⟩ (.int .i64 0)).setCell ⟨w2.heap.size,4,none⟩ (.int .i64 0)).setCell ⟨w2.heap.size,5,none⟩ (.string ⟨#[]⟩)).setCell ⟨w2.heap.size,6,none⟩ (.int .i64 0)).setCell ⟨w2.heap.size,7,none⟩ (.int .i64 0))):=Lib.hid rfl
   have HX8:=Lib.hid (put8_blk (u0:=.int .i64 0) (u1:=.int .i64 (-1)) (u2:=.string ⟨#[]⟩) (u3:=.int .i64 0) (u4:=.int .i64 0) (u5:=.string ⟨#[]⟩) (u6:=.int .i64 0) (u7:=.int .i64 0) HXB.out)
   have HB8:=Lib.hid (put8_below (u0:=.int .i64 0) (u1:=.int .i64 (-1)) (u2:=.string ⟨#[]⟩) (u3:=.int .i64 0) (u4:=.int .i64 0) (u5:=.string ⟨#[]⟩) (u6:=.int .i64 0) (u7:=.int .i64 0) (b:=w2.heap.size) HQ3.out.2.2 (Nat.le_refl _))
   have HR8:Hid (NameAt (put8 w3 w2.heap.size (.int .i64 0) (.int .i64 (-1)) (.string ⟨#[]⟩) (.int .i64 0) (.int .i64 0) (.string ⟨#[]⟩) (.int .i64 0) (.int .i64 0)) g3):=Lib.hid (HQ3.out.1.only (S:=[w2.heap.size]) hg3l (onlyIn.of_grown put8_grown (by simp)) (by simp;omega))
   have hl8:g3 < (put8 w3 w2.heap.size (.int .i64 0) (.int .i64 (-1)) (.string ⟨#[]⟩) (.int .i64 0) (.int .i64 0) (.string ⟨#[]⟩) (.int .i64 0) (.int .i64 0)).heap.size:=Nat.lt_of_lt_of_le hg3l (put8_grown (w:=w3) (b:=w2.heap.size) (u0:=.int .i64 0) (u1:=.int .i64 (-1)) (u2:=.string ⟨#[]⟩) (u3:=.int .i64 0) (u4:=.int .i64 0) (u5:=.string ⟨#[]⟩) (u6:=.int .i64 0) (u7:=.int .i64 0)).size
   have hg3':w2.heap.size ≤ g3:=by omega
   rw [HE8.out] at HX8 HB8 HR8 hl8
   clear HE8 z0 z1 z2 z3 z4 z5 z6 z7 f0 f1 f2 f3 f4 f5 f6 f7 HXB v0 v1 v2 v3 v4 v5 v6 v7 v8 v9 v10 v11 vq
   generalize ((((((((w3.setCell ⟨w2.heap.size,0,none⟩ (.int .i64 0)).setCell ⟨w2.heap.size,1,none⟩ (.int .i64 (-1))).setCell ⟨w2.heap.size,2,none⟩ (.string ⟨#[]⟩)).setCell ⟨w2.heap.size,3,none⟩ (.int .i64 0)).setCell ⟨w2.heap.size,4,none⟩ (.int .i64 0)).setCell ⟨w2.heap.size,5,none⟩ (.string ⟨#[]⟩)).setCell ⟨w2.heap.size,6,none⟩ (.int .i64 0)).setCell ⟨w2.heap.size,7,none⟩ (.int .i64 0))=w4 at *
   go_wp2_with fail
   go_meet
   case rel => exact ⟨_,g3,c3,rfl,rfl,Nat.le_refl _,hg3',hl8,HX8,HR8,HB8⟩
 case rest =>
  obtain ⟨b,g,c,rfl,rfl,hb,hgb,hgl,HXB,HN,HB⟩:=hcut
  have hw2:=HB2.out.size
  have HM3:=Lib.hid (HM2.out.later HB.out)
  have HQ3:=Lib.hid (HQ2.out.later HB.out)
  have HB3:=Lib.hid (HB2.out.trans (HB.out.mono hw2))
  clear x0 x1 x2 x3 x4 x5 x6 x7 x8 x9 x10 x11 xq HDA HDB HKA HM2 HQ2 HB HB2 HM HT HG HT2 HG2 HA2
  have y0:wc.cell? ⟨b,0,none⟩=some (.int .i64 0):=HXB.out.at_ (i:=0) rfl
  have q0:wc.cell? ⟨qb,0,none⟩=some (.int .i64 1):=HQ3.out.at_ (i:=0) rfl
  have q1:wc.cell? ⟨qb,1,none⟩=some (.int .i64 5):=HQ3.out.at_ (i:=1) rfl
  obtain ⟨_,_,_,x3,x4,x5,_,_⟩:=mc_own HM3.out
  have f15:=HM3.out.free 15
  have f16:=HM3.out.free 16
  have f17:=HM3.out.free 17
  have hqm:qb ≠ m:=by omega
  go_wp2_with fail
  go_region
  have hm4:Blk (((wc.setCell ⟨m,15,none⟩ (.int .i64 1)).setCell ⟨m,16,none⟩ (.int .i64 5)).setCell ⟨m,17,none⟩ (.slice (some ⟨g,0,none⟩) 1 c)) m 165 (mcells t 1 txH 1 5 (.slice (some ⟨g,0,none⟩) 1 c) at_ rc ra):=mc_put 17 _ _ rfl (mc_put 16 _ _ rfl (mc_put 15 _ _ rfl HM3.out))
  have ho4:onlyIn [m] wc (((wc.setCell ⟨m,15,none⟩ (.int .i64 1)).setCell ⟨m,16,none⟩ (.int .i64 5)).setCell ⟨m,17,none⟩ (.slice (some ⟨g,0,none⟩) 1 c)):=onlyIn_set (onlyIn_set (onlyIn_set (onlyIn.refl _ _) (p:=⟨m,15,none⟩) (by simp) _) (p:=⟨m,16,none⟩) (by simp) _) (p:=⟨m,17,none⟩) (by simp) _
  have b5:=(Below.refl (((wc.setCell ⟨m,15,none⟩ (.int .i64 1)).setCell ⟨m,16,none⟩ (.int .i64 5)).setCell ⟨m,17,none⟩ (.slice (some ⟨g,0,none⟩) 1 c)).heap.size (((wc.setCell ⟨m,15,none⟩ (.int .i64 1)).setCell ⟨m,16,none⟩ (.int .i64 5)).setCell ⟨m,17,none⟩ (.slice (some ⟨g,0,none⟩) 1 c))).drew
  have HM5:=Lib.hid (hm4.later b5)
  have ho5:=ho4.trans (onlyIn.of_below b5)
  have HO5:=Lib.hid ((onlyIn.of_below HB3.out).trans ho5)
  have HN5:=Lib.hid (HN.out.only hgl ho5 (by simp;omega))
  have hl5:=Nat.lt_of_lt_of_le hgl ho5.2.2.2.1
  clear y0 q0 q1 x3 x4 x5 f15 f16 f17 hm4 ho4 b5 ho5 HM3 HN HXB HB3 HQ3
  generalize (((wc.setCell ⟨m,15,none⟩ (.int .i64 1)).setCell ⟨m,16,none⟩ (.int .i64 5)).setCell ⟨m,17,none⟩ (.slice (some ⟨g,0,none⟩) 1 c)).drew=w5 at *
  have HE:=Lib.hid (enter_any m t 1 2 txH 1 5 _ at_ rc ra w5 HM5.out)
  go_wp2_with (go_at_call 162;refine HE.out.mono ?_;rintro e w6 ⟨rfl,h6,o6⟩)
  go_ret
  exact ⟨g,c,rfl,h6,by omega,Nat.lt_of_lt_of_le hl5 o6.2.2.2.1,HN5.out.only hl5 o6 (by simp;omega),HO5.out.trans o6⟩
theorem step_parse (m sh:Nat) (t:Tv) (op ttl:Int) (nm rc:Value) (at_ ra:Int) (w:World) (hm:Blk w m 165 (mcells t 1 txH op ttl nm at_ rc ra)) (ht:TabR w w.heap.size t T0) (hg:Glob w) :
  Calls Tryz.prog 120 #[.pointer (some ⟨m,0,none⟩),.pointer (some ⟨sh,0,none⟩)] w (RetPs w m t txH rc ra):=by
 obtain ⟨x0,x1,x2,x3,x4,x5,x6,x7⟩:=mc_own hm
 have HD:=Lib.hid (parse_any m t op ttl nm rc at_ ra w hm ht hg)
 clear hm ht hg
 go_enter Tryz.func120,Tryz.ntmps120
 go_wp2_with (go_at_call 154;refine HD.out.mono ?_;rintro e w1 ⟨g,c,rfl,h1,h2,h3,h4,h5⟩)
 go_ret
 exact ⟨g,c,rfl,h1,h2,h3,h4,h5⟩
end Go.Proofs.YtjafpikjpipbkaaGreatDoor
