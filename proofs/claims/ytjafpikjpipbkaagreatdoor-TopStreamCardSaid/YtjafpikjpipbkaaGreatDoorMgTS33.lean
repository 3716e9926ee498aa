/-
  Merged texts: lemmas and walks that the last text of this claim leans on.
-/
import Derived.Test.YtjafpikjpipbkaaGreatDoorMgTS32
import Derived.Test.YtjafpikjpipbkaaGreatDoorMgTS26
import Derived.Test.YtjafpikjpipbkaaGreatDoorMgTS30
import Derived.Test.YtjafpikjpipbkaaGreatDoorMgTS27
set_option maxRecDepth 100000
set_option maxHeartbeats 40000000
namespace Go.Proofs.YtjafpikjpipbkaaGreatDoor
open Go.RowKit ND
structure StoreS (w:World) (st ss sr:Nat):Prop where
 blk:Blk w st 199 #[.slice (some ⟨ss,0,none⟩) 16 16,.slice (some ⟨sr,0,none⟩) 16 16,.int .i64 0]
 slots:Slots w ss 16 none
 rec_:∃ cs:Array Value,Blk w sr 81 cs ∧ cs.size=64
 n1:st ≠ ss
 n2:st ≠ sr
 n3:ss ≠ sr
theorem StoreS.only {S:List Nat} {w w':World} {st ss sr:Nat} (h:StoreS w st ss sr) (hb:onlyIn S w w') (h1:st ∉ S) (h2:ss ∉ S) (h3:sr ∉ S):StoreS w' st ss sr :=
 ⟨hb.blk h.blk h1,h.slots.only hb h2,(by obtain ⟨cs,a,b⟩:=h.rec_;exact ⟨cs,hb.blk a h3,b⟩),h.n1,h.n2,h.n3⟩
theorem StoreS.later {w w':World} {st ss sr:Nat} (h:StoreS w st ss sr) (hb:Below w.heap.size w w'):StoreS w' st ss sr :=
 ⟨h.blk.later hb,h.slots.later hb,(by obtain ⟨cs,a,b⟩:=h.rec_;exact ⟨cs,a.later hb,b⟩),h.n1,h.n2,h.n3⟩
theorem StoreS.recs {w:World} {st ss sr i:Nat} (h:StoreS w st ss sr) (hi:i < 16):(∃ a b c d,w.cell? ⟨sr,i * 4,none⟩=some a ∧ w.cell? ⟨sr,i * 4 + 1,none⟩=some b ∧ w.cell? ⟨sr,i * 4 + 2,none⟩=some c ∧ w.cell? ⟨sr,i * 4 + 3,none⟩=some d) ∧ ∀ j,w.frozen? ⟨sr,j,none⟩=false:=by
 obtain ⟨cs,hb,hs⟩:=h.rec_
 refine ⟨⟨cs[i * 4],cs[i * 4 + 1],cs[i * 4 + 2],cs[i * 4 + 3],?_,?_,?_,?_⟩,fun j => hb.free j⟩ <;> (rw [hb.cell];exact Array.getElem?_eq_getElem _)
def RetSt (w:World) (e:Ending) (w':World):Prop :=
 ∃ st ss sr,e=.returned (.tuple #[.pointer (some ⟨st,0,none⟩),.int .i64 0]) ∧ StoreS w' st ss sr ∧ w.heap.size ≤ ss ∧ w.heap.size ≤ sr ∧ w.heap.size ≤ st ∧ Below w.heap.size w w'
theorem stNew_any (w:World):Calls Tryz.prog 117 #[.int .i64 16] w (RetSt w):=by
 have hb:bits .and .i64 16 15=0:=by kernel_rfl
 obtain ⟨i0,hi,hz0,hz1,hz2⟩:=info_parts Tryz.infoSlot
 obtain ⟨i1,hi1,hi10,hi11,hi12⟩:=info_parts Tryz.infoRec
 have m0:∀ W,(Instr.makeSlice 195 (.int .i64 16) (.int .i64 16)).run Tryz.prog W=.ok (.slice (some ⟨W.heap.size,0,none⟩) 16 16) (W.alloc (.cells (madeCells (Value.agg #[.bool false,.string ⟨#[]⟩]).cells (16 * 2)) 226)):=fun W => by
  have:=run_make (P:=Tryz.prog) W 195 226 i0 _ Tryz.underlying195 hi hz0 .i64 .i64 16 16 (by omega) (by omega) (by rw [hz2];omega) (by omega)
  rw [hz1] at this
  exact this
 have m1:∀ W,(Instr.makeSlice 163 (.int .i64 16) (.int .i64 16)).run Tryz.prog W=.ok (.slice (some ⟨W.heap.size,0,none⟩) 16 16) (W.alloc (.cells (madeCells (Value.agg #[.int .i64 0,.int .i64 0,.string ⟨#[]⟩,.int .i64 0]).cells (16 * 4)) 81)):=fun W => by
  have:=run_make (P:=Tryz.prog) W 163 81 i1 _ Tryz.underlying163 hi1 hi10 .i64 .i64 16 16 (by omega) (by omega) (by rw [hi12];omega) (by omega)
  rw [hi11] at this
  exact this
 have HS:=Lib.hid (fun W b (h:Blk W b 226 (madeCells (Value.agg #[.bool false,.string ⟨#[]⟩]).cells (16 * 2))) => slots_made W b 16 h)
 have HZ:Hid ((madeCells (Value.agg #[.int .i64 0,.int .i64 0,.string ⟨#[]⟩,.int .i64 0]).cells (16 * 4)).size=64):=Lib.hid (size_madeCells _ _)
 generalize madeCells (Value.agg #[.bool false,.string ⟨#[]⟩]).cells (16 * 2)=CS at *
 generalize madeCells (Value.agg #[.int .i64 0,.int .i64 0,.string ⟨#[]⟩,.int .i64 0]).cells (16 * 4)=CO at *
 clear hi hz0 hz1 hz2 hi1 hi10 hi11 hi12
 go_enter Tryz.func117,Tryz.ntmps117
 go_wp2_with fail
 go_region
 ·go_wp2_with fail
  go_ret2
  exact ⟨w.heap.size + 1 + 1,w.heap.size,w.heap.size + 1,rfl,(StoreS.later (w:=((w.alloc (.cells CS 226)).alloc (.cells CO 81)).alloc (.cells #[.slice (some ⟨w.heap.size,0,none⟩) 16 16,.slice (some ⟨w.heap.size + 1,0,none⟩) 16 16,.int .i64 0] 199)) ⟨blk_new3 _ _ _ _ _,HS.out _ _ (((Blk.new w _ _).alloc _).alloc _),⟨_,(blk_new2 w _ _ _).alloc _,HZ.out⟩,by omega,by omega,by omega⟩ ((Below.refl _ _).drew)),by omega,by omega,by omega,(below_new3 w _ _ _).drew⟩
 ·go_wp2_with fail
  go_ret2
  exact ⟨w.heap.size + 1 + 1,w.heap.size + 1,w.heap.size,rfl,(StoreS.later (w:=((w.alloc (.cells CO 81)).alloc (.cells CS 226)).alloc (.cells #[.slice (some ⟨w.heap.size + 1,0,none⟩) 16 16,.slice (some ⟨w.heap.size,0,none⟩) 16 16,.int .i64 0] 199)) ⟨blk_new3 _ _ _ _ _,HS.out _ _ ((blk_new2 w _ _ _).alloc _),⟨_,((Blk.new w _ _).alloc _).alloc _,HZ.out⟩,by omega,by omega,by omega⟩ ((Below.refl _ _).drew)),by omega,by omega,by omega,(below_new3 w _ _ _).drew⟩
theorem get0_any (key:ByteArray) (st ss sr:Nat) (w:World) (hk:key.size ≤ 1000000) (hs:StoreS w st ss sr) :
  Calls Tryz.prog 158 #[.pointer (some ⟨st,0,none⟩),.string key] w fun e w' => e=.returned (.agg #[.int .i64 0,.int .i64 0,.string ⟨#[]⟩,.int .i64 0]) ∧ Below w.heap.size w w':=by
 have hb0:Below w.heap.size w (w.alloc (.cells #[.int .i64 0,.int .i64 0,.string ⟨#[]⟩,.int .i64 0] 81)):=(Below.refl _ _).alloc (Nat.le_refl _) _
 have hk0:Blk (w.alloc (.cells #[.int .i64 0,.int .i64 0,.string ⟨#[]⟩,.int .i64 0] 81)) w.heap.size 81 #[.int .i64 0,.int .i64 0,.string ⟨#[]⟩,.int .i64 0]:=Blk.new _ _ _
 have HF:=Lib.hid (fun W h => find_no key ss 16 W (by omega) (by omega) hk h)
 have hl:=homeK_lt key (n:=16) (by omega)
 obtain ⟨h,hh⟩:∃ h,h=homeK key 16:=⟨_,rfl⟩
 rw [← hh] at HF hl
 have HS:=Lib.hid (hs.later hb0)
 have HK:=Lib.hid hk0
 have HB:=Lib.hid hb0
 clear hh hs hb0 hk0
 go_enter Tryz.func158,Tryz.ntmps158
 go_upto_region 1 with fail
 generalize w.alloc (.cells #[.int .i64 0,.int .i64 0,.string ⟨#[]⟩,.int .i64 0] 81)=w1 at *
 have y0:w1.cell? ⟨st,0,none⟩=some (.slice (some ⟨ss,0,none⟩) 16 16):=HS.out.blk.at_ (i:=0) rfl
 go_upto_region 2 with (go_at_call 188;refine (HF.out w1 HS.out.slots).mono ?_;rintro e w2 ⟨rfl,b2⟩)
 have HK2:=Lib.hid (HK.out.later b2)
 have HB2:=Lib.hid (below_next HB.out b2)
 clear y0 b2 HK HB
 obtain ⟨z0,z1,z2,z3⟩:w2.cell? ⟨w.heap.size,0,none⟩=some (.int .i64 0) ∧ w2.cell? ⟨w.heap.size,1,none⟩=some (.int .i64 0) ∧ w2.cell? ⟨w.heap.size,2,none⟩=some (.string ⟨#[]⟩) ∧ w2.cell? ⟨w.heap.size,3,none⟩=some (.int .i64 0):=⟨HK2.out.at_ (i:=0) rfl,HK2.out.at_ (i:=1) rfl,HK2.out.at_ (i:=2) rfl,HK2.out.at_ (i:=3) rfl⟩
 have f0:=HK2.out.free 0
 have f1:=HK2.out.free 1
 have f2:=HK2.out.free 2
 have f3:=HK2.out.free 3
 go_wp2_with fail
 have hE:put4 w2 w.heap.size (.int .i64 0) (.int .i64 0) (.string ⟨#[]⟩) (.int .i64 0)=(((w2.setCell ⟨w.heap.size,0,none⟩ (.int .i64 0)).setCell ⟨w.heap.size,1,none⟩ (.int .i64 0)).setCell ⟨w.heap.size,2,none⟩ (.string ⟨#[]⟩)).setCell ⟨w.heap.size,3,none⟩ (.int .i64 0):=rfl
 have HK3:=Lib.hid (put4_blk (u0:=.int .i64 0) (u1:=.int .i64 0) (u2:=.string ⟨#[]⟩) (u3:=.int .i64 0) HK2.out)
 have HB3:=Lib.hid (put4_below (u0:=.int .i64 0) (u1:=.int .i64 0) (u2:=.string ⟨#[]⟩) (u3:=.int .i64 0) (b:=w.heap.size) HB2.out (Nat.le_refl _))
 rw [hE] at HK3 HB3
 clear z0 z1 z2 z3 f0 f1 f2 f3 HK2 HB2 hE
 generalize (((w2.setCell ⟨w.heap.size,0,none⟩ (.int .i64 0)).setCell ⟨w.heap.size,1,none⟩ (.int .i64 0)).setCell ⟨w.heap.size,2,none⟩ (.string ⟨#[]⟩)).setCell ⟨w.heap.size,3,none⟩ (.int .i64 0)=w3 at *
 obtain ⟨z0,z1,z2,z3⟩:=HK3.out.four
 exact bodyPost_ret (v:=.agg #[.int .i64 0,.int .i64 0,.string ⟨#[]⟩,.int .i64 0]) (by simp [results,Tryz.results158,go_sem,z0,z1,z2,z3]) rfl ⟨rfl,HB3.out⟩
theorem insert_any (key s:ByteArray) (d:Int) (st ss sr:Nat) (w:World) (hk:key.size ≤ 1000000) (hs:StoreS w st ss sr) :
  Calls Tryz.prog 196 #[.pointer (some ⟨st,0,none⟩),.string key,.agg #[.int .i64 1,.int .i64 0,.string s,.int .i64 d]] w fun e w' => e=.returned (.tuple #[]) ∧ onlyIn [st,ss,sr] w w':=by
 have hb0:Below w.heap.size w (w.alloc (.cells #[.int .i64 1,.int .i64 0,.string s,.int .i64 d] 81)):=(Below.refl _ _).alloc (Nat.le_refl _) _
 have hk0:Blk (w.alloc (.cells #[.int .i64 1,.int .i64 0,.string s,.int .i64 d] 81)) w.heap.size 81 #[.int .i64 1,.int .i64 0,.string s,.int .i64 d]:=Blk.new _ _ _
 have HF:=Lib.hid (fun W h => find_no key ss 16 W (by omega) (by omega) hk h)
 have hl:=homeK_lt key (n:=16) (by omega)
 obtain ⟨h,hh⟩:∃ h,h=homeK key 16:=⟨_,rfl⟩
 rw [← hh] at HF hl
 have HS:=Lib.hid (hs.later hb0)
 have n4:w.heap.size ≠ ss:=by have:=hs.slots.lt;omega
 have n5:w.heap.size ≠ sr:=by obtain ⟨_,h1,_⟩:=hs.rec_;have:=h1.lt;omega
 have n6:w.heap.size ≠ st:=by have:=hs.blk.lt;omega
 have HK:=Lib.hid hk0
 have HB:=Lib.hid hb0
 have hl0:(0:Int) ≤ (h:Int):=by omega
 have hl1:(h:Int) < 16:=by omega
 clear hh hs hb0 hk0
 go_enter Tryz.func196,Tryz.ntmps196
 go_upto_region 1 with fail
 generalize w.alloc (.cells #[.int .i64 1,.int .i64 0,.string s,.int .i64 d] 81)=w1 at *
 have y0:w1.cell? ⟨st,0,none⟩=some (.slice (some ⟨ss,0,none⟩) 16 16):=HS.out.blk.at_ (i:=0) rfl
 go_upto_region 2 with (go_at_call 188;refine (HF.out w1 HS.out.slots).mono ?_;rintro e w2 ⟨rfl,b2⟩)
 have HK2:=Lib.hid (HK.out.later b2)
 have HS2:=Lib.hid (HS.out.later b2)
 have HB2:=Lib.hid (below_next HB.out b2)
 clear y0 b2 HK HB HS
 obtain ⟨z0,z1,z2,z3⟩:=HK2.out.four
 have y0:w2.cell? ⟨st,0,none⟩=some (.slice (some ⟨ss,0,none⟩) 16 16):=HS2.out.blk.at_ (i:=0) rfl
 have y1:w2.cell? ⟨st,1,none⟩=some (.slice (some ⟨sr,0,none⟩) 16 16):=HS2.out.blk.at_ (i:=1) rfl
 obtain ⟨u,sh,c0,c1⟩:=HS2.out.slots.any hl
 have f0:=HS2.out.slots.free (h * 2)
 have f1:=HS2.out.slots.free (h * 2 + 1)
 obtain ⟨⟨ra,rb,rc,rd,r0,r1,r2,r3⟩,hfr⟩:=HS2.out.recs hl
 have g0:=hfr (h * 4)
 have g1:=hfr (h * 4 + 1)
 have g2:=hfr (h * 4 + 2)
 have g3:=hfr (h * 4 + 3)
 have n1:=HS2.out.n1
 have n2:=HS2.out.n2
 have n3:=HS2.out.n3
 clear hfr
 go_region
 have hbk0:Blk ((((((w2.setCell ⟨ss,h * 2,none⟩ (.bool true)).setCell ⟨ss,h * 2 + 1,none⟩ (.string key)).setCell ⟨sr,h * 4,none⟩ (.int .i64 1)).setCell ⟨sr,h * 4 + 1,none⟩ (.int .i64 0)).setCell ⟨sr,h * 4 + 2,none⟩ (.string s)).setCell ⟨sr,h * 4 + 3,none⟩ (.int .i64 d)) st 199 #[.slice (some ⟨ss,0,none⟩) 16 16,.slice (some ⟨sr,0,none⟩) 16 16,.int .i64 0]:=((((((HS2.out.blk.far (p:=⟨ss,h * 2,none⟩) n1 _).far (p:=⟨ss,h * 2 + 1,none⟩) n1 _).far (p:=⟨sr,h * 4,none⟩) n2 _).far (p:=⟨sr,h * 4 + 1,none⟩) n2 _).far (p:=⟨sr,h * 4 + 2,none⟩) n2 _).far (p:=⟨sr,h * 4 + 3,none⟩) n2 _)
 have hon0:onlyIn [st,ss,sr] w ((((((w2.setCell ⟨ss,h * 2,none⟩ (.bool true)).setCell ⟨ss,h * 2 + 1,none⟩ (.string key)).setCell ⟨sr,h * 4,none⟩ (.int .i64 1)).setCell ⟨sr,h * 4 + 1,none⟩ (.int .i64 0)).setCell ⟨sr,h * 4 + 2,none⟩ (.string s)).setCell ⟨sr,h * 4 + 3,none⟩ (.int .i64 d)):=(onlyIn_set (onlyIn_set (onlyIn_set (onlyIn_set (onlyIn_set (onlyIn_set (onlyIn.of_below HB2.out) (p:=⟨ss,h * 2,none⟩) (by simp) _) (p:=⟨ss,h * 2 + 1,none⟩) (by simp) _) (p:=⟨sr,h * 4,none⟩) (by simp) _) (p:=⟨sr,h * 4 + 1,none⟩) (by simp) _) (p:=⟨sr,h * 4 + 2,none⟩) (by simp) _) (p:=⟨sr,h * 4 + 3,none⟩) (by simp) _)
 have hbk:=hbk0.later ((Below.refl _ _).drew)
 have hon:=hon0.trans (onlyIn.of_below ((Below.refl _ _).drew))
 clear hbk0 hon0
 have HBK:=Lib.hid hbk
 have HON:=Lib.hid hon
 clear z0 z1 z2 z3 y0 y1 c0 c1 f0 f1 r0 r1 r2 r3 g0 g1 g2 g3 HK2 HS2 HB2 hbk hon
 generalize (((((((w2.setCell ⟨ss,h * 2,none⟩ (.bool true)).setCell ⟨ss,h * 2 + 1,none⟩ (.string key)).setCell ⟨sr,h * 4,none⟩ (.int .i64 1)).setCell ⟨sr,h * 4 + 1,none⟩ (.int .i64 0)).setCell ⟨sr,h * 4 + 2,none⟩ (.string s)).setCell ⟨sr,h * 4 + 3,none⟩ (.int .i64 d)).drew)=w3 at *
 have x2:w3.cell? ⟨st,2,none⟩=some (.int .i64 0):=HBK.out.at_ (i:=2) rfl
 have f2:=HBK.out.free 2
 go_wp2_with fail
 go_end0
 exact ⟨rfl,onlyIn_set HON.out (p:=⟨st,2,none⟩) (by simp) _⟩
theorem full0 (st ss sr:Nat) (w:World) (hs:StoreS w st ss sr):Calls Tryz.prog 194 #[.pointer (some ⟨st,0,none⟩)] w fun e w' => e=.returned (.bool false) ∧ Below w.heap.size w w':=by
 have y0:w.cell? ⟨st,0,none⟩=some (.slice (some ⟨ss,0,none⟩) 16 16):=hs.blk.at_ (i:=0) rfl
 have y2:w.cell? ⟨st,2,none⟩=some (.int .i64 0):=hs.blk.at_ (i:=2) rfl
 have k0:IntKind.i64.wrap 0=0:=by kernel_rfl
 have k1:IntKind.i64.wrap 48=48:=by kernel_rfl
 go_enter Tryz.func194,Tryz.ntmps194
 go_wp2_with fail
 go_quiet (fail)
 go_wp2_with fail
 go_ret
 exact ⟨rfl,below_drewN (Below.refl _ _) nq⟩
theorem sput_any (key:ByteArray) (st ss sr:Nat) (w:World) (hk:key.size ≤ 1000000) (hs:StoreS w st ss sr) :
  Calls Tryz.prog 160 #[.pointer (some ⟨st,0,none⟩),.string key,.agg #[.int .i64 1,.int .i64 0,.string ⟨#[97]⟩,.int .i64 5]] w fun e w' => e=.returned (.int .i64 0) ∧ onlyIn [st,ss,sr] w w':=by
 have hb0:=below_new2 w (.cells #[.pointer (some ⟨st,0,none⟩)] 170) (.cells #[.int .i64 1,.int .i64 0,.string ⟨#[97]⟩,.int .i64 5] 81)
 have hk1:=blk_new2 w (.cells #[.pointer (some ⟨st,0,none⟩)] 170) 81 #[.int .i64 1,.int .i64 0,.string ⟨#[97]⟩,.int .i64 5]
 have hk0:Blk ((w.alloc (.cells #[.pointer (some ⟨st,0,none⟩)] 170)).alloc (.cells #[.int .i64 1,.int .i64 0,.string ⟨#[97]⟩,.int .i64 5] 81)) w.heap.size 170 #[.pointer (some ⟨st,0,none⟩)]:=(Blk.new w _ _).alloc _
 have HF:=Lib.hid (fun W h => find_no key ss 16 W (by omega) (by omega) hk h)
 have HI:=Lib.hid (fun W h => insert_any key ⟨#[97]⟩ 5 st ss sr W hk h)
 have hl:=homeK_lt key (n:=16) (by omega)
 obtain ⟨h,hh⟩:∃ h,h=homeK key 16:=⟨_,rfl⟩
 rw [← hh] at HF hl
 have HS:=Lib.hid (hs.later hb0)
 have HK0:=Lib.hid hk0
 have HK1:=Lib.hid hk1
 have HB:=Lib.hid hb0
 clear hh hs hb0 hk0 hk1
 go_enter Tryz.func160,Tryz.ntmps160
 go_upto_region 1 with fail
 generalize (w.alloc (.cells #[.pointer (some ⟨st,0,none⟩)] 170)).alloc (.cells #[.int .i64 1,.int .i64 0,.string ⟨#[97]⟩,.int .i64 5] 81)=w1 at *
 obtain ⟨z0,z1,z2,z3⟩:=HK1.out.four
 go_upto_region 3 with (go_at_call 191;refine (check1 _).mono ?_;rintro e w2 ⟨rfl,b2⟩)
 have HS2:=Lib.hid (HS.out.later b2)
 have HK02:=Lib.hid (HK0.out.later b2)
 have HK12:=Lib.hid (HK1.out.later b2)
 have HB2:=Lib.hid (below_next HB.out b2)
 clear z0 z1 z2 z3 b2 HS HK0 HK1 HB
 have p0:w2.cell? ⟨w.heap.size,0,none⟩=some (.pointer (some ⟨st,0,none⟩)):=HK02.out.at_ (i:=0) rfl
 have y0:w2.cell? ⟨st,0,none⟩=some (.slice (some ⟨ss,0,none⟩) 16 16):=HS2.out.blk.at_ (i:=0) rfl
 go_upto_region 7 with (go_at_call 188;refine (HF.out w2 HS2.out.slots).mono ?_;rintro e w3 ⟨rfl,b3⟩)
 have HS3:=Lib.hid (HS2.out.later b3)
 have HK03:=Lib.hid (HK02.out.later b3)
 have HK13:=Lib.hid (HK12.out.later b3)
 have HB3:=Lib.hid (below_next HB2.out b3)
 clear p0 y0 b3 HS2 HK02 HK12 HB2
 have p0:w3.cell? ⟨w.heap.size,0,none⟩=some (.pointer (some ⟨st,0,none⟩)):=HK03.out.at_ (i:=0) rfl
 have z0:w3.cell? ⟨w.heap.size + 1,0,none⟩=some (.int .i64 1):=HK13.out.at_ (i:=0) rfl
 have HU:=Lib.hid (full0 st ss sr w3 HS3.out)
 go_upto_region 4 with (go_at_call 194;refine HU.out.mono ?_;rintro e w4 ⟨rfl,b4⟩)
 have HS4:=Lib.hid (HS3.out.later b4)
 have HK04:=Lib.hid (HK03.out.later b4)
 have HK14:=Lib.hid (HK13.out.later b4)
 have HB4:=Lib.hid (below_next HB3.out b4)
 clear p0 z0 b4 HS3 HK03 HK13 HB3 HU
 have p0:w4.cell? ⟨w.heap.size,0,none⟩=some (.pointer (some ⟨st,0,none⟩)):=HK04.out.at_ (i:=0) rfl
 have HU:=Lib.hid (full0 st ss sr w4 HS4.out)
 go_upto_region 6 with (go_at_call 194;refine HU.out.mono ?_;rintro e w5 ⟨rfl,b5⟩)
 have HS5:=Lib.hid (HS4.out.later b5)
 have HK05:=Lib.hid (HK04.out.later b5)
 have HK15:=Lib.hid (HK14.out.later b5)
 have HB5:=Lib.hid (below_next HB4.out b5)
 clear p0 b5 HS4 HK04 HK14 HB4 HU
 have p0:w5.cell? ⟨w.heap.size,0,none⟩=some (.pointer (some ⟨st,0,none⟩)):=HK05.out.at_ (i:=0) rfl
 obtain ⟨z0,z1,z2,z3⟩:=HK15.out.four
 have HJ:=Lib.hid (HI.out w5 HS5.out)
 go_wp2_with (go_at_call 196;refine HJ.out.mono ?_;rintro e w6 ⟨rfl,o6⟩)
 go_ret
 exact ⟨rfl,(onlyIn.of_below HB5.out).trans o6⟩
end Go.Proofs.YtjafpikjpipbkaaGreatDoor
namespace Go.Proofs.YtjafpikjpipbkaaGreatDoor
open Go.RowKit ND
theorem timed1 (w:World):Calls Tryz.prog 206 #[.int .i64 1] w fun e w' => e=.returned (.bool true) ∧ w=w':=by
 go_enter Tryz.func206,Tryz.ntmps206
 go_wp2_with fail
 go_ret
 exact ⟨rfl,rfl⟩
theorem ttl15 (w:World):Calls Tryz.prog 209 #[.int .i64 1,.int .i64 5] w fun e w' => e=.returned (.bool true) ∧ w=w':=by
 go_enter Tryz.func209,Tryz.ntmps209
 go_wp2_with (go_at_call 206;refine (timed1 _).mono ?_;rintro e w' ⟨rfl,rfl⟩)
 go_ret
 exact ⟨rfl,rfl⟩
theorem plain65 (w:World):Calls Tryz.prog 222 #[.int .u8 65] w fun e w' => e=.returned (.bool true) ∧ w=w':=by
 go_enter Tryz.func222,Tryz.ntmps222
 go_wp2_with fail
 go_ret
 exact ⟨rfl,rfl⟩
theorem words_any (w:World):Calls Tryz.prog 221 #[] w fun e w' => e=.returned (.slice (some ⟨w.heap.size,0,none⟩) 8 8) ∧ Below w.heap.size w w' ∧ w'.cell? ⟨w.heap.size,0,none⟩=some (.string ⟨#[]⟩) ∧ w'.cell? ⟨w.heap.size,1,none⟩=some (.string ⟨#[72,79,76,68]⟩):=by
 go_enter Tryz.func221,Tryz.ntmps221
 go_wp2_with fail
 go_ret
 exact ⟨rfl,(Below.refl _ _).alloc (Nat.le_refl _) _,by rw [(Blk.new w _ _).cell];rfl,by rw [(Blk.new w _ _).cell];rfl⟩
theorem operation1 (w:World):Calls Tryz.prog 205 #[.string ⟨#[72,79,76,68]⟩] w fun e w' => e=.returned (.int .i64 1) ∧ Below w.heap.size w w':=by
 have t0:((⟨#[72,79,76,68]⟩:ByteArray).toList == (⟨#[72,79,76,68]⟩:ByteArray).toList)=true:=by simp
 go_enter Tryz.func205,Tryz.ntmps205
 go_wp2_with (go_at_call 221;refine (words_any _).mono ?_;rintro e w1 ⟨rfl,b1,c0,c1⟩)
 refine wp_loop_rounds 2 ?_
 rw [rounds_succ]
 go_wp2_with fail
 rw [rounds_succ]
 go_wp2_with fail
 go_ret
 exact ⟨rfl,b1⟩
theorem decimal5 (w:World):Calls Tryz.prog 207 #[.string ⟨#[53]⟩] w fun e w' => e=.returned (.tuple #[.int .i64 5,.bool true]) ∧ Below w.heap.size w w':=by
 have e0:((⟨#[53]⟩:ByteArray)[0]'(by decide)).toNat=53:=rfl
 obtain ⟨W,cap,hcv,hce,hbe,_⟩:=conv_bytes (P:=Tryz.prog) w 9 143 5 ⟨#[53]⟩ Tryz.underlying9 Tryz.underlying143 Tryz.underlying5
 have hc0:W.cell? ⟨w.heap.size,0,none⟩=some (.int .u8 53):=hce 0 (by decide)
 have hcv2:(convert 9 143 (.string ⟨#[53]⟩)).run Tryz.prog w=.ok (.slice (some ⟨w.heap.size,0,none⟩) 1 cap) W:=hcv
 clear hce hcv
 go_enter Tryz.func207,Tryz.ntmps207
 go_wp2_with fail
 refine wp_loop_rounds 2 ?_
 rw [rounds_succ]
 go_wp2_with fail
 rw [rounds_succ]
 go_wp2_with fail
 go_ret2
 exact ⟨rfl,hbe⟩
theorem unquoteA (w:World):Calls Tryz.prog 208 #[.string ⟨#[65]⟩] w fun e w' => e=.returned (.tuple #[.string ⟨#[65]⟩,.bool true]) ∧ Below w.heap.size w w':=by
 have e0:((⟨#[65]⟩:ByteArray)[0]'(by decide)).toNat=65:=rfl
 have t0:((⟨#[65]⟩:ByteArray).toList == (⟨#[34,34]⟩:ByteArray).toList)=false:=by kernel_rfl
 obtain ⟨i0,hi,hz0,hz1,hz2⟩:=info_parts Tryz.infoU8
 go_enter Tryz.func208,Tryz.ntmps208
 go_wp2_with fail
 refine wp_loop_rounds 2 ?_
 rw [rounds_succ]
 go_wp2_with (first | (go_at_call 222;refine (plain65 _).mono ?_;rintro e w' ⟨rfl,rfl⟩) | (at_builtin;refine wpList_append_ownT _ rfl _ _ 143 rfl w.heap.size 5 i0 (.int .u8 0) 1 1 Tryz.underlying143 hi hz0 hz1 hz2 rfl (by decide) _ _ _ rfl (ownsT_of (World.ownsRow_nil _ _ _ _)) ⟨w.heap.size,0,none⟩ 1 1 [.int .u8 65] rfl rfl (cell_one_new _ _ _) ?c2 ?c3 ?c4 ?c5 ?_))
 case c2 => intro u hu;simp at hu;subst hu;rfl
 case c3 => unfold maxLen;omega
 case c4 => omega
 case c5 => simp
 intro v' w1 hown1 hgrow
 have hbel1:Below w.heap.size w w1:=((Below.refl _ w).alloc (Nat.le_refl _) _).grown hgrow (by simp) (fun k hk => by cases hk)
 rcases hown1.2 with ⟨_,h0⟩ | ⟨g4,c4,cu4,fz4,hv4,_⟩
 ·cases h0
 obtain rfl:=hv4
 have hcv:=bytes_of_ownsT (P:=Tryz.prog) (l:=[65]) 143 9 hown1 Tryz.underlying143 Tryz.underlying5 Tryz.underlying9
 clear hown1 hgrow
 go_wp2_with fail
 rw [rounds_succ]
 go_wp2_with fail
 go_ret2
 exact ⟨rfl,hbel1⟩
theorem Tryz.infoStr:(Tryz.prog.info? 9).map (fun i => (i.zero,i.size,i.bytes))=some (some (.string ⟨#[]⟩),1,16):=by kernel_rfl
theorem splitH (w:World):Calls Tryz.prog 204 #[.string ⟨#[72,79,76,68,32,53,32,65]⟩] w fun e w' => ∃ v,e=.returned v ∧ w'.ownsRow w.heap.size 9 1 v 3 [.string ⟨#[72,79,76,68]⟩,.string ⟨#[53]⟩,.string ⟨#[65]⟩] ∧ Below w.heap.size w w':=by
 obtain ⟨i0,hi,hz0,hz1,hz2⟩:=info_parts Tryz.infoStr
 have a0:((⟨#[72,79,76,68,32,53,32,65]⟩:ByteArray)[0]'(by decide)).toNat=72:=rfl
 have a1:((⟨#[72,79,76,68,32,53,32,65]⟩:ByteArray)[1]'(by decide)).toNat=79:=rfl
 have a2:((⟨#[72,79,76,68,32,53,32,65]⟩:ByteArray)[2]'(by decide)).toNat=76:=rfl
 have a3:((⟨#[72,79,76,68,32,53,32,65]⟩:ByteArray)[3]'(by decide)).toNat=68:=rfl
 have a4:((⟨#[72,79,76,68,32,53,32,65]⟩:ByteArray)[4]'(by decide)).toNat=32:=rfl
 have x0:(⟨#[72,79,76,68,32,53,32,65]⟩:ByteArray).extract 0 4=⟨#[72,79,76,68]⟩:=by kernel_rfl
 have x1:(⟨#[72,79,76,68,32,53,32,65]⟩:ByteArray).extract 5 8=⟨#[53,32,65]⟩:=by kernel_rfl
 have b0:((⟨#[53,32,65]⟩:ByteArray)[0]'(by decide)).toNat=53:=rfl
 have b1:((⟨#[53,32,65]⟩:ByteArray)[1]'(by decide)).toNat=32:=rfl
 have x2:(⟨#[53,32,65]⟩:ByteArray).extract 0 1=⟨#[53]⟩:=by kernel_rfl
 have x3:(⟨#[53,32,65]⟩:ByteArray).extract 2 3=⟨#[65]⟩:=by kernel_rfl
 have d0:((⟨#[65]⟩:ByteArray)[0]'(by decide)).toNat=65:=rfl
 have k5:IntKind.i64.wrap 5=5:=by kernel_rfl
 have k2:IntKind.i64.wrap 2=2:=by kernel_rfl
 go_enter Tryz.func204,Tryz.ntmps204
 go_wp2_with fail
 go_step3
 go_wp2_with fail
 go_step3
 go_wp2_with fail
 refine wp_loop_rounds 3 ?_
 rw [rounds_succ]
 go_wp2_with fail
 refine wp_loop_rounds 5 ?_
 rw [rounds_succ]
 go_wp2_with fail
 rw [rounds_succ]
 go_wp2_with fail
 rw [rounds_succ]
 go_wp2_with fail
 rw [rounds_succ]
 go_wp2_with fail
 rw [rounds_succ]
 go_wp2_with fail
 go_region_law (refine step_app_own rfl (.tmp 14) (.tmp 18) rfl w.heap.size (.string ⟨#[]⟩) 1 16 Tryz.underlying62 hi hz0 hz1 hz2 rfl (by decide) _ _ _ rfl (World.ownsRow_nil _ _ _ _) ⟨w.heap.size,0,none⟩ 1 1 [.string ⟨#[72,79,76,68]⟩] rfl rfl (cells_new _ [_] _) (by intro u hu;simp at hu;subst hu;rfl) (by unfold maxLen;omega) (by omega) (by simp) ?_;intro v1 w1 ho1 hg1;have hb1:Below w.heap.size w w1:=(((Below.refl _ w).drew).alloc (Nat.le_refl _) _).grown hg1 (by simp) (by intro k hk;cases hk);have HB1:=Lib.hid hb1;have HO1:=Lib.hid ho1;clear ho1 hg1 hb1)
 go_wp2_with fail
 rw [rounds_succ]
 go_wp2_with fail
 refine wp_loop_rounds 2 ?_
 rw [rounds_succ]
 go_wp2_with fail
 rw [rounds_succ]
 go_wp2_with fail
 go_region_law (refine step_app_own rfl (.tmp 14) (.tmp 18) rfl w.heap.size (.string ⟨#[]⟩) 1 16 Tryz.underlying62 hi hz0 hz1 hz2 rfl (by decide) _ _ _ rfl (HO1.out.alloc _) ⟨w1.heap.size,0,none⟩ 1 1 [.string ⟨#[53]⟩] rfl rfl (cells_new _ [_] _) (by intro u hu;simp at hu;subst hu;rfl) (by unfold maxLen;omega) (by omega) (by have:=HB1.out.size;simp;omega) ?_;intro v2 w2 ho2 hg2;have hb2:Below w.heap.size w w2:=((HB1.out.drew).alloc HB1.out.size _).grown hg2 (by have:=HB1.out.size;simp;omega) (fun k hk => (HO1.out.lt k hk).1);have HB2:=Lib.hid hb2;have HO2:=Lib.hid ho2;clear ho2 hg2 hb2 HO1)
 go_wp2_with fail
 rw [rounds_succ]
 go_wp2_with fail
 refine wp_loop_rounds 2 ?_
 rw [rounds_succ]
 go_wp2_with fail
 rw [rounds_succ]
 go_wp2_with (at_builtin;refine wpList_append_own _ rfl _ _ 62 rfl w.heap.size 9 i0 (.string ⟨#[]⟩) 1 16 Tryz.underlying62 hi hz0 hz1 hz2 rfl (by decide) _ _ _ rfl (HO2.out.alloc _) ⟨w2.heap.size,0,none⟩ 1 1 [.string ⟨#[65]⟩] rfl rfl (cells_new _ [_] _) ?c2 ?c3 ?c4 ?c5 ?_)
 case c2 => intro u hu;simp at hu;subst hu;rfl
 case c3 => unfold maxLen;omega
 case c4 => omega
 case c5 => have:=HB2.out.size;simp;omega
 intro v3 w3 ho3 hg3 _
 have hb3:Below w.heap.size w w3:=(HB2.out.alloc HB2.out.size _).grown hg3 (by have:=HB2.out.size;simp;omega) (fun k hk => (HO2.out.lt k hk).1)
 have HO3:=Lib.hid ho3
 clear ho3 hg3
 go_wp2_with fail
 rw [Exit.noGoto_ret]
 go_ret
 exact ⟨_,rfl,HO3.out,hb3⟩
def RetParse (w:World) (e:Ending) (w':World):Prop :=
 ∃ v,e=.returned (.tuple #[.agg #[.int .i64 1,.int .i64 5,v],.int .i64 0]) ∧ w'.ownsRow w.heap.size 9 1 v 1 [.string ⟨#[65]⟩] ∧ Below w.heap.size w w'
theorem parseH (w:World):Calls Tryz.prog 185 #[.string ⟨#[72,79,76,68,32,53,32,65]⟩] w (RetParse w):=by
 have hs:(⟨#[72,79,76,68,32,53,32,65]⟩:ByteArray).size=8:=rfl
 obtain ⟨i0,hi,hz0,hz1,hz2⟩:=info_parts Tryz.infoStr
 have HB0:Hid (Below w.heap.size w (w.alloc (.cells #[.int .i64 0,.int .i64 0,.slice none 0 0] 219))):=Lib.hid ((Below.refl _ _).alloc (Nat.le_refl _) _)
 have hb0:Blk (w.alloc (.cells #[.int .i64 0,.int .i64 0,.slice none 0 0] 219)) w.heap.size 219 #[.int .i64 0,.int .i64 0,.slice none 0 0]:=Blk.new _ _ _
 go_enter Tryz.func185,Tryz.ntmps185
 go_upto_region 3 with fail
 generalize w.alloc (.cells #[.int .i64 0,.int .i64 0,.slice none 0 0] 219)=w1 at *
 have HK1:=Lib.hid hb0
 clear hb0
 go_upto_region 4 with (go_at_call 204;refine (splitH _).mono ?_;rintro e w2 ⟨v,rfl,ho,b2⟩)
 have HB2:=Lib.hid (below_next HB0.out b2)
 have HK2:=Lib.hid (HK1.out.later b2)
 clear b2 HK1
 obtain ⟨g,cap,rfl,hbg,hgl,hnc,hcm,hcs⟩:=own_at ho (by omega)
 have d0:=hcs 0 _ rfl
 have d1:=hcs 1 _ rfl
 have d2:=hcs 2 _ rfl
 clear ho hbg hcs
 go_upto_region 8 with (go_at_call 205;refine (operation1 _).mono ?_;rintro e w3 ⟨rfl,b3⟩)
 have hg2:=HB2.out.size
 have hg3:=b3.size
 have HB4:=Lib.hid ((below_next HB2.out b3).alloc (show w.heap.size ≤ w3.heap.size by omega) (.cells #[.int .i64 1,.int .i64 0,.slice none 0 0] 219))
 have b4:Below w2.heap.size w2 (w3.alloc (.cells #[.int .i64 1,.int .i64 0,.slice none 0 0] 219)):=b3.alloc b3.size _
 have HR4:Hid (Blk (w3.alloc (.cells #[.int .i64 1,.int .i64 0,.slice none 0 0] 219)) w3.heap.size 219 #[.int .i64 1,.int .i64 0,.slice none 0 0]):=Lib.hid (Blk.new _ _ _)
 have d1:=cell_stay d1 hgl b4
 have d2:=cell_stay d2 hgl b4
 have HK4:=Lib.hid (HK2.out.later b4)
 have hne:w.heap.size < w3.heap.size:=by have:=HK2.out.lt;omega
 have hg4:=b4.size
 clear d0 HK2 HB2 b3 b4
 generalize w3.alloc (.cells #[.int .i64 1,.int .i64 0,.slice none 0 0] 219)=w4 at *
 obtain ⟨r,hr⟩:∃ r,r=w3.heap.size:=⟨_,rfl⟩
 rw [← hr] at HR4 hne hg3 ⊢
 clear hr hs
 have r0:=HR4.out.at_ (i:=0) rfl
 have hgl4:g < w4.heap.size:=by omega
 go_upto_region 14 with (first | (go_at_call 206;refine (timed1 _).mono ?_;rintro e w5 ⟨rfl,rfl⟩) | (go_at_call 207;refine (decimal5 _).mono ?_;rintro e w5 ⟨rfl,b5⟩))
 have HR5:=Lib.hid (HR4.out.later b5)
 have HK5:=Lib.hid (HK4.out.later b5)
 have HB5:=Lib.hid (HB4.out.trans (b5.mono HB4.out.size))
 have d2:=cell_stay d2 hgl4 b5
 have hgl5:g < w5.heap.size:=Nat.lt_of_lt_of_le hgl4 b5.size
 clear d1 r0 b5 HR4 HK4 HB4 hg4 hgl4
 have f1:=HR5.out.free 1
 have y1:w5.cell? ⟨r,1,none⟩=some (.int .i64 0):=HR5.out.at_ (i:=1) rfl
 go_region
 have hR6:Blk (w5.setCell ⟨r,1,none⟩ (.int .i64 5)).drew r 219 #[.int .i64 1,.int .i64 5,.slice none 0 0]:=HR5.out.put 1 (.int .i64 5)
 have HR6:=Lib.hid hR6
 have HK6:Hid (Blk (w5.setCell ⟨r,1,none⟩ (.int .i64 5)).drew w.heap.size 219 #[.int .i64 0,.int .i64 0,.slice none 0 0]):=Lib.hid (HK5.out.far (p:=⟨r,1,none⟩) (Nat.ne_of_lt hne) _)
 have HB6:=Lib.hid ((HB5.out.setCell (p:=⟨r,1,none⟩) (Nat.le_of_lt hne) (.int .i64 5)).drew)
 have d3:(w5.setCell ⟨r,1,none⟩ (.int .i64 5)).drew.cell? ⟨g,2,none⟩=some (.string ⟨#[65]⟩):=by
  have h1:g ≠ r:=by omega
  exact (World.cell?_of_block (w:=w5) (a:=⟨g,2,none⟩) (Below.heap_setCell w5 ⟨r,1,none⟩ _ g h1)).trans d2
 have hgl6:g < (w5.setCell ⟨r,1,none⟩ (.int .i64 5)).drew.heap.size:=by simpa [World.setCell,World.drew] using hgl5
 clear d2 f1 y1 HR5 HK5 HB5 hgl5 hR6
 generalize (w5.setCell ⟨r,1,none⟩ (.int .i64 5)).drew=w6 at *
 go_wp2_with fail
 refine wp_loop_rounds 2 ?_
 rw [rounds_succ]
 go_upto_region 21 with (go_at_call 208;refine (unquoteA _).mono ?_;rintro e w7 ⟨rfl,b7⟩)
 have HR7:=Lib.hid (HR6.out.later b7)
 have HK7:=Lib.hid (HK6.out.later b7)
 have HB7:=Lib.hid (HB6.out.trans (b7.mono HB6.out.size))
 clear d3 b7 HR6 HK6 HB6 hgl6
 have y2:w7.cell? ⟨r,2,none⟩=some (.slice none 0 0):=HR7.out.at_ (i:=2) rfl
 go_wp2_with (at_builtin;refine wpList_append_own _ rfl _ _ 62 rfl w7.heap.size 9 i0 (.string ⟨#[]⟩) 1 16 Tryz.underlying62 hi hz0 hz1 hz2 rfl (by decide) _ _ _ rfl (World.ownsRow_nil _ _ _ _) ⟨w7.heap.size,0,none⟩ 1 1 [.string ⟨#[65]⟩] rfl rfl (cells_new _ [_] _) ?c2 ?c3 ?c4 ?c5 ?_)
 case c2 => intro u hu;simp at hu;subst hu;rfl
 case c3 => unfold maxLen;omega
 case c4 => omega
 case c5 => simp
 intro v8 w8 ho8 hg8 _
 have b8:Below w7.heap.size w7 w8:=((Below.refl _ w7).alloc (Nat.le_refl _) _).grown hg8 (by simp) (by intro k hk;cases hk)
 have HR8:=Lib.hid (HR7.out.later b8)
 have HK8:=Lib.hid (HK7.out.later b8)
 have HB8:=Lib.hid (HB7.out.trans (b8.mono HB7.out.size))
 have HO8:=Lib.hid ho8
 obtain ⟨g8,c8,rfl,hb8,_,_,_,_⟩:=own_at ho8 (by omega)
 have f2:=HR8.out.free 2
 have z2:w8.cell? ⟨r,2,none⟩=some (.slice none 0 0):=HR8.out.at_ (i:=2) rfl
 have hrl:=HR7.out.lt
 clear y2 b8 HR7 HK7 ho8 hg8
 go_wp2_with fail
 have HR9:Hid (Blk (w8.setCell ⟨r,2,none⟩ (.slice (some ⟨g8,0,none⟩) 1 c8)) r 219 #[.int .i64 1,.int .i64 5,.slice (some ⟨g8,0,none⟩) 1 c8]):=Lib.hid (HR8.out.put 2 (.slice (some ⟨g8,0,none⟩) 1 c8))
 have HK9:Hid (Blk (w8.setCell ⟨r,2,none⟩ (.slice (some ⟨g8,0,none⟩) 1 c8)) w.heap.size 219 #[.int .i64 0,.int .i64 0,.slice none 0 0]):=Lib.hid (HK8.out.far (p:=⟨r,2,none⟩) (Nat.ne_of_lt hne) _)
 have HB9:=Lib.hid (HB8.out.setCell (p:=⟨r,2,none⟩) (Nat.le_of_lt hne) (.slice (some ⟨g8,0,none⟩) 1 c8))
 have HO9:Hid ((w8.setCell ⟨r,2,none⟩ (.slice (some ⟨g8,0,none⟩) 1 c8)).ownsRow w7.heap.size 9 1 (.slice (some ⟨g8,0,none⟩) 1 c8) 1 [.string ⟨#[65]⟩]):=Lib.hid (HO8.out.kept (row:=some r) (grown_setCell (grown_refl _ _) 2 _) (.inr (by intro e;injection e with e;simp only at e;omega)))
 have HWS:Hid (w.heap.size ≤ w7.heap.size):=Lib.hid HB7.out.size
 clear HR8 HK8 HB8 HO8 f2 z2 HB7
 generalize w8.setCell ⟨r,2,none⟩ (.slice (some ⟨g8,0,none⟩) 1 c8)=w9 at *
 have q0:w9.cell? ⟨r,0,none⟩=some (.int .i64 1):=HR9.out.at_ (i:=0) rfl
 have q1:w9.cell? ⟨r,1,none⟩=some (.int .i64 5):=HR9.out.at_ (i:=1) rfl
 have q2:w9.cell? ⟨r,2,none⟩=some (.slice (some ⟨g8,0,none⟩) 1 c8):=HR9.out.at_ (i:=2) rfl
 have p0:w9.cell? ⟨w.heap.size,0,none⟩=some (.int .i64 0):=HK9.out.at_ (i:=0) rfl
 have p1:w9.cell? ⟨w.heap.size,1,none⟩=some (.int .i64 0):=HK9.out.at_ (i:=1) rfl
 have p2:w9.cell? ⟨w.heap.size,2,none⟩=some (.slice none 0 0):=HK9.out.at_ (i:=2) rfl
 have e0:=HK9.out.free 0
 have e1:=HK9.out.free 1
 have e2:=HK9.out.free 2
 rw [rounds_succ]
 go_wp2_with (go_at_call 209;refine (ttl15 _).mono ?_;rintro e w10 ⟨rfl,rfl⟩)
 have hr9:=HR9.out.lt
 have hb9:=HB9.out
 have hk9:Blk (((w9.setCell ⟨w.heap.size,0,none⟩ (.int .i64 1)).setCell ⟨w.heap.size,1,none⟩ (.int .i64 5)).setCell ⟨w.heap.size,2,none⟩ (.slice (some ⟨g8,0,none⟩) 1 c8)) w.heap.size 219 #[.int .i64 1,.int .i64 5,.slice (some ⟨g8,0,none⟩) 1 c8]:=((HK9.out.put 0 (.int .i64 1)).put 1 (.int .i64 5)).put 2 (.slice (some ⟨g8,0,none⟩) 1 c8)
 have HB10:Hid (Below w.heap.size w (((w9.setCell ⟨w.heap.size,0,none⟩ (.int .i64 1)).setCell ⟨w.heap.size,1,none⟩ (.int .i64 5)).setCell ⟨w.heap.size,2,none⟩ (.slice (some ⟨g8,0,none⟩) 1 c8))):=Lib.hid (((HB9.out.setCell (p:=⟨w.heap.size,0,none⟩) (Nat.le_refl _) _).setCell (p:=⟨w.heap.size,1,none⟩) (Nat.le_refl _) _).setCell (p:=⟨w.heap.size,2,none⟩) (Nat.le_refl _) _)
 have HO10:Hid ((((w9.setCell ⟨w.heap.size,0,none⟩ (.int .i64 1)).setCell ⟨w.heap.size,1,none⟩ (.int .i64 5)).setCell ⟨w.heap.size,2,none⟩ (.slice (some ⟨g8,0,none⟩) 1 c8)).ownsRow w.heap.size 9 1 (.slice (some ⟨g8,0,none⟩) 1 c8) 1 [.string ⟨#[65]⟩]):=Lib.hid ((own_less HWS.out HO9.out).kept (row:=some w.heap.size) (grown_setCell (grown_setCell (grown_setCell (grown_refl _ _) 0 _) 1 _) 2 _) (.inr (by intro e;injection e with e;simp only at e;omega)))
 generalize ((w9.setCell ⟨w.heap.size,0,none⟩ (.int .i64 1)).setCell ⟨w.heap.size,1,none⟩ (.int .i64 5)).setCell ⟨w.heap.size,2,none⟩ (.slice (some ⟨g8,0,none⟩) 1 c8)=wf at *
 clear p0 p1 p2 e0 e1 e2 q0 q1 q2
 have p0:wf.cell? ⟨w.heap.size,0,none⟩=some (.int .i64 1):=hk9.at_ (i:=0) rfl
 have p1:wf.cell? ⟨w.heap.size,1,none⟩=some (.int .i64 5):=hk9.at_ (i:=1) rfl
 have p2:wf.cell? ⟨w.heap.size,2,none⟩=some (.slice (some ⟨g8,0,none⟩) 1 c8):=hk9.at_ (i:=2) rfl
 exact bodyPost_ret (v:=.tuple #[.agg #[.int .i64 1,.int .i64 5,.slice (some ⟨g8,0,none⟩) 1 c8],.int .i64 0]) (by simp [results,Tryz.results185,go_sem,p0,p1,p2]) rfl ⟨_,rfl,HO10.out,HB10.out⟩
end Go.Proofs.YtjafpikjpipbkaaGreatDoor
