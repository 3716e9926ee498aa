/-
  Merged texts: lemmas and walks that the last text of this claim leans on.
-/
import Derived.Test.YtjafpikjpipbkaaGreatDoorMgTS37
import Derived.Deep.MidRow
import Derived.Test.YtjafpikjpipbkaaGreatDoorMgTS32
import Derived.Test.YtjafpikjpipbkaaGreatDoorMgTS27
set_option maxRecDepth 100000
set_option maxHeartbeats 40000000
namespace Go.Proofs.YtjafpikjpipbkaaGreatDoor
open Go.RowKit ND
def BzO (e:Ending) (w w':World):Prop:=∃ ad c,e=.returned (.slice (some ad) 1 c) ∧ ad.block < w'.heap.size ∧ w'.cell? ad=some (.int .i64 0) ∧ Below w.heap.size w w'
theorem busy_open {d:Nat} {w:World} (h:Calls Tryz.prog 72 #[.pointer (some ⟨d,0,none⟩)] w (RetBz w [0])):Calls Tryz.prog 72 #[.pointer (some ⟨d,0,none⟩)] w fun e w' => BzO e w w':=by
 refine h.mono ?_
 rintro e w' ⟨v,rfl,hi,hb⟩
 obtain ⟨ad,c,rfl,hl,_,_,hc⟩:=hi.some_ (by simp)
 exact ⟨ad,c,rfl,hl,(by simpa [Addr.add] using hc 0 0 rfl),hb⟩
def Ps (V:World) (d k:Nat) (w:World):Prop:=Sg V.heap.size d k w ∧ Below V.heap.size V w
theorem Ps.later {V w w':World} {d k:Nat} (h:Ps V d k w) (hb:Below w.heap.size w w'):Ps V d k w':=⟨h.1.later hb,h.2.trans (hb.mono h.2.size)⟩
theorem Ps.set {V w:World} {d k:Nat} (h:Ps V d (k + 1) w) (x:Int):Ps V d (k + 1) (w.setCell ⟨d,2,none⟩ (.int .i64 x)):=⟨h.1.set x,h.2.setCell (p:=⟨d,2,none⟩) (by obtain ⟨_,_,_,h,_⟩:=h.1.dst;exact h) _⟩
theorem Ps.pick {V w:World} {d k:Nat} (h:Ps V d k w) (hk:k < 8) (hg:Glob V):∃ st:Int,w.cell? ⟨d,2,none⟩=some (.int .i64 st) ∧ Calls Tryz.prog 70 #[.pointer (some ⟨d,0,none⟩),.int .i64 0,.int .i64 st] w fun e w' => e=.returned (.bool true) ∧ Ps V d (k + 1) w':=by
 obtain ⟨st,h1,h2⟩:=h.1.pick hk (hg.later (h.2.trans ((Below.refl _ _).drew.mono h.2.size)))
 exact ⟨st,h1,h2.mono fun e w' h3 => ⟨h3.1,h3.2.1,h.2.trans h3.2.2⟩⟩
theorem rounds_any (V:World) (d:Nat) (w:World) (hg:Glob V) (h:Ps V d 0 w) :
  Calls Tryz.prog 34 #[.pointer (some ⟨d,0,none⟩),.int .i64 99] w fun e w' => e=.returned (.int .i64 8) ∧ Ps V d 8 w':=by
 have HG:=Lib.hid hg
 have HP0:=Lib.hid h
 have HBZ:=Lib.hid (busy_open (h.1.busy (by decide)))
 clear h hg
 go_enter Tryz.func34,Tryz.ntmps34
 go_upto_region 3 with (go_at_call 72;refine HBZ.out.mono ?_;rintro e v0 ⟨ad0,c0,rfl,hl0,hc0,b0⟩)
 have HQ0:=Lib.hid (HP0.out.later b0)
 clear HP0 HBZ b0
 refine wp_loop_rounds 9 ?_
 rw [rounds_succ]
 go_upto_region 8 with fail
 refine wp_loop_rounds 2 ?_
 rw [rounds_succ]
 obtain ⟨st0,s0,HPK⟩:=HQ0.out.pick (by decide) HG.out
 have HPL:=Lib.hid HPK
 clear HPK
 go_upto_region 11 with (go_at_call 70;refine HPL.out.mono ?_;rintro e u0 ⟨rfl,hp0⟩)
 have HP1:=Lib.hid hp0
 clear HPL HQ0 s0 hp0 hl0 hc0
 obtain ⟨su0,s0,f0,_,_⟩:=HP1.out.1.dst
 go_upto_region 12 with fail
 have HR1:=Lib.hid (HP1.out.set (wrap64 (su0 + 1)))
 clear HP1 s0 f0
 generalize u0.setCell ⟨d,2,none⟩ (.int .i64 (wrap64 (su0 + 1)))=x0 at *
 go_wp2_with fail
 rw [rounds_succ]
 have HBZ:=Lib.hid (busy_open (HR1.out.1.busy (by decide)))
 go_upto_region 3 with (go_at_call 72;refine HBZ.out.mono ?_;rintro e v1 ⟨ad1,c1,rfl,hl1,hc1,b1⟩)
 have HQ1:=Lib.hid (HR1.out.later b1)
 clear HR1 HBZ b1
 rw [rounds_succ]
 go_upto_region 8 with fail
 refine wp_loop_rounds 2 ?_
 rw [rounds_succ]
 obtain ⟨st1,s1,HPK⟩:=HQ1.out.pick (by decide) HG.out
 have HPL:=Lib.hid HPK
 clear HPK
 go_upto_region 11 with (go_at_call 70;refine HPL.out.mono ?_;rintro e u1 ⟨rfl,hp1⟩)
 have HP2:=Lib.hid hp1
 clear HPL HQ1 s1 hp1 hl1 hc1
 obtain ⟨su1,s1,f1,_,_⟩:=HP2.out.1.dst
 go_upto_region 12 with fail
 have HR2:=Lib.hid (HP2.out.set (wrap64 (su1 + 1)))
 clear HP2 s1 f1
 generalize u1.setCell ⟨d,2,none⟩ (.int .i64 (wrap64 (su1 + 1)))=x1 at *
 go_wp2_with fail
 rw [rounds_succ]
 have HBZ:=Lib.hid (busy_open (HR2.out.1.busy (by decide)))
 go_upto_region 3 with (go_at_call 72;refine HBZ.out.mono ?_;rintro e v2 ⟨ad2,c2,rfl,hl2,hc2,b2⟩)
 have HQ2:=Lib.hid (HR2.out.later b2)
 clear HR2 HBZ b2
 rw [rounds_succ]
 go_upto_region 8 with fail
 refine wp_loop_rounds 2 ?_
 rw [rounds_succ]
 obtain ⟨st2,s2,HPK⟩:=HQ2.out.pick (by decide) HG.out
 have HPL:=Lib.hid HPK
 clear HPK
 go_upto_region 11 with (go_at_call 70;refine HPL.out.mono ?_;rintro e u2 ⟨rfl,hp2⟩)
 have HP3:=Lib.hid hp2
 clear HPL HQ2 s2 hp2 hl2 hc2
 obtain ⟨su2,s2,f2,_,_⟩:=HP3.out.1.dst
 go_upto_region 12 with fail
 have HR3:=Lib.hid (HP3.out.set (wrap64 (su2 + 1)))
 clear HP3 s2 f2
 generalize u2.setCell ⟨d,2,none⟩ (.int .i64 (wrap64 (su2 + 1)))=x2 at *
 go_wp2_with fail
 rw [rounds_succ]
 have HBZ:=Lib.hid (busy_open (HR3.out.1.busy (by decide)))
 go_upto_region 3 with (go_at_call 72;refine HBZ.out.mono ?_;rintro e v3 ⟨ad3,c3,rfl,hl3,hc3,b3⟩)
 have HQ3:=Lib.hid (HR3.out.later b3)
 clear HR3 HBZ b3
 rw [rounds_succ]
 go_upto_region 8 with fail
 refine wp_loop_rounds 2 ?_
 rw [rounds_succ]
 obtain ⟨st3,s3,HPK⟩:=HQ3.out.pick (by decide) HG.out
 have HPL:=Lib.hid HPK
 clear HPK
 go_upto_region 11 with (go_at_call 70;refine HPL.out.mono ?_;rintro e u3 ⟨rfl,hp3⟩)
 have HP4:=Lib.hid hp3
 clear HPL HQ3 s3 hp3 hl3 hc3
 obtain ⟨su3,s3,f3,_,_⟩:=HP4.out.1.dst
 go_upto_region 12 with fail
 have HR4:=Lib.hid (HP4.out.set (wrap64 (su3 + 1)))
 clear HP4 s3 f3
 generalize u3.setCell ⟨d,2,none⟩ (.int .i64 (wrap64 (su3 + 1)))=x3 at *
 go_wp2_with fail
 rw [rounds_succ]
 have HBZ:=Lib.hid (busy_open (HR4.out.1.busy (by decide)))
 go_upto_region 3 with (go_at_call 72;refine HBZ.out.mono ?_;rintro e v4 ⟨ad4,c4,rfl,hl4,hc4,b4⟩)
 have HQ4:=Lib.hid (HR4.out.later b4)
 clear HR4 HBZ b4
 rw [rounds_succ]
 go_upto_region 8 with fail
 refine wp_loop_rounds 2 ?_
 rw [rounds_succ]
 obtain ⟨st4,s4,HPK⟩:=HQ4.out.pick (by decide) HG.out
 have HPL:=Lib.hid HPK
 clear HPK
 go_upto_region 11 with (go_at_call 70;refine HPL.out.mono ?_;rintro e u4 ⟨rfl,hp4⟩)
 have HP5:=Lib.hid hp4
 clear HPL HQ4 s4 hp4 hl4 hc4
 obtain ⟨su4,s4,f4,_,_⟩:=HP5.out.1.dst
 go_upto_region 12 with fail
 have HR5:=Lib.hid (HP5.out.set (wrap64 (su4 + 1)))
 clear HP5 s4 f4
 generalize u4.setCell ⟨d,2,none⟩ (.int .i64 (wrap64 (su4 + 1)))=x4 at *
 go_wp2_with fail
 rw [rounds_succ]
 have HBZ:=Lib.hid (busy_open (HR5.out.1.busy (by decide)))
 go_upto_region 3 with (go_at_call 72;refine HBZ.out.mono ?_;rintro e v5 ⟨ad5,c5,rfl,hl5,hc5,b5⟩)
 have HQ5:=Lib.hid (HR5.out.later b5)
 clear HR5 HBZ b5
 rw [rounds_succ]
 go_upto_region 8 with fail
 refine wp_loop_rounds 2 ?_
 rw [rounds_succ]
 obtain ⟨st5,s5,HPK⟩:=HQ5.out.pick (by decide) HG.out
 have HPL:=Lib.hid HPK
 clear HPK
 go_upto_region 11 with (go_at_call 70;refine HPL.out.mono ?_;rintro e u5 ⟨rfl,hp5⟩)
 have HP6:=Lib.hid hp5
 clear HPL HQ5 s5 hp5 hl5 hc5
 obtain ⟨su5,s5,f5,_,_⟩:=HP6.out.1.dst
 go_upto_region 12 with fail
 have HR6:=Lib.hid (HP6.out.set (wrap64 (su5 + 1)))
 clear HP6 s5 f5
 generalize u5.setCell ⟨d,2,none⟩ (.int .i64 (wrap64 (su5 + 1)))=x5 at *
 go_wp2_with fail
 rw [rounds_succ]
 have HBZ:=Lib.hid (busy_open (HR6.out.1.busy (by decide)))
 go_upto_region 3 with (go_at_call 72;refine HBZ.out.mono ?_;rintro e v6 ⟨ad6,c6,rfl,hl6,hc6,b6⟩)
 have HQ6:=Lib.hid (HR6.out.later b6)
 clear HR6 HBZ b6
 rw [rounds_succ]
 go_upto_region 8 with fail
 refine wp_loop_rounds 2 ?_
 rw [rounds_succ]
 obtain ⟨st6,s6,HPK⟩:=HQ6.out.pick (by decide) HG.out
 have HPL:=Lib.hid HPK
 clear HPK
 go_upto_region 11 with (go_at_call 70;refine HPL.out.mono ?_;rintro e u6 ⟨rfl,hp6⟩)
 have HP7:=Lib.hid hp6
 clear HPL HQ6 s6 hp6 hl6 hc6
 obtain ⟨su6,s6,f6,_,_⟩:=HP7.out.1.dst
 go_upto_region 12 with fail
 have HR7:=Lib.hid (HP7.out.set (wrap64 (su6 + 1)))
 clear HP7 s6 f6
 generalize u6.setCell ⟨d,2,none⟩ (.int .i64 (wrap64 (su6 + 1)))=x6 at *
 go_wp2_with fail
 rw [rounds_succ]
 have HBZ:=Lib.hid (busy_open (HR7.out.1.busy (by decide)))
 go_upto_region 3 with (go_at_call 72;refine HBZ.out.mono ?_;rintro e v7 ⟨ad7,c7,rfl,hl7,hc7,b7⟩)
 have HQ7:=Lib.hid (HR7.out.later b7)
 clear HR7 HBZ b7
 rw [rounds_succ]
 go_upto_region 8 with fail
 refine wp_loop_rounds 2 ?_
 rw [rounds_succ]
 obtain ⟨st7,s7,HPK⟩:=HQ7.out.pick (by decide) HG.out
 have HPL:=Lib.hid HPK
 clear HPK
 go_upto_region 11 with (go_at_call 70;refine HPL.out.mono ?_;rintro e u7 ⟨rfl,hp7⟩)
 have HP8:=Lib.hid hp7
 clear HPL HQ7 s7 hp7 hl7 hc7
 obtain ⟨su7,s7,f7,_,_⟩:=HP8.out.1.dst
 go_upto_region 12 with fail
 have HR8:=Lib.hid (HP8.out.set (wrap64 (su7 + 1)))
 clear HP8 s7 f7
 generalize u7.setCell ⟨d,2,none⟩ (.int .i64 (wrap64 (su7 + 1)))=x7 at *
 go_wp2_with fail
 rw [rounds_succ]
 have HBZ:=Lib.hid (HR8.out.1.still)
 go_upto_region 3 with (go_at_call 72;refine HBZ.out.mono ?_;rintro e v8 ⟨rfl,rfl⟩)
 clear HBZ
 rw [rounds_succ]
 go_wp2_with fail
 go_ret
 exact ⟨rfl,HR8.out⟩
end Go.Proofs.YtjafpikjpipbkaaGreatDoor
namespace Go.Proofs.YtjafpikjpipbkaaGreatDoor
open Go.RowKit ND
theorem OpB.range {w:World} {ob:Nat} {cs:Array Value} (h:OpB w ob cs):w.rangeAt ob 0 cs.toList:=by
 intro j v hj
 have h1:cs[j]?=some v:=by simpa using hj
 simpa using h.at_ h1
theorem OpB.of_blk {w:World} {ob:Nat} {cs:Array Value} (h:Blk w ob 85 cs):OpB w ob cs:=⟨cs,h,by rw [← Array.length_toList];exact List.take_length⟩
theorem ocells_one (op ttl:Int) (a:Option Addr) (n c:Nat) (dc an ra:Int):(ocells op ttl (.slice a n c) dc an ra).all (·.oneCell')=true:=by simp [ocells,Value.oneCell']
theorem ops_any (d ob oc gm cm:Nat) (op ttl dc an:Int) (w:World) (h3:w.cell? ⟨d,3,none⟩=some (.slice (some ⟨ob,0,none⟩) 1 oc)) (hp:OpB w ob (ocells op ttl (.slice (some ⟨gm,0,none⟩) 1 cm) dc an (-1))) (hn:NameAt w gm) (hgl:gm < w.heap.size) :
  Calls Tryz.prog 35 #[.pointer (some ⟨d,0,none⟩)] w fun e w' => ∃ g c nm,e=.returned (.slice (some ⟨g,0,none⟩) 1 c) ∧ OpB w' g (ocells op ttl nm dc an (-1)) ∧ Below w.heap.size w w':=by
 obtain ⟨i0,hi,hz0,hz1,hz2⟩:=info_parts Tryz.infoName
 obtain ⟨i1,hi1,hz10,hz11,hz12⟩:=info_parts Tryz.infoOp
 have HP:=Lib.hid hp
 have HN:=Lib.hid hn
 clear hp hn
 go_enter Tryz.func35,Tryz.ntmps35
 go_upto_region 3 with fail
 refine wp_loop_rounds 2 ?_
 rw [rounds_succ]
 go_upto_region 5 with (first
  | (refine wpList_load_mid rfl 85 (.tmp 13) rfl ob 0 rfl (ocells op ttl (.slice (some ⟨gm,0,none⟩) 1 cm) dc an (-1)).toList _ HP.out.range Tryz.underlying85 rfl rfl ?_)
  | (refine wpList_store_row rfl 85 (.tmp 5) (.tmp 14) rfl w.heap.size (ocells op ttl (.slice (some ⟨gm,0,none⟩) 1 cm) dc an (-1)) rfl rfl 85 _ (heap_alloc_new w _) rfl rfl (ocells_one _ _ _ _ _ _ _ _) ?_))
 have ba:Below w.heap.size w (w.alloc (.cells #[.int .i64 0,.int .i64 0,.int .i64 0,.slice none 0 0,.int .i64 0,.int .i64 0,.string ⟨#[]⟩,.int .i64 0,.int .i64 0,.string ⟨#[]⟩,.int .i64 0,.int .i64 0,.int .i64 0,.int .i64 0,.int .i64 0,.int .i64 0,.int .i64 0,.string ⟨#[]⟩,.int .i64 0,.int .i64 0,.string ⟨#[]⟩,.int .i64 0,.int .i64 0] 85)):=(Below.refl _ _).alloc (Nat.le_refl _) _
 have HB1:Hid (Below w.heap.size w ((w.alloc (.cells #[.int .i64 0,.int .i64 0,.int .i64 0,.slice none 0 0,.int .i64 0,.int .i64 0,.string ⟨#[]⟩,.int .i64 0,.int .i64 0,.string ⟨#[]⟩,.int .i64 0,.int .i64 0,.int .i64 0,.int .i64 0,.int .i64 0,.int .i64 0,.int .i64 0,.string ⟨#[]⟩,.int .i64 0,.int .i64 0,.string ⟨#[]⟩,.int .i64 0,.int .i64 0] 85)).setRow w.heap.size (ocells op ttl (.slice (some ⟨gm,0,none⟩) 1 cm) dc an (-1)))):=Lib.hid (ba.trans ((only_setRow (w.alloc (.cells #[.int .i64 0,.int .i64 0,.int .i64 0,.slice none 0 0,.int .i64 0,.int .i64 0,.string ⟨#[]⟩,.int .i64 0,.int .i64 0,.string ⟨#[]⟩,.int .i64 0,.int .i64 0,.int .i64 0,.int .i64 0,.int .i64 0,.int .i64 0,.int .i64 0,.string ⟨#[]⟩,.int .i64 0,.int .i64 0,.string ⟨#[]⟩,.int .i64 0,.int .i64 0] 85)) w.heap.size (ocells op ttl (.slice (some ⟨gm,0,none⟩) 1 cm) dc an (-1))).below (by intro x hx;simp at hx;omega) (by simp)))
 have HT1:Hid (Blk ((w.alloc (.cells #[.int .i64 0,.int .i64 0,.int .i64 0,.slice none 0 0,.int .i64 0,.int .i64 0,.string ⟨#[]⟩,.int .i64 0,.int .i64 0,.string ⟨#[]⟩,.int .i64 0,.int .i64 0,.int .i64 0,.int .i64 0,.int .i64 0,.int .i64 0,.int .i64 0,.string ⟨#[]⟩,.int .i64 0,.int .i64 0,.string ⟨#[]⟩,.int .i64 0,.int .i64 0] 85)).setRow w.heap.size (ocells op ttl (.slice (some ⟨gm,0,none⟩) 1 cm) dc an (-1))) w.heap.size 85 (ocells op ttl (.slice (some ⟨gm,0,none⟩) 1 cm) dc an (-1))):=Lib.hid (blk_setRow (Blk.new _ _ _) _)
 clear ba
 generalize (w.alloc (.cells #[.int .i64 0,.int .i64 0,.int .i64 0,.slice none 0 0,.int .i64 0,.int .i64 0,.string ⟨#[]⟩,.int .i64 0,.int .i64 0,.string ⟨#[]⟩,.int .i64 0,.int .i64 0,.int .i64 0,.int .i64 0,.int .i64 0,.int .i64 0,.int .i64 0,.string ⟨#[]⟩,.int .i64 0,.int .i64 0,.string ⟨#[]⟩,.int .i64 0,.int .i64 0] 85)).setRow w.heap.size (ocells op ttl (.slice (some ⟨gm,0,none⟩) 1 cm) dc an (-1))=w1 at *
 have HN1:=Lib.hid (HN.out.later hgl HB1.out)
 have y3:w1.cell? ⟨w.heap.size,3,none⟩=some (.slice (some ⟨gm,0,none⟩) 1 cm):=HT1.out.at_ (i:=3) rfl
 go_wp2_with (at_builtin;refine wpList_append_own _ rfl _ _ 79 rfl w1.heap.size 209 i0 _ 3 48 Tryz.underlying79 hi hz0 hz1 hz2 rfl (by decide) _ _ _ rfl (World.ownsRow_nil _ _ _ _) ⟨gm,0,none⟩ 1 _ [.string ⟨#[97]⟩,.string ⟨#[97]⟩,.string ⟨#[97]⟩] rfl rfl (name_cells HN1.out) ?c2 ?c3 ?c4 ?c5 ?_)
 case c2 => intro u hu;simp at hu;subst hu;rfl
 case c3 => unfold maxLen;omega
 case c4 => omega
 case c5 => simp
 intro v1 w2 ho hgr _
 have hb:Below w1.heap.size w1 w2:=(Below.refl _ w1).grown hgr (Nat.le_refl _) (fun k hk => by cases hk)
 obtain ⟨g1,c1,rfl,hg1,hg2,_,_,hcs⟩:=own_at ho (by omega)
 have HT2:=Lib.hid (HT1.out.later hb)
 have HB2:=Lib.hid (HB1.out.trans (hb.mono HB1.out.size))
 clear ho hgr hcs HT1 HB1 HN1 y3 hb
 have y3:w2.cell? ⟨w.heap.size,3,none⟩=some (.slice (some ⟨gm,0,none⟩) 1 cm):=HT2.out.at_ (i:=3) rfl
 have f3:=HT2.out.free 3
 go_upto_region 6 with fail
 have hp3:OpB (w2.setCell ⟨w.heap.size,3,none⟩ (.slice (some ⟨g1,0,none⟩) 1 c1)) w.heap.size (ocells op ttl (.slice (some ⟨g1,0,none⟩) 1 c1) dc an (-1)):=(OpB.of_blk HT2.out).put 3 _ _ (by simp [ocells])
 have HP3:=Lib.hid hp3
 have HB3:=Lib.hid (HB2.out.setCell (p:=⟨w.heap.size,3,none⟩) (Nat.le_refl _) (.slice (some ⟨g1,0,none⟩) 1 c1))
 clear HT2 HB2 y3 f3 hp3
 generalize w2.setCell ⟨w.heap.size,3,none⟩ (.slice (some ⟨g1,0,none⟩) 1 c1)=w3 at *
 go_wp2_with (first
  | (refine wpList_load_mid rfl 85 (.tmp 5) rfl w.heap.size 0 rfl (#[.int .i64 0,.int .i64 op,.int .i64 ttl,.slice (some ⟨g1,0,none⟩) 1 c1,.int .i64 0,.int .i64 0,.string ⟨#[]⟩,.int .i64 0,.int .i64 0,.string ⟨#[]⟩,.int .i64 0,.int .i64 0,.int .i64 1,.int .i64 dc,.int .i64 an,.int .i64 0,.int .i64 (-1),.string ⟨#[]⟩,.int .i64 0,.int .i64 0,.string ⟨#[]⟩,.int .i64 0,.int .i64 0]:Array Value).toList _ HP3.out.range Tryz.underlying85 rfl rfl ?_)
  | (at_builtin;refine wpList_append_own _ rfl _ _ 77 rfl w3.heap.size 85 i1 _ 23 232 Tryz.underlying77 hi1 hz10 hz11 hz12 rfl (by decide) _ _ _ rfl (World.ownsRow_nil _ _ _ _) ⟨w3.heap.size,0,none⟩ 1 1 (ocells op ttl (.slice (some ⟨g1,0,none⟩) 1 c1) dc an (-1)).toList rfl rfl (cells_new _ _ _) ?c2 ?c3 ?c4 ?c5 ?_))
 case c2 => exact one23 _ (by simpa using ocells_one op ttl (some ⟨g1,0,none⟩) 1 c1 dc an (-1))
 case c3 => unfold maxLen;omega
 case c4 => omega
 case c5 => simp
 intro v4 w4 ho4 hg4 _
 have b4:Below w3.heap.size w3 w4:=((Below.refl _ w3).alloc (Nat.le_refl _) _).grown hg4 (by simp) (by intro k hk;cases hk)
 obtain ⟨og,oc4,rfl,hge,hop⟩:=opb_own ho4
 have HP4:=Lib.hid hop
 have HB4:=Lib.hid (HB3.out.trans (b4.mono HB3.out.size))
 clear ho4 hg4 b4 hop HP3 HB3
 go_wp2_with fail
 rw [rounds_succ]
 go_wp2_with fail
 go_ret
 exact ⟨og,oc4,_,rfl,HP4.out,HB4.out⟩
end Go.Proofs.YtjafpikjpipbkaaGreatDoor
namespace Go.Proofs.YtjafpikjpipbkaaGreatDoor
open Go.RowKit ND
def nilT:Tv:=⟨.slice none 0 0,.slice none 0 0,.slice none 0 0,.slice none 0 0,.slice none 0 0,.slice none 0 0,.slice none 0 0,.slice none 0 0,.slice none 0 0,.slice none 0 0,.slice none 0 0,.slice none 0 0⟩
theorem nilT_tab (w:World) (B:Nat):TabR w B nilT T0 :=
 ⟨Spans.none_,Spans.none_,Spans.none_,Spans.none_,Spans.none_,Spans.none_,Spans.none_,Mapps.none_,Mapps.none_,Mapps.none_,Ints.none_,Mapps.none_⟩
theorem awake_any (V:World) (hg:Glob V):Calls Tryz.prog 7 #[] V fun e w' => e=.returned (.bool true) ∧ Below V.heap.size V w':=by
 have HN:=Lib.hid (deskNew_any nilT V (nilT_tab _ _) hg)
 have HG:=Lib.hid hg
 clear hg
 go_enter Tryz.func7,Tryz.ntmps7
 go_upto_region 4 with (go_at_call 32;refine HN.out.mono ?_;rintro e w1 ⟨d,rfl,h0,b1⟩)
 have HD:=Lib.hid (do_any _ d w1 h0)
 have HB:=Lib.hid b1
 clear HN h0 b1
 go_upto_region 5 with (go_at_call 33;refine HD.out.mono ?_;rintro e w2 ⟨rfl,h2,b2⟩)
 have HP:Hid (Ps V d 0 w2):=Lib.hid ⟨h2,HB.out.trans b2⟩
 have HR:=Lib.hid (rounds_any V d w2 HG.out HP.out)
 clear HD HB h2 b2 HP
 go_upto_region 6 with (go_at_call 34;refine HR.out.mono ?_;rintro e w3 ⟨rfl,h3⟩)
 obtain ⟨hs3,hb3⟩:=h3
 have HB3:=Lib.hid hb3
 obtain ⟨a,cc,t,ob,oc,gn,cn,steps,rc,hm,gm,cm,op,ttl,dc,an,hop,hnm,_,hgl,_⟩:=hs3
 have HO:=Lib.hid (ops_any d ob oc gm cm op ttl dc an w3 (hm.ds.dsk.at_ (i:=3) rfl) hop hnm hgl)
 clear HR hm hop hnm hb3
 go_upto_region 7 with (go_at_call 35;refine HO.out.mono ?_;rintro e w4 ⟨g,c,nm,rfl,hq,b4⟩)
 have HB4:=Lib.hid (HB3.out.trans (b4.mono HB3.out.size))
 have p15:w4.cell? ⟨g,15,none⟩=some (.int .i64 0):=hq.at_ (i:=15) rfl
 have p16:w4.cell? ⟨g,16,none⟩=some (.int .i64 (-1)):=hq.at_ (i:=16) rfl
 have p17:w4.cell? ⟨g,17,none⟩=some (.string ⟨#[]⟩):=hq.at_ (i:=17) rfl
 have p18:w4.cell? ⟨g,18,none⟩=some (.int .i64 0):=hq.at_ (i:=18) rfl
 have p19:w4.cell? ⟨g,19,none⟩=some (.int .i64 0):=hq.at_ (i:=19) rfl
 have p20:w4.cell? ⟨g,20,none⟩=some (.string ⟨#[]⟩):=hq.at_ (i:=20) rfl
 have p21:w4.cell? ⟨g,21,none⟩=some (.int .i64 0):=hq.at_ (i:=21) rfl
 have p22:w4.cell? ⟨g,22,none⟩=some (.int .i64 0):=hq.at_ (i:=22) rfl
 clear HO HB3 hq b4
 go_wp2_with fail
 go_ret
 exact ⟨rfl,HB4.out⟩
end Go.Proofs.YtjafpikjpipbkaaGreatDoor
namespace Go.Proofs.YtjafpikjpipbkaaGreatDoor
open Go.RowKit ND
theorem TopStream_walk (W:World) (hg:Glob W) (v:Value) (xs:List Int) (hv:Ints W W.heap.size .i64 v xs) (_:∀ x ∈ xs,-9223372036854775808 ≤ x ∧ x ≤ 9223372036854775807) (_:xs.length * 8 ≤ 140737488351232) (u:Value) (ms:List Int) (hu:Ints W W.heap.size .i64 u ms) (_:∀ x ∈ ms,-9223372036854775808 ≤ x ∧ x ≤ 9223372036854775807) (_:ms.length * 8 ≤ 140737488351232) :
  Calls Tryz.prog 3 #[v,u] W fun e W' => e=.returned (.bool true) ∧ Below W.heap.size W W' :=
 TopStream_go (fun V h => awake_any V h) W hg v xs hv u ms hu
end Go.Proofs.YtjafpikjpipbkaaGreatDoor
