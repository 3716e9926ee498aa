/-
  Merged texts: lemmas and walks that the last text of this claim leans on.
-/
import Derived.Test.YtjafpikjpipbkaaGreatDoorMgTS16
import Derived.Test.YtjafpikjpipbkaaGreatDoorMgTS5
import Derived.Test.YtjafpikjpipbkaaGreatDoorMgTS13
import Derived.Deep.RegionLaw
import Derived.Test.YtjafpikjpipbkaaGreatDoorMgTS11
import Derived.Test.YtjafpikjpipbkaaGreatDoorMgTS9
import Derived.Test.YtjafpikjpipbkaaGreatDoorMgTS10
import Derived.Test.YtjafpikjpipbkaaGreatDoorMgTS7
import Derived.Test.YtjafpikjpipbkaaGreatDoorMgTS15
import Derived.Test.YtjafpikjpipbkaaGreatDoorMgTS18
import Derived.Test.YtjafpikjpipbkaaGreatDoorMgTS1
set_option maxRecDepth 100000
set_option maxHeartbeats 40000000
namespace Go.Proofs.YtjafpikjpipbkaaGreatDoor
open Go.RowKit ND
end Go.Proofs.YtjafpikjpipbkaaGreatDoor
namespace Go.Proofs.YtjafpikjpipbkaaGreatDoor
open Go.RowKit ND
theorem sum_any (s:ByteArray) (w:World) (hs:s.size ≤ maxLen) :
  Calls Tryz.prog 230 #[.string s] w fun e w' => e=.returned (.int .i64 (sumL s.data.toList:Int)) ∧ Below w.heap.size w w':=by
 obtain ⟨W,cap,hcv,hcells,hbel,hcap⟩:=conv_bytes (P:=Tryz.prog) w 9 143 5 s Tryz.underlying9 Tryz.underlying143 Tryz.underlying5
 have HC:=Lib.hid hcells;clear hcells
 unfold maxLen at hs
 go_enter Tryz.func230,Tryz.ntmps230
 go_wp2
 clear hcv
 go_loop [3,9] (fun x i => ∃ (k n:Nat),k ≤ s.size ∧ i=.int .i64 k ∧ x=.int .u32 n ∧ n < 4294967296 ∧ Hid (n=sumL (s.data.toList.take k))) (fun _ i => s.size - (intOf i).toNat)
 case atStart => exact ⟨0,2166136261,by omega,rfl,rfl,by omega,Lib.hid (by simp [sumL])⟩
 case round =>
  obtain ⟨k,n,hk,rfl,rfl,hn,HN⟩:=hrel
  by_cases hlt:k < s.size
  ·have hc:=HC.out k hlt
   unfold bv at hc
   go_wp2
   go_round
   case rel => exact ⟨k + 1,sumStep n s[k],by omega,by go_num,by rw [sumStep_bits _ hn],sumStep_lt _ _,Lib.hid (by rw [sumL_snoc s k hlt,← HN.out])⟩
   case measure => simp [intOf];omega
  ·go_wp2
   go_ret
   refine ⟨?_,hbel⟩
   have h:=HN.out
   rw [List.take_of_length_le (by simp;omega)] at h
   rw [← h]
   first | rfl | go_num
end Go.Proofs.YtjafpikjpipbkaaGreatDoor
namespace Go.Proofs.YtjafpikjpipbkaaGreatDoor
open Go.RowKit
theorem own_at {w:World} {base:Nat} {e:TypeId} {size n:Nat} {v:Value} {xs:List Value} (h:w.ownsRow base e size v n xs) (hn:0 < n) :
  ∃ g cap,v=.slice (some ⟨g,0,none⟩) n cap ∧ base ≤ g ∧ g < w.heap.size ∧ n ≤ cap ∧ cap ≤ maxLen ∧ ∀ j u,xs[j]?=some u → w.cell? ⟨g,j,none⟩=some u:=by
 rcases h.2 with ⟨_,h0⟩ | ⟨g,cap,cur,rfl,hbg,hg,hnc,hcm,hcs,ht⟩
 ·omega
 ·refine ⟨g,cap,rfl,hbg,(Array.getElem?_eq_some_iff.1 hg).1,hnc,hcm,fun j u hu => ?_⟩
  have:=h.cells (g:=g) rfl j u hu
  rwa [show (⟨g,0,none⟩:Addr).add j=⟨g,j,none⟩ from by unfold Addr.add;split <;> simp_all] at this
theorem cell_stay {w w':World} {g j:Nat} {u:Value} (h:w.cell? ⟨g,j,none⟩=some u) (hg:g < w.heap.size) (hb:Below w.heap.size w w'):w'.cell? ⟨g,j,none⟩=some u :=
 (hb.cell (p:=⟨g,j,none⟩) hg).trans h
theorem own_less {w:World} {b base:Nat} {e:TypeId} {size n:Nat} {v:Value} {xs:List Value} (hb:b ≤ base) (h:w.ownsRow base e size v n xs):w.ownsRow b e size v n xs:=by
 refine ⟨h.1,?_⟩
 rcases h.2 with hn | ⟨g,cap,cur,rfl,h1,h2⟩
 ·exact .inl hn
 ·exact .inr ⟨g,cap,cur,rfl,by omega,h2⟩
theorem blk_new2 (w:World) (o:Obj) (t:TypeId) (cs:Array Value):Blk ((w.alloc o).alloc (.cells cs t)) (w.heap.size + 1) t cs:=by
 have h:=Blk.new (w.alloc o) t cs
 rwa [show (w.alloc o).heap.size=w.heap.size + 1 from by simp] at h
theorem below_new2 (w:World) (o o':Obj):Below w.heap.size w ((w.alloc o).alloc o'):=((Below.refl _ _).alloc (Nat.le_refl _) _).alloc (by simp) _
theorem blk_new3 (w:World) (o o':Obj) (t:TypeId) (cs:Array Value):Blk (((w.alloc o).alloc o').alloc (.cells cs t)) (w.heap.size + 1 + 1) t cs:=by
 have h:=Blk.new ((w.alloc o).alloc o') t cs
 rwa [show ((w.alloc o).alloc o').heap.size=w.heap.size + 1 + 1 from by simp] at h
theorem below_new3 (w:World) (o o' o2:Obj):Below w.heap.size w (((w.alloc o).alloc o').alloc o2):=(below_new2 w o o').alloc (by simp;omega) _
def put8 (w:World) (b:Nat) (u0 u1 u2 u3 u4 u5 u6 u7:Value):World:=((((((((w.setCell ⟨b,0,none⟩ u0).setCell ⟨b,1,none⟩ u1).setCell ⟨b,2,none⟩ u2).setCell ⟨b,3,none⟩ u3).setCell ⟨b,4,none⟩ u4).setCell ⟨b,5,none⟩ u5).setCell ⟨b,6,none⟩ u6).setCell ⟨b,7,none⟩ u7)
section
variable {w:World} {b:Nat} {u0 u1 u2 u3 u4 u5 u6 u7:Value}
theorem put8_blk {t:TypeId} {a0 a1 a2 a3 a4 a5 a6 a7:Value} (h:Blk w b t #[a0,a1,a2,a3,a4,a5,a6,a7]):Blk (put8 w b u0 u1 u2 u3 u4 u5 u6 u7) b t #[u0,u1,u2,u3,u4,u5,u6,u7]:=by
 have h2:=((((((((h.put 0 u0).put 1 u1).put 2 u2).put 3 u3).put 4 u4).put 5 u5).put 6 u6).put 7 u7)
 simpa [put8] using h2
theorem put8_below {B:Nat} {a:World} (h:Below B a w) (hB:B ≤ b):Below B a (put8 w b u0 u1 u2 u3 u4 u5 u6 u7):=((((((((h.setCell (p:=⟨b,0,none⟩) hB u0).setCell (p:=⟨b,1,none⟩) hB u1).setCell (p:=⟨b,2,none⟩) hB u2).setCell (p:=⟨b,3,none⟩) hB u3).setCell (p:=⟨b,4,none⟩) hB u4).setCell (p:=⟨b,5,none⟩) hB u5).setCell (p:=⟨b,6,none⟩) hB u6).setCell (p:=⟨b,7,none⟩) hB u7)
theorem put8_grown:w.grownBy (put8 w b u0 u1 u2 u3 u4 u5 u6 u7) (some b):=(grown_setCell (grown_setCell (grown_setCell (grown_setCell (grown_setCell (grown_setCell (grown_setCell (grown_setCell (grown_refl w (some b)) 0 u0) 1 u1) 2 u2) 3 u3) 4 u4) 5 u5) 6 u6) 7 u7)
end
theorem Blk.eight {w:World} {b:Nat} {t:TypeId} {a0 a1 a2 a3 a4 a5 a6 a7:Value} (h:Blk w b t #[a0,a1,a2,a3,a4,a5,a6,a7]) :
  w.cell? ⟨b,0,none⟩=some a0 ∧ w.cell? ⟨b,1,none⟩=some a1 ∧ w.cell? ⟨b,2,none⟩=some a2 ∧ w.cell? ⟨b,3,none⟩=some a3 ∧ w.cell? ⟨b,4,none⟩=some a4 ∧ w.cell? ⟨b,5,none⟩=some a5 ∧ w.cell? ⟨b,6,none⟩=some a6 ∧ w.cell? ⟨b,7,none⟩=some a7 :=
 ⟨h.at_ (i:=0) rfl,h.at_ (i:=1) rfl,h.at_ (i:=2) rfl,h.at_ (i:=3) rfl,h.at_ (i:=4) rfl,h.at_ (i:=5) rfl,h.at_ (i:=6) rfl,h.at_ (i:=7) rfl⟩
theorem Blk.four {w:World} {b:Nat} {t:TypeId} {a0 a1 a2 a3:Value} (h:Blk w b t #[a0,a1,a2,a3]) :
  w.cell? ⟨b,0,none⟩=some a0 ∧ w.cell? ⟨b,1,none⟩=some a1 ∧ w.cell? ⟨b,2,none⟩=some a2 ∧ w.cell? ⟨b,3,none⟩=some a3 :=
 ⟨h.at_ (i:=0) rfl,h.at_ (i:=1) rfl,h.at_ (i:=2) rfl,h.at_ (i:=3) rfl⟩
def put4 (w:World) (b:Nat) (u0 u1 u2 u3:Value):World:=(((w.setCell ⟨b,0,none⟩ u0).setCell ⟨b,1,none⟩ u1).setCell ⟨b,2,none⟩ u2).setCell ⟨b,3,none⟩ u3
theorem put4_blk {w:World} {b:Nat} {t:TypeId} {a0 a1 a2 a3 u0 u1 u2 u3:Value} (h:Blk w b t #[a0,a1,a2,a3]):Blk (put4 w b u0 u1 u2 u3) b t #[u0,u1,u2,u3]:=by
 have h2:=(((h.put 0 u0).put 1 u1).put 2 u2).put 3 u3
 simpa [put4] using h2
theorem put4_below {B:Nat} {a w:World} {b:Nat} {u0 u1 u2 u3:Value} (h:Below B a w) (hB:B ≤ b):Below B a (put4 w b u0 u1 u2 u3) :=
 (((h.setCell (p:=⟨b,0,none⟩) hB u0).setCell (p:=⟨b,1,none⟩) hB u1).setCell (p:=⟨b,2,none⟩) hB u2).setCell (p:=⟨b,3,none⟩) hB u3
end Go.Proofs.YtjafpikjpipbkaaGreatDoor
namespace Go.Proofs.YtjafpikjpipbkaaGreatDoor
open Go.RowKit
theorem tick0 (w:World):Calls Tryz.prog 164 #[.int .i64 0] w fun e w' => e=.returned (.bool true) ∧ w=w':=by
 go_enter Tryz.func164,Tryz.ntmps164
 go_wp2_with fail
 go_ret
 exact ⟨rfl,rfl⟩
theorem deadline5 (w:World):Calls Tryz.prog 215 #[.int .i64 0,.int .i64 5] w fun e w' => e=.returned (.tuple #[.int .i64 5,.int .i64 0]) ∧ w=w':=by
 go_enter Tryz.func215,Tryz.ntmps215
 go_wp2_with (go_at_call 164;refine (tick0 _).mono ?_;rintro e w' ⟨rfl,rfl⟩)
 go_ret2
 exact ⟨rfl,rfl⟩
theorem live0 (w:World):Calls Tryz.prog 218 #[.agg #[.int .i64 0,.int .i64 0,.string ⟨#[]⟩,.int .i64 0],.int .i64 0] w fun e w' => e=.returned (.bool false) ∧ Below w.heap.size w w':=by
 go_enter Tryz.func218,Tryz.ntmps218
 go_wp2_with fail
 go_ret
 exact ⟨rfl,(Below.refl _ _).alloc (Nat.le_refl _) _⟩
theorem grows0 (w:World):Calls Tryz.prog 190 #[.agg #[.int .i64 0,.int .i64 0,.string ⟨#[]⟩,.int .i64 0],.int .i64 1] w fun e w' => e=.returned (.int .i64 1) ∧ Below w.heap.size w w':=by
 go_enter Tryz.func190,Tryz.ntmps190
 go_wp2_with fail
 go_ret
 exact ⟨rfl,(Below.refl _ _).alloc (Nat.le_refl _) _⟩
theorem test0 (w:World):Calls Tryz.prog 216 #[.agg #[.int .i64 0,.int .i64 0,.string ⟨#[]⟩,.int .i64 0],.int .i64 1,.int .i64 0,.int .i64 0] w fun e w' => e=.returned (.int .i64 0) ∧ Below w.heap.size w w':=by
 go_enter Tryz.func216,Tryz.ntmps216
 go_wp2_with (go_at_call 218;refine (live0 _).mono ?_;rintro e w1 ⟨rfl,b1⟩)
 go_ret
 exact ⟨rfl,(Below.refl _ _).alloc (Nat.le_refl _) _ |>.trans (b1.mono (by simp))⟩
theorem after1 (s:ByteArray) (w:World):Calls Tryz.prog 217 #[.agg #[.int .i64 0,.int .i64 0,.string ⟨#[]⟩,.int .i64 0],.int .i64 1,.int .i64 0,.string s,.int .i64 5] w fun e w' => e=.returned (.agg #[.int .i64 1,.int .i64 0,.string s,.int .i64 5]) ∧ Below w.heap.size w w':=by
 go_enter Tryz.func217,Tryz.ntmps217
 go_wp2_with fail
 refine bodyPost_ret (v:=.agg #[.int .i64 1,.int .i64 0,.string s,.int .i64 5]) (by simp [results,Tryz.results217,go_sem]) rfl ⟨rfl,?_⟩
 exact ((Below.refl _ _).alloc (Nat.le_refl _) _).alloc (by simp) _
theorem check1 (w:World):Calls Tryz.prog 191 #[.agg #[.int .i64 1,.int .i64 0,.string ⟨#[97]⟩,.int .i64 5]] w fun e w' => e=.returned (.bool true) ∧ Below w.heap.size w w':=by
 have t0:((⟨#[97]⟩:ByteArray).toList == (⟨#[]⟩:ByteArray).toList)=false:=by kernel_rfl
 go_enter Tryz.func191,Tryz.ntmps191
 go_wp2_with fail
 go_ret
 exact ⟨rfl,(Below.refl _ _).alloc (Nat.le_refl _) _⟩
theorem mcheck11 (w:World):Calls Tryz.prog 115 #[.agg #[.int .i64 1,.int .i64 1]] w fun e w' => e=.returned (.int .i64 0) ∧ Below w.heap.size w w':=by
 go_enter Tryz.func115,Tryz.ntmps115
 go_wp2_with fail
 go_ret
 exact ⟨rfl,(Below.refl _ _).alloc (Nat.le_refl _) _⟩
theorem mtimed1 (w:World):Calls Tryz.prog 214 #[.int .i64 1] w fun e w' => e=.returned (.bool true) ∧ w=w':=by
 go_enter Tryz.func214,Tryz.ntmps214
 go_wp2_with fail
 go_ret
 exact ⟨rfl,rfl⟩
theorem Tryz.infoRec:(Tryz.prog.info? 81).map (fun i => (i.zero,i.size,i.bytes))=some (some (.agg #[.int .i64 0,.int .i64 0,.string ⟨#[]⟩,.int .i64 0]),4,40):=by kernel_rfl
def RetDecide (w:World) (s:ByteArray) (e:Ending) (w':World):Prop :=
 ∃ v,e=.returned (.tuple #[.agg #[.int .i64 0,.int .i64 (-1),.string ⟨#[]⟩,.int .i64 0,.int .i64 0,.string ⟨#[]⟩,.int .i64 0,.int .i64 0],v]) ∧ w'.ownsRow w.heap.size 81 4 v 1 [.int .i64 1,.int .i64 0,.string s,.int .i64 5] ∧ Below w.heap.size w w'
theorem decideH (s s1 s2:ByteArray) (gn cn gr cr:Nat) (w:World) (hgn:gn < w.heap.size) (hgr:gr < w.heap.size) (n0:w.cell? ⟨gn,0,none⟩=some (.string s)) (n1:w.cell? ⟨gn,1,none⟩=some (.string s1)) (n2:w.cell? ⟨gn,2,none⟩=some (.string s2))
  (r0:w.cell? ⟨gr,0,none⟩=some (.int .i64 0)) (r1:w.cell? ⟨gr,1,none⟩=some (.int .i64 0)) (r2:w.cell? ⟨gr,2,none⟩=some (.string ⟨#[]⟩)) (r3:w.cell? ⟨gr,3,none⟩=some (.int .i64 0)) :
  Calls Tryz.prog 189 #[.agg #[.int .i64 1,.int .i64 1],.int .i64 0,.int .i64 0,.int .i64 1,.int .i64 5,.slice (some ⟨gn,0,none⟩) 1 cn,.slice (some ⟨gr,0,none⟩) 1 cr,.int .i64 0] w (RetDecide w s):=by
 obtain ⟨i0,hi,hz0,hz1,hz2⟩:=info_parts Tryz.infoRec
 go_enter Tryz.func189,Tryz.ntmps189
 go_upto_region 8 with (first | (go_at_call 214;refine (mtimed1 _).mono ?_;rintro e w1 ⟨rfl,rfl⟩) | (go_at_call 215;refine (deadline5 _).mono ?_;rintro e w1 ⟨rfl,rfl⟩))
 have hK:Blk ((w.alloc (.cells #[.int .i64 1,.int .i64 1] 73)).alloc (.cells #[.int .i64 0,.int .i64 0,.string ⟨#[]⟩,.int .i64 0,.int .i64 0,.string ⟨#[]⟩,.int .i64 0,.int .i64 0] 83)) w.heap.size 73 #[.int .i64 1,.int .i64 1]:=(Blk.new _ _ _).alloc _
 have hR:Blk ((w.alloc (.cells #[.int .i64 1,.int .i64 1] 73)).alloc (.cells #[.int .i64 0,.int .i64 0,.string ⟨#[]⟩,.int .i64 0,.int .i64 0,.string ⟨#[]⟩,.int .i64 0,.int .i64 0] 83)) (w.heap.size + 1) 83 #[.int .i64 0,.int .i64 0,.string ⟨#[]⟩,.int .i64 0,.int .i64 0,.string ⟨#[]⟩,.int .i64 0,.int .i64 0]:=blk_new2 _ _ _ _
 have hB:Below w.heap.size w ((w.alloc (.cells #[.int .i64 1,.int .i64 1] 73)).alloc (.cells #[.int .i64 0,.int .i64 0,.string ⟨#[]⟩,.int .i64 0,.int .i64 0,.string ⟨#[]⟩,.int .i64 0,.int .i64 0] 83)):=below_new2 _ _ _
 have n0:=cell_stay n0 hgn hB
 have n1:=cell_stay n1 hgn hB
 have n2:=cell_stay n2 hgn hB
 have r0:=cell_stay r0 hgr hB
 have r1:=cell_stay r1 hgr hB
 have r2:=cell_stay r2 hgr hB
 have r3:=cell_stay r3 hgr hB
 have hgn:=Nat.lt_of_lt_of_le hgn hB.size
 have hgr:=Nat.lt_of_lt_of_le hgr hB.size
 have HK:=Lib.hid hK
 have HR:=Lib.hid hR
 have HB:=Lib.hid hB
 clear hK hR hB
 generalize ((w.alloc (.cells #[.int .i64 1,.int .i64 1] 73)).alloc (.cells #[.int .i64 0,.int .i64 0,.string ⟨#[]⟩,.int .i64 0,.int .i64 0,.string ⟨#[]⟩,.int .i64 0,.int .i64 0] 83))=w1 at *
 go_wp2_with fail
 refine wp_loop_rounds 2 ?_
 rw [rounds_succ]
 go_upto_region 12 with fail
 have hN:Blk ((w1.alloc (.cells #[.string s,.string s1,.string s2] 209)).alloc (.cells #[.int .i64 0,.int .i64 0,.string ⟨#[]⟩,.int .i64 0] 81)) w1.heap.size 209 #[.string s,.string s1,.string s2]:=(Blk.new _ _ _).alloc _
 have hZ:Blk ((w1.alloc (.cells #[.string s,.string s1,.string s2] 209)).alloc (.cells #[.int .i64 0,.int .i64 0,.string ⟨#[]⟩,.int .i64 0] 81)) (w1.heap.size + 1) 81 #[.int .i64 0,.int .i64 0,.string ⟨#[]⟩,.int .i64 0]:=blk_new2 _ _ _ _
 have hb2:Below w1.heap.size w1 ((w1.alloc (.cells #[.string s,.string s1,.string s2] 209)).alloc (.cells #[.int .i64 0,.int .i64 0,.string ⟨#[]⟩,.int .i64 0] 81)):=below_new2 _ _ _
 have HN:=Lib.hid hN
 have HZ:=Lib.hid hZ
 have HB2:=Lib.hid (HB.out.trans (hb2.mono HB.out.size))
 have HK2:=Lib.hid (HK.out.later hb2)
 have HR2:=Lib.hid (HR.out.later hb2)
 have hws:=HB.out.size
 clear hN hZ hb2 n0 n1 n2 r0 r1 r2 r3 hgn hgr HK HR HB
 generalize ((w1.alloc (.cells #[.string s,.string s1,.string s2] 209)).alloc (.cells #[.int .i64 0,.int .i64 0,.string ⟨#[]⟩,.int .i64 0] 81))=w2 at *
 have k1:w2.cell? ⟨w.heap.size,1,none⟩=some (.int .i64 1):=HK2.out.at_ (i:=1) rfl
 obtain ⟨z0,z1,z2,z3⟩:w2.cell? ⟨w1.heap.size + 1,0,none⟩=some (.int .i64 0) ∧ w2.cell? ⟨w1.heap.size + 1,1,none⟩=some (.int .i64 0) ∧ w2.cell? ⟨w1.heap.size + 1,2,none⟩=some (.string ⟨#[]⟩) ∧ w2.cell? ⟨w1.heap.size + 1,3,none⟩=some (.int .i64 0):=⟨HZ.out.at_ (i:=0) rfl,HZ.out.at_ (i:=1) rfl,HZ.out.at_ (i:=2) rfl,HZ.out.at_ (i:=3) rfl⟩
 go_upto_region 13 with (go_at_call 216;refine (test0 _).mono ?_;rintro e w3 ⟨rfl,b3⟩)
 have HN3:=Lib.hid (HN.out.later b3)
 have HZ3:=Lib.hid (HZ.out.later b3)
 have HB3:=Lib.hid (HB2.out.trans (b3.mono HB2.out.size))
 have HK3:=Lib.hid (HK2.out.later b3)
 have HR3:=Lib.hid (HR2.out.later b3)
 clear k1 z0 z1 z2 z3 b3 HN HZ HB2 HK2 HR2
 obtain ⟨z0,z1,z2,z3⟩:w3.cell? ⟨w1.heap.size + 1,0,none⟩=some (.int .i64 0) ∧ w3.cell? ⟨w1.heap.size + 1,1,none⟩=some (.int .i64 0) ∧ w3.cell? ⟨w1.heap.size + 1,2,none⟩=some (.string ⟨#[]⟩) ∧ w3.cell? ⟨w1.heap.size + 1,3,none⟩=some (.int .i64 0):=⟨HZ3.out.at_ (i:=0) rfl,HZ3.out.at_ (i:=1) rfl,HZ3.out.at_ (i:=2) rfl,HZ3.out.at_ (i:=3) rfl⟩
 go_upto_region 14 with (go_at_call 190;refine (grows0 _).mono ?_;rintro e w4 ⟨rfl,b4⟩)
 have HN4:=Lib.hid (HN3.out.later b4)
 have HZ4:=Lib.hid (HZ3.out.later b4)
 have HB4:=Lib.hid (HB3.out.trans (b4.mono HB3.out.size))
 have HK4:=Lib.hid (HK3.out.later b4)
 have HR4:=Lib.hid (HR3.out.later b4)
 clear z0 z1 z2 z3 b4 HN3 HZ3 HB3 HK3 HR3
 have k1:w4.cell? ⟨w.heap.size,1,none⟩=some (.int .i64 1):=HK4.out.at_ (i:=1) rfl
 obtain ⟨z0,z1,z2,z3⟩:w4.cell? ⟨w1.heap.size + 1,0,none⟩=some (.int .i64 0) ∧ w4.cell? ⟨w1.heap.size + 1,1,none⟩=some (.int .i64 0) ∧ w4.cell? ⟨w1.heap.size + 1,2,none⟩=some (.string ⟨#[]⟩) ∧ w4.cell? ⟨w1.heap.size + 1,3,none⟩=some (.int .i64 0):=⟨HZ4.out.at_ (i:=0) rfl,HZ4.out.at_ (i:=1) rfl,HZ4.out.at_ (i:=2) rfl,HZ4.out.at_ (i:=3) rfl⟩
 have m0:w4.cell? ⟨w1.heap.size,0,none⟩=some (.string s):=HN4.out.at_ (i:=0) rfl
 go_upto_region 19 with fail
 go_wp2_with (first | (go_at_call 217;refine (after1 s _).mono ?_;rintro e w5 ⟨rfl,b5⟩;have HB5:=Lib.hid (HB4.out.trans (b5.mono HB4.out.size));have HR5:=Lib.hid (HR4.out.later b5);clear b5) | (at_builtin;refine wpList_append_own _ rfl _ _ 163 rfl w5.heap.size 81 i0 _ 4 40 Tryz.underlying163 hi hz0 hz1 hz2 rfl (by decide) _ _ _ rfl (World.ownsRow_nil _ _ _ _) ⟨w5.heap.size,0,none⟩ 1 1 [.int .i64 1,.int .i64 0,.string s,.int .i64 5] rfl rfl (cells_new _ [_,_,_,_] _) ?c2 ?c3 ?c4 ?c5 ?_))
 case c2 => intro u hu;simp at hu;rcases hu with rfl | rfl | rfl | rfl <;> rfl
 case c3 => unfold maxLen;omega
 case c4 => omega
 case c5 => simp
 intro v6 w6 ho6 hg6 _
 have b6:Below w5.heap.size w5 w6:=((Below.refl _ w5).alloc (Nat.le_refl _) _).grown hg6 (by simp) (by intro k hk;cases hk)
 have HR6:=Lib.hid (HR5.out.later b6)
 have HB6:=Lib.hid (HB5.out.trans (b6.mono HB5.out.size))
 have HO6:=Lib.hid ho6
 have HW5:=Lib.hid HB5.out.size
 obtain ⟨g6,c6,rfl,hg6b,_,_,_,_⟩:=own_at ho6 (by omega)
 have hr5:=HR5.out.lt
 clear b6 ho6 hg6 HR5 HB5 k1 z0 z1 z2 z3 m0
 go_wp2_with fail
 rw [rounds_succ]
 go_upto_region 22 with fail
 have b7:Below w6.heap.size w6 (w6.alloc (.cells #[.int .i64 0,.int .i64 (-1),.string ⟨#[]⟩,.int .i64 0,.int .i64 0,.string ⟨#[]⟩,.int .i64 0,.int .i64 0] 83)):=(Below.refl _ _).alloc (Nat.le_refl _) _
 have HX7:Hid (Blk (w6.alloc (.cells #[.int .i64 0,.int .i64 (-1),.string ⟨#[]⟩,.int .i64 0,.int .i64 0,.string ⟨#[]⟩,.int .i64 0,.int .i64 0] 83)) w6.heap.size 83 #[.int .i64 0,.int .i64 (-1),.string ⟨#[]⟩,.int .i64 0,.int .i64 0,.string ⟨#[]⟩,.int .i64 0,.int .i64 0]):=Lib.hid (Blk.new _ _ _)
 have HR7:=Lib.hid (HR6.out.later b7)
 have HB7:=Lib.hid (HB6.out.trans (b7.mono HB6.out.size))
 have HO7:=Lib.hid (own_later HO6.out b7)
 clear b7 HR6 HB6 HO6
 generalize w6.alloc (.cells #[.int .i64 0,.int .i64 (-1),.string ⟨#[]⟩,.int .i64 0,.int .i64 0,.string ⟨#[]⟩,.int .i64 0,.int .i64 0] 83)=w7 at *
 obtain ⟨x0,x1,x2,x3,x4,x5,x6,x7⟩:=HX7.out.eight
 obtain ⟨y0,y1,y2,y3,y4,y5,y6,y7⟩:=HR7.out.eight
 have f0:=HR7.out.free 0
 have f1:=HR7.out.free 1
 have f2:=HR7.out.free 2
 have f3:=HR7.out.free 3
 have f4:=HR7.out.free 4
 have f5:=HR7.out.free 5
 have f6:=HR7.out.free 6
 have f7:=HR7.out.free 7
 go_wp2_with fail
 have HE8:Hid (put8 w7 (w.heap.size + 1) (.int .i64 0) (.int .i64 (-1)) (.string ⟨#[]⟩) (.int .i64 0) (.int .i64 0) (.string ⟨#[]⟩) (.int .i64 0) (.int .i64 0)=((((((((w7.setCell ⟨w.heap.size + 1,0,none⟩ (.int .i64 0)).setCell ⟨w.heap.size + 1,1,none⟩ (.int .i64 (-1))).setCell ⟨w.heap.size + 1,2,none⟩ (.string ⟨#[]⟩)).setCell ⟨w.heap.size + 1,3,none⟩ (.int .i64 0)).setCell ⟨w.heap.size + 1,4,none⟩ (.int .i64 0)).setCell ⟨w.heap.size + 1,5,none⟩ (.string ⟨#[]⟩)).setCell ⟨w.heap.size + 1,6,none⟩ (.int .i64 0)).setCell ⟨w.heap.size + 1,7,none⟩ (.int .i64 0))):=Lib.hid rfl
 have HR8:=Lib.hid (put8_blk (u0:=.int .i64 0) (u1:=.int .i64 (-1)) (u2:=.string ⟨#[]⟩) (u3:=.int .i64 0) (u4:=.int .i64 0) (u5:=.string ⟨#[]⟩) (u6:=.int .i64 0) (u7:=.int .i64 0) HR7.out)
 have HB8:=Lib.hid (put8_below (u0:=.int .i64 0) (u1:=.int .i64 (-1)) (u2:=.string ⟨#[]⟩) (u3:=.int .i64 0) (u4:=.int .i64 0) (u5:=.string ⟨#[]⟩) (u6:=.int .i64 0) (u7:=.int .i64 0) (b:=w.heap.size + 1) HB7.out (by omega))
 have HO8:Hid ((put8 w7 (w.heap.size + 1) (.int .i64 0) (.int .i64 (-1)) (.string ⟨#[]⟩) (.int .i64 0) (.int .i64 0) (.string ⟨#[]⟩) (.int .i64 0) (.int .i64 0)).ownsRow w5.heap.size 81 4 (.slice (some ⟨g6,0,none⟩) 1 c6) 1 [.int .i64 1,.int .i64 0,.string s,.int .i64 5]):=Lib.hid (HO7.out.kept put8_grown (.inr (by intro e;injection e with e;simp only at e;omega)))
 rw [HE8.out] at HR8 HB8 HO8
 clear x0 x1 x2 x3 x4 x5 x6 x7 y0 y1 y2 y3 y4 y5 y6 y7 f0 f1 f2 f3 f4 f5 f6 f7 HR7 HB7 HO7 HX7 HE8
 generalize ((((((((w7.setCell ⟨w.heap.size + 1,0,none⟩ (.int .i64 0)).setCell ⟨w.heap.size + 1,1,none⟩ (.int .i64 (-1))).setCell ⟨w.heap.size + 1,2,none⟩ (.string ⟨#[]⟩)).setCell ⟨w.heap.size + 1,3,none⟩ (.int .i64 0)).setCell ⟨w.heap.size + 1,4,none⟩ (.int .i64 0)).setCell ⟨w.heap.size + 1,5,none⟩ (.string ⟨#[]⟩)).setCell ⟨w.heap.size + 1,6,none⟩ (.int .i64 0)).setCell ⟨w.heap.size + 1,7,none⟩ (.int .i64 0))=w8 at *
 obtain ⟨y0,y1,y2,y3,y4,y5,y6,y7⟩:=HR8.out.eight
 exact bodyPost_ret (v:=.tuple #[.agg #[.int .i64 0,.int .i64 (-1),.string ⟨#[]⟩,.int .i64 0,.int .i64 0,.string ⟨#[]⟩,.int .i64 0,.int .i64 0],.slice (some ⟨g6,0,none⟩) 1 c6]) (by simp [results,Tryz.results189,go_sem,y0,y1,y2,y3,y4,y5,y6,y7]) rfl ⟨_,rfl,own_less HW5.out HO8.out,HB8.out⟩
end Go.Proofs.YtjafpikjpipbkaaGreatDoor
namespace Go.Proofs.YtjafpikjpipbkaaGreatDoor
open Go.RowKit
theorem step_app_own {P:Program} {ops:Array Oper} {o:Oper} {a:Act} {w:World} {K:Act → World → Prop} {Q:Exit → Act → World → Prop} {E:Prop} {T e:TypeId} {i0:TypeInfo} (hgd:o.guard=none) (s x:Operand)
  (ho:o.op=.call { callee:=.builtin .append,args:=#[s,x],argTypes:=#[T,T] }) (base:Nat) (z:Value) (size bytes:Nat) (ht:P.underlying T=some (.slice e)) (hi:P.info? e=some i0) (hz:i0.zero=some z) (h1:i0.size=size) (h2:i0.bytes=bytes)
  (hzs:z.cells.size=size) (hsz:0 < size) (v:Value) (n:Nat) (xs:List Value) (hs:a.eval s=v) (hown:w.ownsRow base e size v n xs)
  (ad:Addr) (m c:Nat) (news:List Value) (hx:a.eval x=.slice (some ad) m c) (hl:news.length=m * size) (hnews:∀ j u,news[j]?=some u → w.cell? (ad.add j)=some u) (hone:∀ u ∈ news,u.oneCell'=true)
  (h63:n + m ≤ maxLen) (hb:(n + m) * bytes ≤ 140737488355328) (hbase:base ≤ w.heap.size)
  (h:∀ v' w',w'.ownsRow base e size v' (n + m) (xs ++ news) → w.grownBy w' v.ownBlock → K (a.put o.dst v') w') :
  if Region.wanted o (yielded ops a.tmps)=true then Oper.wp P o a w K Q else E:=by
 rw [if_pos (by simp [Region.wanted,hgd])]
 exact wp_append_own w s x T ho base e i0 z size bytes ht hi hz h1 h2 hzs hsz v n xs hs hown ad m c news hx hl hnews hone h63 hb hbase fun v' w' p q _ => h v' w' p q
end Go.Proofs.YtjafpikjpipbkaaGreatDoor
namespace Go.Proofs.YtjafpikjpipbkaaGreatDoor
open Go.RowKit ND
def protoOne (T:Tab) (c:Int):List Int:=if T.ignB c=true then [] else if findL T.prototypes c ≠ [] then findL T.prototypes c else [c]
def skelM (T:Tab) (l:List Int):List Int:=l.flatMap (protoOne T)
def skmR (T:Tab) (e:Int) (l:List Int):List Int × Int:=if e ≠ 0 then ([],e) else if 4096 < (skelM T l).length then ([],7) else (skelM T l,0)
def skelR (T:Tab) (l:List Int):List Int × Int :=
 if (nfdR T (accE T l) l).2 ≠ 0 then ([],(nfdR T (accE T l) l).2)
 else if (skmR T (accE T (nfdR T (accE T l) l).1) (nfdR T (accE T l) l).1).2 ≠ 0 then ([],(skmR T (accE T (nfdR T (accE T l) l).1) (nfdR T (accE T l) l).1).2)
 else nfdR T (accE T (skmR T (accE T (nfdR T (accE T l) l).1) (nfdR T (accE T l) l).1).1) (skmR T (accE T (nfdR T (accE T l) l).1) (nfdR T (accE T l) l).1).1
theorem skmR_err {T:Tab} {e:Int} {l:List Int} (h:e ≠ 0):skmR T e l=([],e):=by unfold skmR;rw [if_pos h]
theorem skmR_full {T:Tab} {l:List Int} (h:4096 < (skelM T l).length):skmR T 0 l=([],7):=by unfold skmR;rw [if_neg (by omega),if_pos h]
theorem skmR_ok {T:Tab} {l:List Int} (h:(skelM T l).length ≤ 4096):skmR T 0 l=(skelM T l,0):=by unfold skmR;rw [if_neg (by omega),if_neg (by omega)]
theorem skelM_app {T:Tab} (a b:List Int):skelM T (a ++ b)=skelM T a ++ skelM T b:=by unfold skelM;rw [List.flatMap_append]
structure ProOk (T:Tab):Prop where
 key:∀ m ∈ T.prototypes,findL T.decomps m.1=[] ∧ T.ignB m.1=false
 el:∀ m ∈ T.prototypes,∀ c ∈ m.2,findL T.decomps c=[] ∧ T.ignB c=false ∧ sylB c=false ∧ findL T.prototypes c=[] ∧ scalarB c=true
 len:∀ m ∈ T.prototypes,m.2.length ≤ 18
theorem proOk_of {T:Tab} (h:T.check=0):ProOk T:=by
 obtain ⟨_,_,_,r4,_,_,_,_,r9⟩:=rules_of h
 unfold Tab.rule4 at r4
 simp only [Bool.and_eq_true] at r4
 have r4':=List.all_eq_true.1 r4.2.2.2
 unfold Tab.rule9 at r9
 rw [List.all_eq_true] at r9
 have hp:∀ c,T.plainB c=true → findL T.decomps c=[] ∧ T.ignB c=false:=fun c hc => by
  unfold Tab.plainB at hc
  rw [Bool.and_eq_true,decide_eq_true_eq,Bool.not_eq_true'] at hc
  exact hc
 refine ⟨fun m hm => ?_,fun m hm c hc => ?_,fun m hm => (toB_iff.1 (r4' m hm)).2.1⟩
 ·have h1:=r9 m hm
  unfold Tab.protoOk at h1
  rw [Bool.and_eq_true] at h1
  exact hp _ h1.1
 ·have h1:=r9 m hm
  unfold Tab.protoOk at h1
  rw [Bool.and_eq_true,List.all_eq_true] at h1
  have h2:=h1.2 c hc
  unfold Tab.protoEl at h2
  rw [Bool.and_eq_true,Bool.and_eq_true,decide_eq_true_eq,Bool.not_eq_true'] at h2
  have h3:=(toB_iff.1 (r4' m hm)).2.2
  simp only [Bool.false_eq_true,if_false] at h3
  rw [List.all_eq_true] at h3
  exact ⟨(hp c h2.1).1,(hp c h2.1).2,h2.2.1,h2.2.2,h3 c hc⟩
end Go.Proofs.YtjafpikjpipbkaaGreatDoor
namespace Go.Proofs.YtjafpikjpipbkaaGreatDoor
open Go.RowKit ND
theorem skelM_step {T:Tab} {l:List Int} {k:Nat} {x:Int} (h:l[k]?=some x):skelM T (l.take (k + 1))=skelM T (l.take k) ++ protoOne T x:=by
 obtain ⟨h1,e⟩:=List.getElem?_eq_some_iff.1 h
 rw [List.take_succ_eq_append_getElem h1,skelM_app,e]
 simp [skelM]
theorem proto_ign {T:Tab} {x:Int} (h:T.ignB x=true):protoOne T x=[]:=by unfold protoOne;rw [if_pos h]
theorem proto_some {T:Tab} {x:Int} (h:T.ignB x=false) (h2:findL T.prototypes x ≠ []):protoOne T x=findL T.prototypes x:=by unfold protoOne;rw [if_neg (by rw [h];simp),if_pos h2]
theorem proto_none {T:Tab} {x:Int} (h:T.ignB x=false) (h2:findL T.prototypes x=[]):protoOne T x=[x]:=by unfold protoOne;rw [if_neg (by rw [h];simp),if_neg (by rw [h2];simp)]
theorem proto_flen {T:Tab} (h:T.check=0) (x:Int):(findL T.prototypes x).length ≤ 18:=by
 by_cases h2:findL T.prototypes x=[]
 ·rw [h2];simp
 ·exact (proOk_of h).len _ (findL_mem h2)
theorem skelR_e1 {T:Tab} {l d:List Int} {e:Int} (h1:nfdR T (accE T l) l=(d,e)) (h:e ≠ 0):skelR T l=([],e):=by
 unfold skelR;rw [h1];simp only;rw [if_pos h]
theorem skelR_e2 {T:Tab} {l d m:List Int} {f:Int} (h1:nfdR T (accE T l) l=(d,0)) (h2:skmR T (accE T d) d=(m,f)) (h:f ≠ 0):skelR T l=([],f):=by
 unfold skelR;rw [h1];simp only;rw [if_neg (by simp),h2];simp only;rw [if_pos h]
theorem skelR_e3 {T:Tab} {l d m:List Int} (h1:nfdR T (accE T l) l=(d,0)) (h2:skmR T (accE T d) d=(m,0)):skelR T l=nfdR T (accE T m) m:=by
 unfold skelR;rw [h1];simp only;rw [if_neg (by simp),h2];simp only;rw [if_neg (by simp)]
end Go.Proofs.YtjafpikjpipbkaaGreatDoor
namespace Go.Proofs.YtjafpikjpipbkaaGreatDoor
open Go.RowKit ND
theorem prototype_any (t:Tv) (T:Tab) (c:Int) (w:World) (ht:TabR w w.heap.size t T) (hs:sortM T.prototypes) (hne:∀ m ∈ T.prototypes,m.2 ≠ [] ∧ m.2.length ≤ 1000) (hlen:T.prototypes.length ≤ 256) :
  Calls Tryz.prog 252 #[t.val,.int .i64 c] w (RetSeq w (findL T.prototypes c)):=by
 have HP:=Lib.hid (fun W (h:Mapps W W.heap.size t.c11 T.prototypes) => find_any t.c11 T.prototypes c W h hs (fun m hm => (hne m hm).1) hlen)
 have HS:=Lib.hid (find_len (c:=c) (fun m hm => (hne m hm).2))
 have hr:=ht.r11
 have HR:=Lib.hid (fun o:Obj => hr.later ((Below.refl _ _).alloc (Nat.le_refl _) o))
 clear hr ht hs hlen hne
 go_enter Tryz.func252,Tryz.ntmps252
 go_wp2_with fail
 refine (HP.out _ (HR.out _)).mono ?_
 rintro e w1 ⟨v,rfl,hv,hn,b1⟩
 go_wp2_with fail
 refine (copied_any v _ w1 hv HS.out).mono ?_
 rintro e w2 ⟨v',rfl,hv',hn',b2⟩
 go_wp2_with fail
 go_ret
 exact ⟨_,rfl,hv',hn',below_next ((Below.refl _ _).alloc (Nat.le_refl _) _) (below_next b1 b2)⟩
end Go.Proofs.YtjafpikjpipbkaaGreatDoor
namespace Go.Proofs.YtjafpikjpipbkaaGreatDoor
open Go.RowKit ND
theorem skm_any (t:Tv) (T:Tab) (v:Value) (xs:List Int) (w:World) (ht:TabR w w.heap.size t T) (hg:Glob w) (hv:Ints w w.heap.size .i64 v xs) :
  Calls Tryz.prog 247 #[t.val,v] w (RetTwo w (skmR T (accE T xs) xs).1 (skmR T (accE T xs) xs).2):=by
 obtain ⟨A,c,rfl,_⟩:=id hv
 have HB0:Hid (Below w.heap.size w (w.alloc (.cells t.cells 26))):=Lib.hid ((Below.refl _ _).alloc (Nat.le_refl _) _)
 have HT:Hid (Tbl (w.alloc (.cells t.cells 26)) w.heap.size t T):=Lib.hid ⟨Blk.new _ _ _,ht.later HB0.out⟩
 have HV:=Lib.hid (hv.later HB0.out)
 have HG:=Lib.hid (hg.later HB0.out)
 clear ht hv hg
 have HO:=Lib.hid (order_any t T _ xs _ HT.out.2 HG.out HV.out)
 by_cases h0:accE T xs=0
 ·obtain ⟨hck,hlen,_⟩:=accE_zero h0
  have hsh:=shape_of hck
  have hsz:=sized_of hck
  have HI:Hid (∀ (b:Nat) (W:World) (x:Int),Tbl W b t T → Calls Tryz.prog 140 #[.agg #[t.c0,t.c1,t.c2,t.c3,t.c4,t.c5,t.c6,t.c7,t.c8,t.c9,t.c10,t.c11],.int .i64 x] W (fun e W' => e=.returned (.bool (T.ignB x)) ∧ Below W.heap.size W W')):=Lib.hid fun b W x h => ignorable_any t T x 0 1114111 W h.2 hsh.c6.1 hsh.c6.2.1
  have HP:Hid (∀ (b:Nat) (W:World) (x:Int),Tbl W b t T → Calls Tryz.prog 252 #[.agg #[t.c0,t.c1,t.c2,t.c3,t.c4,t.c5,t.c6,t.c7,t.c8,t.c9,t.c10,t.c11],.int .i64 x] W (RetSeq W (findL T.prototypes x))):=Lib.hid fun b W x h => prototype_any t T x W h.2 (keysB_sort hsh.kp) hsz.np hsh.lp
  have HML:=Lib.hid (fun x => proto_flen hck x)
  have HEF:Hid (4096 < (skelM T xs).length → skmR T (accE T xs) xs=([],7)):=Lib.hid (by rw [h0];exact fun h => skmR_full h)
  have HEO:Hid ((skelM T xs).length ≤ 4096 → skmR T (accE T xs) xs=(skelM T xs,0)):=Lib.hid (by rw [h0];exact fun h => skmR_ok h)
  rw [h0] at HO
  generalize skmR T (accE T xs) xs=R at *
  clear h0 hck hsh hsz
  generalize ordL T xs=ol at *
  go_enter Tryz.func247,Tryz.ntmps247
  go_upto_region 1 with fail
  generalize w.alloc (.cells t.cells 26)=w1 at *
  obtain ⟨x0,x1,x2,x3,x4,x5,x6,x7,x8,x9,x10,x11⟩:=HT.out.1.tab
  go_upto_region 2 with (go_at_call 37;refine HO.out.mono ?_;rintro e w2 ⟨u2,rfl,ho2,b2⟩;obtain ⟨A2,c2,rfl,_⟩:=id (Ints.of_own ho2);clear ho2)
  clear x0 x1 x2 x3 x4 x5 x6 x7 x8 x9 x10 x11
  obtain ⟨tb,htb⟩:∃ tb,w.heap.size=tb:=⟨_,rfl⟩
  have HT2:Hid (Tbl w2 tb t T):=Lib.hid (htb ▸ HT.out.later b2)
  have HV2:=Lib.hid (HV.out.later b2)
  have HB2:=Lib.hid (below_next HB0.out b2)
  simp only [htb]
  clear HT HV HB0 HO b2
  obtain ⟨i0,hi,hz0,hz1,hz2⟩:=info_parts Tryz.infoInt'
  go_wp2_with fail
  go_loopw [23,8] (fun si so wr => ∃ (k:Nat) (acc:List Int) (A9:Option Addr) (c9:Nat),k ≤ xs.length ∧ si=.int .i64 k ∧ so=.slice A9 acc.length c9 ∧ acc.length ≤ 18 * k ∧ Hid (acc=skelM T (xs.take k)) ∧ Hid (wr.ownsRow w2.heap.size 3 1 (.slice A9 acc.length c9) acc.length (acc.map (Value.int .i64))) ∧ Hid (Below w2.heap.size w2 wr)) (fun i _ _ => xs.length - (intOf i).toNat)
  case atStart => exact ⟨0,[],none,0,by omega,rfl,rfl,by simp,Lib.hid rfl,Lib.hid (World.ownsRow_nil _ _ _ _),Lib.hid (Below.refl _ _)⟩
  case round =>
   obtain ⟨k,acc,A9,c9,hk,rfl,rfl,hal,HS,HOr,HBr⟩:=hrel
   by_cases hlt:k < xs.length
   ·obtain ⟨x,hxk,_⟩:=get_of hlt
    obtain ⟨_,_,hve,_,_,_,hcell⟩:=HV2.out
    cases hve
    obtain ⟨ad,rfl,ha,hce⟩:=hcell k x hxk
    have e1:=(HBr.out.cell (p:=ad.add k) (by rw [block_of_add];exact ha)).trans hce
    have HX:=Lib.hid hxk
    have k0:(0:Int) ≤ (k:Int):=by omega
    have k1:(k:Int) < (xs.length:Int):=by omega
    have HTr:=Lib.hid (HT2.out.later HBr.out)
    have HOS:=Lib.hid (skelM_step (T:=T) HX.out)
    have HIx:=Lib.hid (fun W (h:Below wr.heap.size wr W) => HI.out tb W x (HTr.out.later h))
    have HPx:=Lib.hid (fun W (h:Below wr.heap.size wr W) => HP.out tb W x (HTr.out.later h))
    have hml:=HML.out x
    clear hcell hxk ha hce
    obtain ⟨ig,hig⟩:∃ ig,T.ignB x=ig:=⟨_,rfl⟩
    simp only [hig] at HIx
    cases ig with
    | true =>
      have HN:Hid (acc=skelM T (xs.take (k + 1))):=Lib.hid (by rw [HOS.out,proto_ign hig,List.append_nil];exact HS.out)
      clear hig
      generalize findL T.prototypes x=ml at *
      obtain ⟨x0,x1,x2,x3,x4,x5,x6,x7,x8,x9,x10,x11⟩:=HTr.out.1.tab
      go_wp2_with ((go_at_call 140;refine (HIx.out _ (Below.refl _ _)).mono ?_;rintro e w5 ⟨rfl,b5⟩;have HO5:=Lib.hid (own_later HOr.out b5);have HB5:=Lib.hid (below_then HBr.out (Nat.le_refl _) b5);have HT5:=Lib.hid (HTr.out.later b5);clear x0 x1 x2 x3 x4 x5 x6 x7 x8 x9 x10 x11;obtain ⟨x0,x1,x2,x3,x4,x5,x6,x7,x8,x9,x10,x11⟩:=HT5.out.1.tab))
      go_roundw
      case rel => exact ⟨k + 1,acc,A9,c9,by omega,by go_num,rfl,by omega,HN,HO5,HB5⟩
      case measure => simp [intOf];omega
    | false =>
      by_cases hp:findL T.prototypes x=[]
      ·have HN:Hid (acc ++ [x]=skelM T (xs.take (k + 1))):=Lib.hid (by rw [HOS.out,proto_none hig hp,← HS.out])
       rw [hp] at HPx
       clear hig hp hml
       obtain ⟨x0,x1,x2,x3,x4,x5,x6,x7,x8,x9,x10,x11⟩:=HTr.out.1.tab
       go_wp2_with (first
        | (go_at_call 140;refine (HIx.out _ (Below.refl _ _)).mono ?_;rintro e w5 ⟨rfl,b5⟩;have HO5:=Lib.hid (own_later HOr.out b5);have HB5:=Lib.hid (below_then HBr.out (Nat.le_refl _) b5);have HT5:=Lib.hid (HTr.out.later b5);clear x0 x1 x2 x3 x4 x5 x6 x7 x8 x9 x10 x11;obtain ⟨x0,x1,x2,x3,x4,x5,x6,x7,x8,x9,x10,x11⟩:=HT5.out.1.tab)
        | (go_at_call 252;refine (HPx.out _ b5).mono ?_;rintro e w7 ⟨u7,rfl,hi7,_,b7⟩;obtain ⟨A7,c7,rfl,_⟩:=id hi7;have HI7:=Lib.hid hi7;have HO7:=Lib.hid (own_later HO5.out b7);have HB7:=Lib.hid (below_then HB5.out (Nat.le_refl _) b7);clear hi7 b7)
        | (at_builtin;refine wpList_append_ints (by rfl) (.tmp 39) (.tmp 41) rfl Tryz.underlying22 hi hz0 hz1 hz2 (w7.heap.size + 1) w2.heap.size (.slice A9 acc.length c9) acc (.slice (some ⟨w7.heap.size,0,none⟩) 1 1) [x] rfl (HO7.out.alloc _) rfl (by have h:=Ints.of_own (own_new w7 3 [x] (by simp));simpa using h) (by simp;omega) (by have:=HB7.out.size;simp;omega) ?_;intro v6 w6 ho6 hg6 _;obtain ⟨A6,c6,rfl,_⟩:=id (Ints.of_own ho6);have HO6:=Lib.hid ho6;have HB6:=Lib.hid ((HB7.out.alloc HB7.out.size (.cells #[.int .i64 x] 3)).grown hg6 (by have:=HB7.out.size;simp;omega) (fun q hq => (HO7.out.lt q hq).1));clear ho6 hg6))
       go_roundw
       case rel => exact ⟨k + 1,acc ++ [x],A6,c6,by omega,by go_num,by simp,by simp;omega,HN,HO6,HB6⟩
       case measure => simp [intOf];omega
      ·have HN:Hid (acc ++ findL T.prototypes x=skelM T (xs.take (k + 1))):=Lib.hid (by rw [HOS.out,proto_some hig hp,← HS.out])
       have gp:(0:Int) < ((findL T.prototypes x).length:Int):=by have:=List.length_pos_iff.2 hp;omega
       clear hig hp
       generalize findL T.prototypes x=ml at *
       obtain ⟨x0,x1,x2,x3,x4,x5,x6,x7,x8,x9,x10,x11⟩:=HTr.out.1.tab
       go_wp2_with (first
        | (go_at_call 140;refine (HIx.out _ (Below.refl _ _)).mono ?_;rintro e w5 ⟨rfl,b5⟩;have HO5:=Lib.hid (own_later HOr.out b5);have HB5:=Lib.hid (below_then HBr.out (Nat.le_refl _) b5);have HT5:=Lib.hid (HTr.out.later b5);clear x0 x1 x2 x3 x4 x5 x6 x7 x8 x9 x10 x11;obtain ⟨x0,x1,x2,x3,x4,x5,x6,x7,x8,x9,x10,x11⟩:=HT5.out.1.tab)
        | (go_at_call 252;refine (HPx.out _ b5).mono ?_;rintro e w7 ⟨u7,rfl,hi7,_,b7⟩;obtain ⟨A7,c7,rfl,_⟩:=id hi7;have HI7:=Lib.hid hi7;have HO7:=Lib.hid (own_later HO5.out b7);have HB7:=Lib.hid (below_then HB5.out (Nat.le_refl _) b7);clear hi7 b7)
        | (at_builtin;refine wpList_append_ints (by rfl) (.tmp 36) (.tmp 37) rfl Tryz.underlying22 hi hz0 hz1 hz2 w7.heap.size w2.heap.size (.slice A9 acc.length c9) acc (.slice A7 ml.length c7) ml rfl HO7.out rfl HI7.out (by omega) HB7.out.size ?_;intro v6 w6 ho6 hg6 _;obtain ⟨A6,c6,rfl,_⟩:=id (Ints.of_own ho6);have HO6:=Lib.hid ho6;have HB6:=Lib.hid (HB7.out.grown hg6 HB7.out.size (fun q hq => (HO7.out.lt q hq).1));clear ho6 hg6))
       go_roundw
       case rel => exact ⟨k + 1,acc ++ ml,A6,c6,by omega,by go_num,by simp,by simp;omega,HN,HO6,HB6⟩
       case measure => simp [intOf];omega
   ·have HA:Hid (acc=skelM T xs):=Lib.hid (by have:=HS.out;rwa [List.take_of_length_le (by omega)] at this)
    by_cases hfl:4096 < acc.length
    ·have HR:=Lib.hid (HEF.out (by rw [← HA.out];exact hfl))
     have g:(4096:Int) < (acc.length:Int):=by omega
     clear hfl
     go_wp2_with fail
     go_ret2
     rw [HR.out]
     exact ⟨_,rfl,World.ownsRow_nil _ _ _ _,below_next HB2.out HBr.out⟩
    ·have HR:=Lib.hid (HEO.out (by rw [← HA.out];omega))
     rw [← HA.out] at HR
     have g:¬ (4096:Int) < (acc.length:Int):=by omega
     clear hfl
     go_wp2_with fail
     go_ret2
     rw [HR.out]
     exact ⟨_,rfl,row_le HOr.out HB2.out.size,below_next HB2.out HBr.out⟩
 ·have HE:=Lib.hid (skmR_err (T:=T) (l:=xs) h0)
  have hb:(accE T xs != 0)=true:=by simpa using h0
  clear h0
  go_enter Tryz.func247,Tryz.ntmps247
  go_upto_region 1 with fail
  generalize w.alloc (.cells t.cells 26)=w1 at *
  obtain ⟨x0,x1,x2,x3,x4,x5,x6,x7,x8,x9,x10,x11⟩:=HT.out.1.tab
  go_wp2_with (go_at_call 37;refine HO.out.mono ?_;rintro e w2 ⟨u2,rfl,ho2,b2⟩;obtain ⟨A2,c2,rfl,_⟩:=id (Ints.of_own ho2);clear ho2)
  go_ret2
  rw [HE.out]
  exact ⟨_,rfl,World.ownsRow_nil _ _ _ _,below_next HB0.out b2⟩
end Go.Proofs.YtjafpikjpipbkaaGreatDoor
namespace Go.Proofs.YtjafpikjpipbkaaGreatDoor
open Go.RowKit ND
theorem skOf_any (t:Tv) (T:Tab) (v:Value) (xs:List Int) (w:World) (ht:TabR w w.heap.size t T) (hg:Glob w) (hv:Ints w w.heap.size .i64 v xs) :
  Calls Tryz.prog 239 #[t.val,v] w (RetTwo w (skelR T xs).1 (skelR T xs).2):=by
 obtain ⟨A,c,rfl,_⟩:=id hv
 have HB0:Hid (Below w.heap.size w (w.alloc (.cells t.cells 26))):=Lib.hid ((Below.refl _ _).alloc (Nat.le_refl _) _)
 have HT:Hid (Tbl (w.alloc (.cells t.cells 26)) w.heap.size t T):=Lib.hid ⟨Blk.new _ _ _,ht.later HB0.out⟩
 have HV:=Lib.hid (hv.later HB0.out)
 have HG:=Lib.hid (hg.later HB0.out)
 clear ht hv hg
 have H1:=Lib.hid (nfd7_any t T _ xs _ HT.out.2 HG.out HV.out)
 obtain ⟨dl,e1,hd⟩:∃ dl e1,nfdR T (accE T xs) xs=(dl,e1):=⟨_,_,rfl⟩
 rw [hd] at H1
 have H2:=Lib.hid (fun W v (h:Below (w.alloc (.cells t.cells 26)).heap.size (w.alloc (.cells t.cells 26)) W) hi => skm_any t T v dl W (HT.out.later h).2 (HG.out.later h) hi)
 obtain ⟨ml,e2,hm⟩:∃ ml e2,skmR T (accE T dl) dl=(ml,e2):=⟨_,_,rfl⟩
 rw [hm] at H2
 have H3:=Lib.hid (fun W v (h:Below (w.alloc (.cells t.cells 26)).heap.size (w.alloc (.cells t.cells 26)) W) hi => nfd7_any t T v ml W (HT.out.later h).2 (HG.out.later h) hi)
 obtain ⟨rl,e3,hr⟩:∃ rl e3,nfdR T (accE T ml) ml=(rl,e3):=⟨_,_,rfl⟩
 rw [hr] at H3
 by_cases h1:e1=0
 ·subst h1
  by_cases h2:e2=0
  ·subst h2
   have HR:=Lib.hid ((skelR_e3 hd hm).trans hr)
   clear hd hm hr
   generalize skelR T xs=R at *
   go_enter Tryz.func239,Tryz.ntmps239
   go_upto_region 1 with fail
   generalize w.alloc (.cells t.cells 26)=w1 at *
   obtain ⟨x0,x1,x2,x3,x4,x5,x6,x7,x8,x9,x10,x11⟩:=HT.out.1.tab
   go_upto_region 2 with (go_at_call 40;refine H1.out.mono ?_;rintro e w2 ⟨u2,rfl,ho2,b2⟩;obtain ⟨A2,c2,rfl,_⟩:=id (Ints.of_own ho2);have HU2:=Lib.hid (Ints.of_own ho2);clear ho2)
   clear x0 x1 x2 x3 x4 x5 x6 x7 x8 x9 x10 x11
   obtain ⟨x0,x1,x2,x3,x4,x5,x6,x7,x8,x9,x10,x11⟩:=(HT.out.later b2).1.tab
   go_upto_region 5 with (go_at_call 247;refine (H2.out _ _ b2 HU2.out).mono ?_;rintro e w3 ⟨u3,rfl,ho3,b3⟩;obtain ⟨A3,c3,rfl,_⟩:=id (Ints.of_own ho3);have HU3:=Lib.hid (Ints.of_own ho3);have b23:=below_next b2 b3;clear ho3)
   clear x0 x1 x2 x3 x4 x5 x6 x7 x8 x9 x10 x11
   obtain ⟨x0,x1,x2,x3,x4,x5,x6,x7,x8,x9,x10,x11⟩:=(HT.out.later b23).1.tab
   go_wp2_with (go_at_call 40;refine (H3.out _ _ b23 HU3.out).mono ?_;rintro e w4 ⟨u4,rfl,ho4,b4⟩;obtain ⟨A4,c4,rfl,_⟩:=id (Ints.of_own ho4))
   go_ret2
   rw [HR.out]
   exact ⟨_,rfl,row_le ho4 (by have:=HB0.out.size;have:=b23.size;omega),below_next (below_next HB0.out b23) b4⟩
  ·have HR:=Lib.hid (skelR_e2 hd hm h2)
   have hb:(e2 != 0)=true:=by simpa using h2
   clear hd hm hr h2
   generalize skelR T xs=R at *
   go_enter Tryz.func239,Tryz.ntmps239
   go_upto_region 1 with fail
   generalize w.alloc (.cells t.cells 26)=w1 at *
   obtain ⟨x0,x1,x2,x3,x4,x5,x6,x7,x8,x9,x10,x11⟩:=HT.out.1.tab
   go_upto_region 2 with (go_at_call 40;refine H1.out.mono ?_;rintro e w2 ⟨u2,rfl,ho2,b2⟩;obtain ⟨A2,c2,rfl,_⟩:=id (Ints.of_own ho2);have HU2:=Lib.hid (Ints.of_own ho2);clear ho2)
   clear x0 x1 x2 x3 x4 x5 x6 x7 x8 x9 x10 x11
   obtain ⟨x0,x1,x2,x3,x4,x5,x6,x7,x8,x9,x10,x11⟩:=(HT.out.later b2).1.tab
   go_wp2_with (go_at_call 247;refine (H2.out _ _ b2 HU2.out).mono ?_;rintro e w3 ⟨u3,rfl,ho3,b3⟩;obtain ⟨A3,c3,rfl,_⟩:=id (Ints.of_own ho3);have HU3:=Lib.hid (Ints.of_own ho3);have b23:=below_next b2 b3;clear ho3)
   go_ret2
   rw [HR.out]
   exact ⟨_,rfl,World.ownsRow_nil _ _ _ _,below_next HB0.out b23⟩
 ·have HR:=Lib.hid (skelR_e1 hd h1)
  have hb:(e1 != 0)=true:=by simpa using h1
  clear hd hm hr h1
  generalize skelR T xs=R at *
  go_enter Tryz.func239,Tryz.ntmps239
  go_upto_region 1 with fail
  generalize w.alloc (.cells t.cells 26)=w1 at *
  obtain ⟨x0,x1,x2,x3,x4,x5,x6,x7,x8,x9,x10,x11⟩:=HT.out.1.tab
  go_wp2_with (go_at_call 40;refine H1.out.mono ?_;rintro e w2 ⟨u2,rfl,ho2,b2⟩;obtain ⟨A2,c2,rfl,_⟩:=id (Ints.of_own ho2);have HU2:=Lib.hid (Ints.of_own ho2);clear ho2)
  go_ret2
  rw [HR.out]
  exact ⟨_,rfl,World.ownsRow_nil _ _ _ _,below_next HB0.out b2⟩
end Go.Proofs.YtjafpikjpipbkaaGreatDoor
namespace Go.Proofs.YtjafpikjpipbkaaGreatDoor
open Go.RowKit ND
def keyR (T:Tab) (l:List Int):List UInt8 × Int:=if (skelR T l).2 ≠ 0 then ([],(skelR T l).2) else ((encodeL (skelR T l).1).1,(((encodeL (skelR T l).1).2:Nat):Int))
theorem keyR_ok {T:Tab} {l d:List Int} (h:skelR T l=(d,0)):keyR T l=((encodeL d).1,(((encodeL d).2:Nat):Int)):=by unfold keyR;rw [h];simp
theorem keyR_err {T:Tab} {l d:List Int} {e:Int} (h:skelR T l=(d,e)) (h1:e ≠ 0):keyR T l=([],e):=by unfold keyR;rw [h];simp only;rw [if_pos h1]
end Go.Proofs.YtjafpikjpipbkaaGreatDoor
namespace Go.Proofs.YtjafpikjpipbkaaGreatDoor
open Go.RowKit ND
def RetKey (w:World) (r:List UInt8 × Int) (e:Ending) (w':World):Prop :=
 e=.returned (.tuple #[.string ⟨r.1.toArray⟩,.int .i64 r.2]) ∧ Below w.heap.size w w'
end Go.Proofs.YtjafpikjpipbkaaGreatDoor
namespace Go.Proofs.YtjafpikjpipbkaaGreatDoor
open Go.RowKit ND
theorem skKey_any (t:Tv) (T:Tab) (v:Value) (xs:List Int) (w:World) (ht:TabR w w.heap.size t T) (hg:Glob w) (hv:Ints w w.heap.size .i64 v xs) :
  Calls Tryz.prog 227 #[t.val,v] w (RetKey w (keyR T xs)):=by
 obtain ⟨A,c,rfl,_⟩:=id hv
 have HB0:Hid (Below w.heap.size w (w.alloc (.cells t.cells 26))):=Lib.hid ((Below.refl _ _).alloc (Nat.le_refl _) _)
 have HT:Hid (Tbl (w.alloc (.cells t.cells 26)) w.heap.size t T):=Lib.hid ⟨Blk.new _ _ _,ht.later HB0.out⟩
 have HV:=Lib.hid (hv.later HB0.out)
 have HG:=Lib.hid (hg.later HB0.out)
 clear ht hv hg
 have H1:=Lib.hid (skOf_any t T _ xs _ HT.out.2 HG.out HV.out)
 obtain ⟨dl,e1,hd⟩:∃ dl e1,skelR T xs=(dl,e1):=⟨_,_,rfl⟩
 rw [hd] at H1
 by_cases h1:e1=0
 ·subst h1
  have HR:=Lib.hid (keyR_ok hd)
  clear hd
  generalize keyR T xs=R at *
  go_enter Tryz.func227,Tryz.ntmps227
  go_upto_region 1 with fail
  generalize w.alloc (.cells t.cells 26)=w1 at *
  obtain ⟨x0,x1,x2,x3,x4,x5,x6,x7,x8,x9,x10,x11⟩:=HT.out.1.tab
  go_upto_region 2 with (go_at_call 239;refine H1.out.mono ?_;rintro e w2 ⟨u2,rfl,ho2,b2⟩;obtain ⟨A2,c2,rfl,_⟩:=id (Ints.of_own ho2);have HU2:=Lib.hid (Ints.of_own ho2);clear ho2)
  clear x0 x1 x2 x3 x4 x5 x6 x7 x8 x9 x10 x11
  go_wp2_with (go_at_call 59;refine (enc_any _ dl _ HU2.out).mono ?_;rintro e w3 ⟨rfl,b3⟩)
  go_ret2
  rw [HR.out]
  exact ⟨rfl,below_next (below_next HB0.out b2) b3⟩
 ·have HR:=Lib.hid (keyR_err hd h1)
  have hb:(e1 != 0)=true:=by simpa using h1
  clear hd h1
  generalize keyR T xs=R at *
  go_enter Tryz.func227,Tryz.ntmps227
  go_upto_region 1 with fail
  generalize w.alloc (.cells t.cells 26)=w1 at *
  obtain ⟨x0,x1,x2,x3,x4,x5,x6,x7,x8,x9,x10,x11⟩:=HT.out.1.tab
  go_wp2_with (go_at_call 239;refine H1.out.mono ?_;rintro e w2 ⟨u2,rfl,ho2,b2⟩;obtain ⟨A2,c2,rfl,_⟩:=id (Ints.of_own ho2);have HU2:=Lib.hid (Ints.of_own ho2);clear ho2)
  go_ret2
  rw [HR.out]
  exact ⟨rfl,below_next HB0.out b2⟩
end Go.Proofs.YtjafpikjpipbkaaGreatDoor
