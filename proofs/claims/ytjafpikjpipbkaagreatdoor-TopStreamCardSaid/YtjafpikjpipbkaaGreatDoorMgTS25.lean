/-
  Merged texts: lemmas and walks that the last text of this claim leans on.
-/
import Derived.Test.YtjafpikjpipbkaaGreatDoorMgTS22
import Derived.Test.YtjafpikjpipbkaaGreatDoorMgTS23
import Derived.Test.YtjafpikjpipbkaaGreatDoorMgTS24
import Derived.Deep.AppendLies
set_option maxRecDepth 100000
set_option maxHeartbeats 40000000
namespace Go.Proofs.YtjafpikjpipbkaaGreatDoor
open Go.RowKit ND
def RetTables (w:World) (e:Ending) (w':World):Prop:=∃ (t:Tv) (T:Tab),e=.returned t.val ∧ TabR w' w'.heap.size t T ∧ Made T ∧ Below w.heap.size w w'
def noneT:Tv:=⟨.slice none 0 0,.slice none 0 0,.slice none 0 0,.slice none 0 0,.slice none 0 0,.slice none 0 0,.slice none 0 0,.slice none 0 0,.slice none 0 0,.slice none 0 0,.slice none 0 0,.slice none 0 0⟩
def emptyT:Tab:={ category:=[],cls:=[],joining:=[],bidi:=[],script:=[],status:=[],ignorable:=[],extensions:=[],maps:=[],decomps:=[],excluded:=[],prototypes:=[] }
structure Cols (k:Nat) (t:Tv) (T:Tab) (st:List Int):Prop where
 c0:colN k 1 8 T.category
 c1:colN k 1 254 T.cls
 c2:colN k 1 5 T.joining
 c3:colN k 1 11 T.bidi
 c4:colN k 1 60 T.script
 c6:colN k 1 1 T.ignorable
 len:st.length=k
 sts:∀ y ∈ st,0 ≤ y ∧ y ≤ 4 ∧ y ≠ 3
 rest:t.c5=.slice none 0 0 ∧ t.c7=.slice none 0 0 ∧ t.c8=.slice none 0 0 ∧ t.c9=.slice none 0 0 ∧ t.c10=.slice none 0 0 ∧ t.c11=.slice none 0 0
 empty:T.status=[] ∧ T.extensions=[] ∧ T.maps=[] ∧ T.decomps=[] ∧ T.excluded=[] ∧ T.prototypes=[]
theorem keepTables_any (w0:World) (v:Value) (xs:List Int) (hv:Ints w0 w0.heap.size .i64 v xs):Calls Tryz.prog 4 #[v] w0 (RetTables w0):=by
 obtain ⟨A,c,rfl,_⟩:=id hv
 have HV:=Lib.hid hv
 clear hv
 go_enter Tryz.func4,Tryz.ntmps4
 go_upto_region 3 with (go_at_call 17;refine (from_any _ _ _ _).mono ?_;rintro e w1 ⟨rfl,rfl⟩)
 have hbel:Below w0.heap.size w0 (((w0.alloc (.cells #[.slice none 0 0,.slice none 0 0,.slice none 0 0,.slice none 0 0,.slice none 0 0,.slice none 0 0,.slice none 0 0,.slice none 0 0,.slice none 0 0,.slice none 0 0,.slice none 0 0,.slice none 0 0] 26)).alloc (.cells #[.slice A xs.length c,.int .i64 0] 96)).alloc (.cells #[.slice none 0 0,.slice none 0 0,.slice none 0 0,.slice none 0 0,.slice none 0 0,.slice none 0 0,.slice none 0 0,.slice none 0 0,.slice none 0 0,.slice none 0 0,.slice none 0 0,.slice none 0 0] 26)):=(((Below.refl _ _).alloc (Nat.le_refl _) _).alloc (by simp) _).alloc (by simp;omega) _
 have hR:Blk (((w0.alloc (.cells #[.slice none 0 0,.slice none 0 0,.slice none 0 0,.slice none 0 0,.slice none 0 0,.slice none 0 0,.slice none 0 0,.slice none 0 0,.slice none 0 0,.slice none 0 0,.slice none 0 0,.slice none 0 0] 26)).alloc (.cells #[.slice A xs.length c,.int .i64 0] 96)).alloc (.cells #[.slice none 0 0,.slice none 0 0,.slice none 0 0,.slice none 0 0,.slice none 0 0,.slice none 0 0,.slice none 0 0,.slice none 0 0,.slice none 0 0,.slice none 0 0,.slice none 0 0,.slice none 0 0] 26)) w0.heap.size 26 #[.slice none 0 0,.slice none 0 0,.slice none 0 0,.slice none 0 0,.slice none 0 0,.slice none 0 0,.slice none 0 0,.slice none 0 0,.slice none 0 0,.slice none 0 0,.slice none 0 0,.slice none 0 0]:=((Blk.new w0 26 _).alloc _).alloc _
 have hS:Src (((w0.alloc (.cells #[.slice none 0 0,.slice none 0 0,.slice none 0 0,.slice none 0 0,.slice none 0 0,.slice none 0 0,.slice none 0 0,.slice none 0 0,.slice none 0 0,.slice none 0 0,.slice none 0 0,.slice none 0 0] 26)).alloc (.cells #[.slice A xs.length c,.int .i64 0] 96)).alloc (.cells #[.slice none 0 0,.slice none 0 0,.slice none 0 0,.slice none 0 0,.slice none 0 0,.slice none 0 0,.slice none 0 0,.slice none 0 0,.slice none 0 0,.slice none 0 0,.slice none 0 0,.slice none 0 0] 26)) (w0.heap.size + 1) (.slice A xs.length c) xs.length:=⟨0,Nat.zero_le _,by have h:=(Blk.new (w0.alloc (.cells #[.slice none 0 0,.slice none 0 0,.slice none 0 0,.slice none 0 0,.slice none 0 0,.slice none 0 0,.slice none 0 0,.slice none 0 0,.slice none 0 0,.slice none 0 0,.slice none 0 0,.slice none 0 0] 26)) 96 #[.slice A xs.length c,.int .i64 0]).alloc (.cells #[.slice none 0 0,.slice none 0 0,.slice none 0 0,.slice none 0 0,.slice none 0 0,.slice none 0 0,.slice none 0 0,.slice none 0 0,.slice none 0 0,.slice none 0 0,.slice none 0 0,.slice none 0 0] 26);simpa using h⟩
 have hB:Blk (((w0.alloc (.cells #[.slice none 0 0,.slice none 0 0,.slice none 0 0,.slice none 0 0,.slice none 0 0,.slice none 0 0,.slice none 0 0,.slice none 0 0,.slice none 0 0,.slice none 0 0,.slice none 0 0,.slice none 0 0] 26)).alloc (.cells #[.slice A xs.length c,.int .i64 0] 96)).alloc (.cells #[.slice none 0 0,.slice none 0 0,.slice none 0 0,.slice none 0 0,.slice none 0 0,.slice none 0 0,.slice none 0 0,.slice none 0 0,.slice none 0 0,.slice none 0 0,.slice none 0 0,.slice none 0 0] 26)) (w0.heap.size + 1 + 1) 26 #[.slice none 0 0,.slice none 0 0,.slice none 0 0,.slice none 0 0,.slice none 0 0,.slice none 0 0,.slice none 0 0,.slice none 0 0,.slice none 0 0,.slice none 0 0,.slice none 0 0,.slice none 0 0]:=by have h:=Blk.new ((w0.alloc (.cells #[.slice none 0 0,.slice none 0 0,.slice none 0 0,.slice none 0 0,.slice none 0 0,.slice none 0 0,.slice none 0 0,.slice none 0 0,.slice none 0 0,.slice none 0 0,.slice none 0 0,.slice none 0 0] 26)).alloc (.cells #[.slice A xs.length c,.int .i64 0] 96)) 26 #[.slice none 0 0,.slice none 0 0,.slice none 0 0,.slice none 0 0,.slice none 0 0,.slice none 0 0,.slice none 0 0,.slice none 0 0,.slice none 0 0,.slice none 0 0,.slice none 0 0,.slice none 0 0];simpa using h
 have HBEL:=Lib.hid hbel
 have HR:=Lib.hid hR
 have HS:=Lib.hid hS
 have HB:=Lib.hid hB
 clear hbel hR hS hB
 generalize (((w0.alloc (.cells #[.slice none 0 0,.slice none 0 0,.slice none 0 0,.slice none 0 0,.slice none 0 0,.slice none 0 0,.slice none 0 0,.slice none 0 0,.slice none 0 0,.slice none 0 0,.slice none 0 0,.slice none 0 0] 26)).alloc (.cells #[.slice A xs.length c,.int .i64 0] 96)).alloc (.cells #[.slice none 0 0,.slice none 0 0,.slice none 0 0,.slice none 0 0,.slice none 0 0,.slice none 0 0,.slice none 0 0,.slice none 0 0,.slice none 0 0,.slice none 0 0,.slice none 0 0,.slice none 0 0] 26))=W at *
 obtain ⟨g,hg⟩:∃ g,w0.heap.size + 1=g:=⟨_,rfl⟩
 simp only [hg] at HS HB ⊢
 obtain ⟨b,hb⟩:∃ b,g + 1=b:=⟨_,rfl⟩
 simp only [hb] at HB ⊢
 have hgw:w0.heap.size < g:=by omega
 have hgb:g < b:=by omega
 clear hg hb
 have HNX:Hid (∀ (X:World) (m:Int),Below g W X → Src X g (.slice A xs.length c) xs.length → 0 < m → m ≤ 1000000 → Calls Tryz.prog 18 #[.pointer (some ⟨g,0,none⟩),.int .i64 m] X (RetNext X g (.slice A xs.length c) xs.length m)) :=
  Lib.hid fun X m h1 h2 h3 h4 => next_src X g _ xs m (((HV.out.below HBEL.out).more (by omega)).below h1) h2 h3 h4
 have hN0:=HNX.out W 3 (Below.refl _ _) HS.out (by decide) (by decide)
 go_wp2_with (first | (go_at_call 18;refine hN0.mono ?_;rintro e w2 ⟨q2,rfl,q20,q21,hs2,hg2⟩;have HS2:=Lib.hid hs2;have HG2:=Lib.hid hg2;clear hs2 hg2) | (go_at_call 19;refine (pool_any _).mono ?_;rintro e w3 ⟨rfl,rfl⟩))
 generalize (q2 == 0)=wild
 have hbW:b < W.heap.size:=HB.out.lt
 have hbw:b < (w2.alloc (.cells (poolL.map (Value.int .i64)).toArray 3)).heap.size:=by have:=HG2.out.size;simp;omega
 have hI:KSt (w2.alloc (.cells (poolL.map (Value.int .i64)).toArray 3)) g b xs.length (.slice A xs.length c) noneT emptyT (.slice none 0 0) [] (w2.alloc (.cells (poolL.map (Value.int .i64)).toArray 3)) :=
  ⟨(HB.out.grown HG2.out (by intro e;injection e;omega)).alloc _,⟨Spans.none_,Spans.none_,Spans.none_,Spans.none_,Spans.none_,Spans.none_,Spans.none_,Mapps.none_,Mapps.none_,Mapps.none_,Ints.none_,Mapps.none_⟩,World.ownsRow_nil _ _ _ _,HS2.out.alloc _,onlyIn.refl _ _⟩
 have hRb:Blk (w2.alloc (.cells (poolL.map (Value.int .i64)).toArray 3)) w0.heap.size 26 #[.slice none 0 0,.slice none 0 0,.slice none 0 0,.slice none 0 0,.slice none 0 0,.slice none 0 0,.slice none 0 0,.slice none 0 0,.slice none 0 0,.slice none 0 0,.slice none 0 0,.slice none 0 0]:=(HR.out.grown HG2.out (by intro e;injection e;omega)).alloc _
 have hPb:Blk (w2.alloc (.cells (poolL.map (Value.int .i64)).toArray 3)) w2.heap.size 3 (poolL.map (Value.int .i64)).toArray:=Blk.new _ _ _
 have hpb:b < w2.heap.size ∧ w2.heap.size < (w2.alloc (.cells (poolL.map (Value.int .i64)).toArray 3)).heap.size:=⟨by have:=HG2.out.size;omega,by simp⟩
 have hbl:Below g W (w2.alloc (.cells (poolL.map (Value.int .i64)).toArray 3)):=(below_of_grown (Below.refl _ _) HG2.out (Nat.le_refl _) (by omega)).alloc (by have:=HG2.out.size;omega) _
 have HI:=Lib.hid hI
 have HRb:=Lib.hid hRb
 have HPb:=Lib.hid hPb
 have HBL:=Lib.hid hbl
 have HC0:Hid (Cols 0 noneT emptyT []):=Lib.hid ⟨colN_nil _ _ _,colN_nil _ _ _,colN_nil _ _ _,colN_nil _ _ _,colN_nil _ _ _,colN_nil _ _ _,rfl,by simp,⟨rfl,rfl,rfl,rfl,rfl,rfl⟩,⟨rfl,rfl,rfl,rfl,rfl,rfl⟩⟩
 clear hI hRb hPb hbl HR HB HS HS2 HG2 hN0
 generalize w2.alloc (.cells (poolL.map (Value.int .i64)).toArray 3)=Wb at *
 generalize w2.heap.size=pb at *
 obtain ⟨hpb1,hpb2⟩:=hpb
 have HNW:Hid (∀ (X:World) (m:Int),onlyIn [g,b] Wb X → Src X g (.slice A xs.length c) xs.length → 0 < m → m ≤ 1000000 → Calls Tryz.prog 18 #[.pointer (some ⟨g,0,none⟩),.int .i64 m] X (RetNext X g (.slice A xs.length c) xs.length m)) :=
  Lib.hid fun X m h1 h2 h3 h4 => HNX.out X m (HBL.out.trans (h1.below (by intro x hx;simp at hx;omega) (by omega))) h2 h3 h4
 have HVW:Hid (∀ X,onlyIn [g,b] Wb X → Ints X g .i64 (.slice A xs.length c) xs) :=
  Lib.hid fun X h1 => (((HV.out.below HBEL.out).more (by omega)).below HBL.out).below (h1.below (by intro x hx;simp at hx;omega) (by omega))
 have HBB:Hid (∀ X,onlyIn [g,b] Wb X → Below w0.heap.size w0 X) :=
  Lib.hid fun X h1 => (HBEL.out.trans (HBL.out.mono (by omega))).trans (h1.below (by intro x hx;simp at hx;omega) (by omega))
 clear HNX HBL HBEL HV
 go_loopg [6,21] 28 (fun gk sv iv wr => ∃ (k:Nat) (t:Tv) (T:Tab) (st:List Int),iv=.int .i64 k ∧ k + gk=28 ∧ Hid (KSt Wb g b xs.length (.slice A xs.length c) t T sv st wr) ∧ Hid (Cols k t T st))
 case atStart => exact ⟨0,_,_,_,rfl,rfl,HI,HC0⟩
 case round =>
  obtain ⟨k,t,T,st,rfl,hk,HM,HC⟩:=hrel
  clear HI HC0
  by_cases hlt:k < 28
  ·obtain ⟨cc,hc,_⟩:=get_of (show k < poolL.length from hlt)
   have d0:wr.cell? ⟨pb,k,none⟩=some (.int .i64 cc):=(HM.out.oi.blk HPb.out (by simp;omega)).at_ (by simp [hc])
   have HCC:=Lib.hid hc
   have k1:(k:Int) < 28:=by omega
   clear hc
   go_upto_if 27 with (go_at_call 20;refine (usual_any _ _).mono ?_;rintro e w4 ⟨u0,u1,u2,u3,u4,u5,rfl,hu0,hu1,hu2,hu3,hu4,hu5,hb4⟩;have HB4:=Lib.hid hb4;clear hb4)
   have hO4:onlyIn [g] wr (w4.alloc (.cells #[.int .i64 u0,.int .i64 u1,.int .i64 u2,.int .i64 u3,.int .i64 u4,.int .i64 u5] 50)):=onlyIn.of_below (HB4.out.alloc HB4.out.size _)
   have hS4:Src (w4.alloc (.cells #[.int .i64 u0,.int .i64 u1,.int .i64 u2,.int .i64 u3,.int .i64 u4,.int .i64 u5] 50)) g (.slice A xs.length c) xs.length:=HM.out.src.below (HB4.out.alloc HB4.out.size _)
   have hU4:Blk (w4.alloc (.cells #[.int .i64 u0,.int .i64 u1,.int .i64 u2,.int .i64 u3,.int .i64 u4,.int .i64 u5] 50)) w4.heap.size 50 #[.int .i64 u0,.int .i64 u1,.int .i64 u2,.int .i64 u3,.int .i64 u4,.int .i64 u5]:=Blk.new _ _ _
   have hub:wr.heap.size ≤ w4.heap.size:=HB4.out.size
   have hbr:b < wr.heap.size:=by have:=HM.out.oi.2.2.2.1;omega
   have HO4:=Lib.hid hO4
   have HS4:=Lib.hid hS4
   have HU4:=Lib.hid hU4
   clear hO4 hS4 hU4 HB4 d0
   generalize w4.alloc (.cells #[.int .i64 u0,.int .i64 u1,.int .i64 u2,.int .i64 u3,.int .i64 u4,.int .i64 u5] 50)=W4 at *
   generalize w4.heap.size=ub at *
   go_cut [] from 27 to 63 (fun wx => ∃ u0 u1 u2 u3 u4 u5:Int,(0 ≤ u0 ∧ u0 ≤ 8) ∧ (0 ≤ u1 ∧ u1 ≤ 254) ∧ (0 ≤ u2 ∧ u2 ≤ 5) ∧ (0 ≤ u3 ∧ u3 ≤ 11) ∧ (0 ≤ u4 ∧ u4 ≤ 60) ∧ (0 ≤ u5 ∧ u5 ≤ 4 ∧ u5 ≠ 3) ∧ Hid (onlyIn [g] wr wx) ∧ Hid (Src wx g (.slice A xs.length c) xs.length) ∧ Hid (Blk wx ub 50 #[.int .i64 u0,.int .i64 u1,.int .i64 u2,.int .i64 u3,.int .i64 u4,.int .i64 u5]))
   case first =>
    cases wild
    ·go_wp2
     go_meet
     case rel => exact ⟨u0,u1,u2,u3,u4,u5,hu0,hu1,hu2,hu3,hu4,by omega,HO4,HS4,HU4⟩
    ·clear k1
     have hu:=HU4.out.at_ (i:=0) rfl
     have HK:Hid (Calls Tryz.prog 21 #[.pointer (some ⟨g,0,none⟩),.slice (some ⟨W4.heap.size,0,none⟩) 3 3] (W4.alloc (.cells #[.int .i64 u0,.int .i64 2,.int .i64 1] 3)) (RetChoose (W4.alloc (.cells #[.int .i64 u0,.int .i64 2,.int .i64 1] 3)) g (.slice A xs.length c) xs.length [u0,2,1])) :=
      Lib.hid (choose_any _ g _ xs (HVW.out _ ((HM.out.oi.trans (HO4.out.more (by simp))).trans (onlyIn.of_below ((Below.refl _ _).alloc (Nat.le_refl _) _)))) (HS4.out.alloc _) [u0,2,1] ⟨W4.heap.size,0,none⟩ 3 (fun j y hy => (Ints.of_own (own_new W4 3 [u0,2,1] (by simp)) |> fun h => by obtain ⟨_,_,hv,_,_,_,h4⟩:=h;cases hv;obtain ⟨_,e,_,hc⟩:=h4 j y hy;cases e;exact hc)) (by have:=HO4.out.2.2.2.1;simp;omega) (by simp) (by simp))
     go_upto_region 12 with (go_at_call 21;refine HK.out.mono ?_;rintro e x4 ⟨r0,rfl,hr0,hs,hg⟩;have hU:=(HU4.out.alloc (.cells #[.int .i64 u0,.int .i64 2,.int .i64 1] 3)).grown hg (by intro e;injection e;omega);have hS:=Lib.hid hs;have hO:=Lib.hid ((HO4.out.trans (onlyIn.of_below ((Below.refl _ _).alloc (Nat.le_refl _) _))).trans (onlyIn.of_grown hg (by simp)));have eu:=hU.at_ (i:=0) rfl;have fu:=hU.free 0;have HU:=Lib.hid hU;clear hs hg hU)
     have HU5:Hid (Blk (x4.setCell ⟨ub,0,none⟩ (.int .i64 r0)) ub 50 #[.int .i64 r0,.int .i64 u1,.int .i64 u2,.int .i64 u3,.int .i64 u4,.int .i64 u5]):=Lib.hid (by simpa using HU.out.put 0 (.int .i64 r0))
     have HO5:Hid (onlyIn [g] wr (x4.setCell ⟨ub,0,none⟩ (.int .i64 r0))):=Lib.hid (hO.out.far (grown_setCell (grown_refl x4 (some ub)) 0 _) (by intro x hx;injection hx;omega))
     have HS5:Hid (Src (x4.setCell ⟨ub,0,none⟩ (.int .i64 r0)) g (.slice A xs.length c) xs.length):=Lib.hid (hS.out.grown (grown_setCell (grown_refl x4 (some ub)) 0 _) (by intro e;injection e;omega))
     clear hu HK hS hO eu fu HU HU4 HO4 HS4
     generalize x4.setCell ⟨ub,0,none⟩ (.int .i64 r0)=W5 at *
     have hu:=HU5.out.at_ (i:=1) rfl
     have HK:Hid (Calls Tryz.prog 21 #[.pointer (some ⟨g,0,none⟩),.slice (some ⟨W5.heap.size,0,none⟩) 8 8] (W5.alloc (.cells #[.int .i64 u1,.int .i64 0,.int .i64 1,.int .i64 9,.int .i64 202,.int .i64 220,.int .i64 230,.int .i64 254] 3)) (RetChoose (W5.alloc (.cells #[.int .i64 u1,.int .i64 0,.int .i64 1,.int .i64 9,.int .i64 202,.int .i64 220,.int .i64 230,.int .i64 254] 3)) g (.slice A xs.length c) xs.length [u1,0,1,9,202,220,230,254])) :=
      Lib.hid (choose_any _ g _ xs (HVW.out _ ((HM.out.oi.trans (HO5.out.more (by simp))).trans (onlyIn.of_below ((Below.refl _ _).alloc (Nat.le_refl _) _)))) (HS5.out.alloc _) [u1,0,1,9,202,220,230,254] ⟨W5.heap.size,0,none⟩ 8 (fun j y hy => (Ints.of_own (own_new W5 3 [u1,0,1,9,202,220,230,254] (by simp)) |> fun h => by obtain ⟨_,_,hv,_,_,_,h4⟩:=h;cases hv;obtain ⟨_,e,_,hc⟩:=h4 j y hy;cases e;exact hc)) (by have:=HO5.out.2.2.2.1;simp;omega) (by simp) (by simp))
     go_upto_region 13 with (go_at_call 21;refine HK.out.mono ?_;rintro e x5 ⟨r1,rfl,hr1,hs,hg⟩;have hU:=(HU5.out.alloc (.cells #[.int .i64 u1,.int .i64 0,.int .i64 1,.int .i64 9,.int .i64 202,.int .i64 220,.int .i64 230,.int .i64 254] 3)).grown hg (by intro e;injection e;omega);have hS:=Lib.hid hs;have hO:=Lib.hid ((HO5.out.trans (onlyIn.of_below ((Below.refl _ _).alloc (Nat.le_refl _) _))).trans (onlyIn.of_grown hg (by simp)));have eu:=hU.at_ (i:=1) rfl;have fu:=hU.free 1;have HU:=Lib.hid hU;clear hs hg hU)
     have HU6:Hid (Blk (x5.setCell ⟨ub,1,none⟩ (.int .i64 r1)) ub 50 #[.int .i64 r0,.int .i64 r1,.int .i64 u2,.int .i64 u3,.int .i64 u4,.int .i64 u5]):=Lib.hid (by simpa using HU.out.put 1 (.int .i64 r1))
     have HO6:Hid (onlyIn [g] wr (x5.setCell ⟨ub,1,none⟩ (.int .i64 r1))):=Lib.hid (hO.out.far (grown_setCell (grown_refl x5 (some ub)) 1 _) (by intro x hx;injection hx;omega))
     have HS6:Hid (Src (x5.setCell ⟨ub,1,none⟩ (.int .i64 r1)) g (.slice A xs.length c) xs.length):=Lib.hid (hS.out.grown (grown_setCell (grown_refl x5 (some ub)) 1 _) (by intro e;injection e;omega))
     clear hu HK hS hO eu fu HU HU5 HO5 HS5
     generalize x5.setCell ⟨ub,1,none⟩ (.int .i64 r1)=W6 at *
     have hu:=HU6.out.at_ (i:=2) rfl
     have HK:Hid (Calls Tryz.prog 21 #[.pointer (some ⟨g,0,none⟩),.slice (some ⟨W6.heap.size,0,none⟩) 7 7] (W6.alloc (.cells #[.int .i64 u2,.int .i64 0,.int .i64 1,.int .i64 2,.int .i64 3,.int .i64 4,.int .i64 5] 3)) (RetChoose (W6.alloc (.cells #[.int .i64 u2,.int .i64 0,.int .i64 1,.int .i64 2,.int .i64 3,.int .i64 4,.int .i64 5] 3)) g (.slice A xs.length c) xs.length [u2,0,1,2,3,4,5])) :=
      Lib.hid (choose_any _ g _ xs (HVW.out _ ((HM.out.oi.trans (HO6.out.more (by simp))).trans (onlyIn.of_below ((Below.refl _ _).alloc (Nat.le_refl _) _)))) (HS6.out.alloc _) [u2,0,1,2,3,4,5] ⟨W6.heap.size,0,none⟩ 7 (fun j y hy => (Ints.of_own (own_new W6 3 [u2,0,1,2,3,4,5] (by simp)) |> fun h => by obtain ⟨_,_,hv,_,_,_,h4⟩:=h;cases hv;obtain ⟨_,e,_,hc⟩:=h4 j y hy;cases e;exact hc)) (by have:=HO6.out.2.2.2.1;simp;omega) (by simp) (by simp))
     go_upto_region 14 with (go_at_call 21;refine HK.out.mono ?_;rintro e x6 ⟨r2,rfl,hr2,hs,hg⟩;have hU:=(HU6.out.alloc (.cells #[.int .i64 u2,.int .i64 0,.int .i64 1,.int .i64 2,.int .i64 3,.int .i64 4,.int .i64 5] 3)).grown hg (by intro e;injection e;omega);have hS:=Lib.hid hs;have hO:=Lib.hid ((HO6.out.trans (onlyIn.of_below ((Below.refl _ _).alloc (Nat.le_refl _) _))).trans (onlyIn.of_grown hg (by simp)));have eu:=hU.at_ (i:=2) rfl;have fu:=hU.free 2;have HU:=Lib.hid hU;clear hs hg hU)
     have HU7:Hid (Blk (x6.setCell ⟨ub,2,none⟩ (.int .i64 r2)) ub 50 #[.int .i64 r0,.int .i64 r1,.int .i64 r2,.int .i64 u3,.int .i64 u4,.int .i64 u5]):=Lib.hid (by simpa using HU.out.put 2 (.int .i64 r2))
     have HO7:Hid (onlyIn [g] wr (x6.setCell ⟨ub,2,none⟩ (.int .i64 r2))):=Lib.hid (hO.out.far (grown_setCell (grown_refl x6 (some ub)) 2 _) (by intro x hx;injection hx;omega))
     have HS7:Hid (Src (x6.setCell ⟨ub,2,none⟩ (.int .i64 r2)) g (.slice A xs.length c) xs.length):=Lib.hid (hS.out.grown (grown_setCell (grown_refl x6 (some ub)) 2 _) (by intro e;injection e;omega))
     clear hu HK hS hO eu fu HU HU6 HO6 HS6
     generalize x6.setCell ⟨ub,2,none⟩ (.int .i64 r2)=W7 at *
     have hu:=HU7.out.at_ (i:=3) rfl
     have HK:Hid (Calls Tryz.prog 21 #[.pointer (some ⟨g,0,none⟩),.slice (some ⟨W7.heap.size,0,none⟩) 9 9] (W7.alloc (.cells #[.int .i64 u3,.int .i64 0,.int .i64 1,.int .i64 2,.int .i64 3,.int .i64 4,.int .i64 8,.int .i64 10,.int .i64 11] 3)) (RetChoose (W7.alloc (.cells #[.int .i64 u3,.int .i64 0,.int .i64 1,.int .i64 2,.int .i64 3,.int .i64 4,.int .i64 8,.int .i64 10,.int .i64 11] 3)) g (.slice A xs.length c) xs.length [u3,0,1,2,3,4,8,10,11])) :=
      Lib.hid (choose_any _ g _ xs (HVW.out _ ((HM.out.oi.trans (HO7.out.more (by simp))).trans (onlyIn.of_below ((Below.refl _ _).alloc (Nat.le_refl _) _)))) (HS7.out.alloc _) [u3,0,1,2,3,4,8,10,11] ⟨W7.heap.size,0,none⟩ 9 (fun j y hy => (Ints.of_own (own_new W7 3 [u3,0,1,2,3,4,8,10,11] (by simp)) |> fun h => by obtain ⟨_,_,hv,_,_,_,h4⟩:=h;cases hv;obtain ⟨_,e,_,hc⟩:=h4 j y hy;cases e;exact hc)) (by have:=HO7.out.2.2.2.1;simp;omega) (by simp) (by simp))
     go_upto_region 15 with (go_at_call 21;refine HK.out.mono ?_;rintro e x7 ⟨r3,rfl,hr3,hs,hg⟩;have hU:=(HU7.out.alloc (.cells #[.int .i64 u3,.int .i64 0,.int .i64 1,.int .i64 2,.int .i64 3,.int .i64 4,.int .i64 8,.int .i64 10,.int .i64 11] 3)).grown hg (by intro e;injection e;omega);have hS:=Lib.hid hs;have hO:=Lib.hid ((HO7.out.trans (onlyIn.of_below ((Below.refl _ _).alloc (Nat.le_refl _) _))).trans (onlyIn.of_grown hg (by simp)));have eu:=hU.at_ (i:=3) rfl;have fu:=hU.free 3;have HU:=Lib.hid hU;clear hs hg hU)
     have HU8:Hid (Blk (x7.setCell ⟨ub,3,none⟩ (.int .i64 r3)) ub 50 #[.int .i64 r0,.int .i64 r1,.int .i64 r2,.int .i64 r3,.int .i64 u4,.int .i64 u5]):=Lib.hid (by simpa using HU.out.put 3 (.int .i64 r3))
     have HO8:Hid (onlyIn [g] wr (x7.setCell ⟨ub,3,none⟩ (.int .i64 r3))):=Lib.hid (hO.out.far (grown_setCell (grown_refl x7 (some ub)) 3 _) (by intro x hx;injection hx;omega))
     have HS8:Hid (Src (x7.setCell ⟨ub,3,none⟩ (.int .i64 r3)) g (.slice A xs.length c) xs.length):=Lib.hid (hS.out.grown (grown_setCell (grown_refl x7 (some ub)) 3 _) (by intro e;injection e;omega))
     clear hu HK hS hO eu fu HU HU7 HO7 HS7
     generalize x7.setCell ⟨ub,3,none⟩ (.int .i64 r3)=W8 at *
     have hu:=HU8.out.at_ (i:=4) rfl
     have HK:Hid (Calls Tryz.prog 21 #[.pointer (some ⟨g,0,none⟩),.slice (some ⟨W8.heap.size,0,none⟩) 9 9] (W8.alloc (.cells #[.int .i64 u4,.int .i64 0,.int .i64 1,.int .i64 2,.int .i64 3,.int .i64 6,.int .i64 7,.int .i64 9,.int .i64 10] 3)) (RetChoose (W8.alloc (.cells #[.int .i64 u4,.int .i64 0,.int .i64 1,.int .i64 2,.int .i64 3,.int .i64 6,.int .i64 7,.int .i64 9,.int .i64 10] 3)) g (.slice A xs.length c) xs.length [u4,0,1,2,3,6,7,9,10])) :=
      Lib.hid (choose_any _ g _ xs (HVW.out _ ((HM.out.oi.trans (HO8.out.more (by simp))).trans (onlyIn.of_below ((Below.refl _ _).alloc (Nat.le_refl _) _)))) (HS8.out.alloc _) [u4,0,1,2,3,6,7,9,10] ⟨W8.heap.size,0,none⟩ 9 (fun j y hy => (Ints.of_own (own_new W8 3 [u4,0,1,2,3,6,7,9,10] (by simp)) |> fun h => by obtain ⟨_,_,hv,_,_,_,h4⟩:=h;cases hv;obtain ⟨_,e,_,hc⟩:=h4 j y hy;cases e;exact hc)) (by have:=HO8.out.2.2.2.1;simp;omega) (by simp) (by simp))
     go_upto_region 16 with (go_at_call 21;refine HK.out.mono ?_;rintro e x8 ⟨r4,rfl,hr4,hs,hg⟩;have hU:=(HU8.out.alloc (.cells #[.int .i64 u4,.int .i64 0,.int .i64 1,.int .i64 2,.int .i64 3,.int .i64 6,.int .i64 7,.int .i64 9,.int .i64 10] 3)).grown hg (by intro e;injection e;omega);have hS:=Lib.hid hs;have hO:=Lib.hid ((HO8.out.trans (onlyIn.of_below ((Below.refl _ _).alloc (Nat.le_refl _) _))).trans (onlyIn.of_grown hg (by simp)));have eu:=hU.at_ (i:=4) rfl;have fu:=hU.free 4;have HU:=Lib.hid hU;clear hs hg hU)
     have HU9:Hid (Blk (x8.setCell ⟨ub,4,none⟩ (.int .i64 r4)) ub 50 #[.int .i64 r0,.int .i64 r1,.int .i64 r2,.int .i64 r3,.int .i64 r4,.int .i64 u5]):=Lib.hid (by simpa using HU.out.put 4 (.int .i64 r4))
     have HO9:Hid (onlyIn [g] wr (x8.setCell ⟨ub,4,none⟩ (.int .i64 r4))):=Lib.hid (hO.out.far (grown_setCell (grown_refl x8 (some ub)) 4 _) (by intro x hx;injection hx;omega))
     have HS9:Hid (Src (x8.setCell ⟨ub,4,none⟩ (.int .i64 r4)) g (.slice A xs.length c) xs.length):=Lib.hid (hS.out.grown (grown_setCell (grown_refl x8 (some ub)) 4 _) (by intro e;injection e;omega))
     clear hu HK hS hO eu fu HU HU8 HO8 HS8
     generalize x8.setCell ⟨ub,4,none⟩ (.int .i64 r4)=W9 at *
     have hu:=HU9.out.at_ (i:=5) rfl
     have HK:Hid (Calls Tryz.prog 21 #[.pointer (some ⟨g,0,none⟩),.slice (some ⟨W9.heap.size,0,none⟩) 5 5] (W9.alloc (.cells #[.int .i64 u5,.int .i64 0,.int .i64 1,.int .i64 2,.int .i64 4] 3)) (RetChoose (W9.alloc (.cells #[.int .i64 u5,.int .i64 0,.int .i64 1,.int .i64 2,.int .i64 4] 3)) g (.slice A xs.length c) xs.length [u5,0,1,2,4])) :=
      Lib.hid (choose_any _ g _ xs (HVW.out _ ((HM.out.oi.trans (HO9.out.more (by simp))).trans (onlyIn.of_below ((Below.refl _ _).alloc (Nat.le_refl _) _)))) (HS9.out.alloc _) [u5,0,1,2,4] ⟨W9.heap.size,0,none⟩ 5 (fun j y hy => (Ints.of_own (own_new W9 3 [u5,0,1,2,4] (by simp)) |> fun h => by obtain ⟨_,_,hv,_,_,_,h4⟩:=h;cases hv;obtain ⟨_,e,_,hc⟩:=h4 j y hy;cases e;exact hc)) (by have:=HO9.out.2.2.2.1;simp;omega) (by simp) (by simp))
     go_wp2_with (go_at_call 21;refine HK.out.mono ?_;rintro e x9 ⟨r5,rfl,hr5,hs,hg⟩;have hU:=(HU9.out.alloc (.cells #[.int .i64 u5,.int .i64 0,.int .i64 1,.int .i64 2,.int .i64 4] 3)).grown hg (by intro e;injection e;omega);have hS:=Lib.hid hs;have hO:=Lib.hid ((HO9.out.trans (onlyIn.of_below ((Below.refl _ _).alloc (Nat.le_refl _) _))).trans (onlyIn.of_grown hg (by simp)));have eu:=hU.at_ (i:=5) rfl;have fu:=hU.free 5;have HU:=Lib.hid hU;clear hs hg hU)
     have HU10:Hid (Blk (x9.setCell ⟨ub,5,none⟩ (.int .i64 r5)) ub 50 #[.int .i64 r0,.int .i64 r1,.int .i64 r2,.int .i64 r3,.int .i64 r4,.int .i64 r5]):=Lib.hid (by simpa using HU.out.put 5 (.int .i64 r5))
     have HO10:Hid (onlyIn [g] wr (x9.setCell ⟨ub,5,none⟩ (.int .i64 r5))):=Lib.hid (hO.out.far (grown_setCell (grown_refl x9 (some ub)) 5 _) (by intro x hx;injection hx;omega))
     have HS10:Hid (Src (x9.setCell ⟨ub,5,none⟩ (.int .i64 r5)) g (.slice A xs.length c) xs.length):=Lib.hid (hS.out.grown (grown_setCell (grown_refl x9 (some ub)) 5 _) (by intro e;injection e;omega))
     clear hu HK hS hO eu fu HU HU9 HO9 HS9
     generalize x9.setCell ⟨ub,5,none⟩ (.int .i64 r5)=W10 at *
     go_meet
     case rel =>
      exact ⟨r0,r1,r2,r3,r4,r5,(by have h:=hr0;simp only [List.mem_cons,List.not_mem_nil,or_false] at h;clear hr0 hr1 hr2 hr3 hr4 hr5;omega),(by have h:=hr1;simp only [List.mem_cons,List.not_mem_nil,or_false] at h;clear hr0 hr1 hr2 hr3 hr4 hr5;omega),(by have h:=hr2;simp only [List.mem_cons,List.not_mem_nil,or_false] at h;clear hr0 hr1 hr2 hr3 hr4 hr5;omega),(by have h:=hr3;simp only [List.mem_cons,List.not_mem_nil,or_false] at h;clear hr0 hr1 hr2 hr3 hr4 hr5;omega),(by have h:=hr4;simp only [List.mem_cons,List.not_mem_nil,or_false] at h;clear hr0 hr1 hr2 hr3 hr4 hr5;omega),(by have h:=hr5;simp only [List.mem_cons,List.not_mem_nil,or_false] at h;clear hr0 hr1 hr2 hr3 hr4 hr5;omega),HO10,HS10,HU10⟩
   case rest =>
    obtain ⟨u0,u1,u2,u3,u4,u5,bu0,bu1,bu2,bu3,bu4,bu5,HO5,HS5,HU5⟩:=hcut
    clear HO4 HS4 HU4 hu0 hu1 hu2 hu3 hu4 hu5
    have HK5:=Lib.hid (HM.out.only hgb hbw HO5.out HS5.out)
    go_upto_region 18 with fail
    have hK6:=HK5.out.only hgb hbw (onlyIn.of_below ((Below.refl _ _).alloc (Nat.le_refl _) (.cells #[.int .i64 cc,.int .i64 cc,.int .i64 0] 54))) (HK5.out.src.alloc _)
    have hU6:=HU5.out.alloc (.cells #[.int .i64 cc,.int .i64 cc,.int .i64 0] 54)
    have hX6:=Blk.new wc 54 #[.int .i64 cc,.int .i64 cc,.int .i64 0]
    have hxb:b < wc.heap.size ∧ b < ub:=⟨by have:=HO5.out.2.2.2.1;omega,by omega⟩
    have HK0:=Lib.hid hK6
    have HU0:=Lib.hid hU6
    have HX0:=Lib.hid hX6
    clear hK6 hU6 hX6 HU5 HO5 HS5 HK5 HM
    generalize wc.alloc (.cells #[.int .i64 cc,.int .i64 cc,.int .i64 0] 54)=Y0 at *
    generalize wc.heap.size=xb at *
    obtain ⟨hxb1,hxb2⟩:=hxb
    have hl0:T.category.length ≤ 1000000:=by have:=colN_len HC.out.c0;omega
    have hl1:T.cls.length ≤ 1000000:=by have:=colN_len HC.out.c1;omega
    have hl2:T.joining.length ≤ 1000000:=by have:=colN_len HC.out.c2;omega
    have hl3:T.bidi.length ≤ 1000000:=by have:=colN_len HC.out.c3;omega
    have hl4:T.script.length ≤ 1000000:=by have:=colN_len HC.out.c4;omega
    have hl6:T.ignorable.length ≤ 1000000:=by have:=colN_len HC.out.c6;omega
    have x0:=HX0.out.at_ (i:=0) rfl
    have x1:=HX0.out.at_ (i:=1) rfl
    have x2:=HX0.out.at_ (i:=2) rfl
    have eu:=HU0.out.at_ (i:=0) rfl
    have HA:Hid (Calls Tryz.prog 22 #[.pointer (some ⟨b,0,none⟩),.agg #[.int .i64 cc,.int .i64 cc,.int .i64 0],.int .i64 u0] Y0 (RetAdd Y0 b 0 26 (Tv.cells t) t.c0 T.category cc cc u0)) :=
     Lib.hid (add_any Y0 b 0 26 (Tv.cells t) t.c0 T.category cc cc 0 u0 HK0.out.blk rfl HK0.out.tr.r0.unveil hl0)
    go_upto_region 19 with (go_at_call 22;refine HA.out.mono ?_;intro e Y1 hret;obtain ⟨v0,rfl,hk',hg'⟩:=HK0.out.add0 hgb hbw hret;have HK1:=Lib.hid hk';have HU1:=Lib.hid (HU0.out.grown hg' (by intro e;injection e;omega));have HX1:=Lib.hid (HX0.out.grown hg' (by intro e;injection e;omega));clear hret hk' hg')
    clear x0 x1 x2 eu HA HK0 HU0 HX0
    have x0:=HX1.out.at_ (i:=0) rfl
    have x1:=HX1.out.at_ (i:=1) rfl
    have x2:=HX1.out.at_ (i:=2) rfl
    have eu:=HU1.out.at_ (i:=1) rfl
    have HA:Hid (Calls Tryz.prog 22 #[.pointer (some ⟨b,1,none⟩),.agg #[.int .i64 cc,.int .i64 cc,.int .i64 0],.int .i64 u1] Y1 (RetAdd Y1 b 1 26 (Tv.cells { t with c0:=v0 }) t.c1 T.cls cc cc u1)) :=
     Lib.hid (add_any Y1 b 1 26 (Tv.cells { t with c0:=v0 }) t.c1 T.cls cc cc 0 u1 HK1.out.blk rfl HK1.out.tr.r1.unveil hl1)
    go_upto_region 20 with (go_at_call 22;refine HA.out.mono ?_;intro e Y2 hret;obtain ⟨v1,rfl,hk',hg'⟩:=HK1.out.add1 hgb hbw hret;have HK2:=Lib.hid hk';have HU2:=Lib.hid (HU1.out.grown hg' (by intro e;injection e;omega));have HX2:=Lib.hid (HX1.out.grown hg' (by intro e;injection e;omega));clear hret hk' hg')
    clear x0 x1 x2 eu HA HK1 HU1 HX1
    have x0:=HX2.out.at_ (i:=0) rfl
    have x1:=HX2.out.at_ (i:=1) rfl
    have x2:=HX2.out.at_ (i:=2) rfl
    have eu:=HU2.out.at_ (i:=2) rfl
    have HA:Hid (Calls Tryz.prog 22 #[.pointer (some ⟨b,2,none⟩),.agg #[.int .i64 cc,.int .i64 cc,.int .i64 0],.int .i64 u2] Y2 (RetAdd Y2 b 2 26 (Tv.cells { { t with c0:=v0 } with c1:=v1 }) t.c2 T.joining cc cc u2)) :=
     Lib.hid (add_any Y2 b 2 26 (Tv.cells { { t with c0:=v0 } with c1:=v1 }) t.c2 T.joining cc cc 0 u2 HK2.out.blk rfl HK2.out.tr.r2.unveil hl2)
    go_upto_region 21 with (go_at_call 22;refine HA.out.mono ?_;intro e Y3 hret;obtain ⟨v2,rfl,hk',hg'⟩:=HK2.out.add2 hgb hbw hret;have HK3:=Lib.hid hk';have HU3:=Lib.hid (HU2.out.grown hg' (by intro e;injection e;omega));have HX3:=Lib.hid (HX2.out.grown hg' (by intro e;injection e;omega));clear hret hk' hg')
    clear x0 x1 x2 eu HA HK2 HU2 HX2
    have x0:=HX3.out.at_ (i:=0) rfl
    have x1:=HX3.out.at_ (i:=1) rfl
    have x2:=HX3.out.at_ (i:=2) rfl
    have eu:=HU3.out.at_ (i:=3) rfl
    have HA:Hid (Calls Tryz.prog 22 #[.pointer (some ⟨b,3,none⟩),.agg #[.int .i64 cc,.int .i64 cc,.int .i64 0],.int .i64 u3] Y3 (RetAdd Y3 b 3 26 (Tv.cells { { { t with c0:=v0 } with c1:=v1 } with c2:=v2 }) t.c3 T.bidi cc cc u3)) :=
     Lib.hid (add_any Y3 b 3 26 (Tv.cells { { { t with c0:=v0 } with c1:=v1 } with c2:=v2 }) t.c3 T.bidi cc cc 0 u3 HK3.out.blk rfl HK3.out.tr.r3.unveil hl3)
    go_upto_region 22 with (go_at_call 22;refine HA.out.mono ?_;intro e Y4 hret;obtain ⟨v3,rfl,hk',hg'⟩:=HK3.out.add3 hgb hbw hret;have HK4:=Lib.hid hk';have HU4:=Lib.hid (HU3.out.grown hg' (by intro e;injection e;omega));have HX4:=Lib.hid (HX3.out.grown hg' (by intro e;injection e;omega));clear hret hk' hg')
    clear x0 x1 x2 eu HA HK3 HU3 HX3
    have x0:=HX4.out.at_ (i:=0) rfl
    have x1:=HX4.out.at_ (i:=1) rfl
    have x2:=HX4.out.at_ (i:=2) rfl
    have eu:=HU4.out.at_ (i:=4) rfl
    have HA:Hid (Calls Tryz.prog 22 #[.pointer (some ⟨b,4,none⟩),.agg #[.int .i64 cc,.int .i64 cc,.int .i64 0],.int .i64 u4] Y4 (RetAdd Y4 b 4 26 (Tv.cells { { { { t with c0:=v0 } with c1:=v1 } with c2:=v2 } with c3:=v3 }) t.c4 T.script cc cc u4)) :=
     Lib.hid (add_any Y4 b 4 26 (Tv.cells { { { { t with c0:=v0 } with c1:=v1 } with c2:=v2 } with c3:=v3 }) t.c4 T.script cc cc 0 u4 HK4.out.blk rfl HK4.out.tr.r4.unveil hl4)
    go_upto_region 23 with (go_at_call 22;refine HA.out.mono ?_;intro e Y5 hret;obtain ⟨v4,rfl,hk',hg'⟩:=HK4.out.add4 hgb hbw hret;have HK5:=Lib.hid hk';have HU5:=Lib.hid (HU4.out.grown hg' (by intro e;injection e;omega));have HX5:=Lib.hid (HX4.out.grown hg' (by intro e;injection e;omega));clear hret hk' hg')
    clear x0 x1 x2 eu HA HK4 HU4 HX4
    go_cut [101] from 92 to 101 (fun s wx => ∃ e:Bool,s=.bool e ∧ Hid (KSt Wb g b xs.length (.slice A xs.length c) { { { { { t with c0:=v0 } with c1:=v1 } with c2:=v2 } with c3:=v3 } with c4:=v4 } { { { { { T with category:=more T.category cc u0 } with cls:=more T.cls cc u1 } with joining:=more T.joining cc u2 } with bidi:=more T.bidi cc u3 } with script:=more T.script cc u4 } u6 st wx) ∧ Hid (Blk wx ub 50 #[.int .i64 u0,.int .i64 u1,.int .i64 u2,.int .i64 u3,.int .i64 u4,.int .i64 u5]) ∧ Hid (Blk wx xb 54 #[.int .i64 cc,.int .i64 cc,.int .i64 0]))
    case first =>
     have hN:=HNW.out Y5 12 HK5.out.oi HK5.out.src (by decide) (by decide)
     by_cases h173:cc=173
     ·have n1:(cc == 173)=true:=by simpa using h173
      clear h173
      go_wp2
      go_meet
      case rel => exact ⟨true,rfl,HK5,HU5,HX5⟩
     ·have n1:(cc == 173)=false:=by simpa using h173
      clear h173
      cases wild
      ·go_wp2
       go_meet
       case rel => exact ⟨false,rfl,HK5,HU5,HX5⟩
      ·go_wp2_with (go_at_call 18;refine hN.mono ?_;rintro e Y6 ⟨q6,rfl,q60,q61,hs6,hg6⟩)
       go_meet
       case rel => exact ⟨_,rfl,Lib.hid (HK5.out.only hgb hbw (onlyIn.of_grown hg6 (by simp)) hs6),Lib.hid (HU5.out.grown hg6 (by intro e;injection e;omega)),Lib.hid (HX5.out.grown hg6 (by intro e;injection e;omega))⟩
    case rest =>
     obtain ⟨ig,rfl,HK6,HU6,HX6⟩:=hcut
     clear HK5 HU5 HX5
     go_upto_if 101 with fail
     go_cut [] from 101 to 104 (fun wx => ∃ v6 y,y ≤ 1 ∧ Hid (KSt Wb g b xs.length (.slice A xs.length c) { { { { { { t with c0:=v0 } with c1:=v1 } with c2:=v2 } with c3:=v3 } with c4:=v4 } with c6:=v6 } { { { { { { T with category:=more T.category cc u0 } with cls:=more T.cls cc u1 } with joining:=more T.joining cc u2 } with bidi:=more T.bidi cc u3 } with script:=more T.script cc u4 } with ignorable:=more T.ignorable cc y } u6 st wx) ∧ Hid (Blk wx ub 50 #[.int .i64 u0,.int .i64 u1,.int .i64 u2,.int .i64 u3,.int .i64 u4,.int .i64 u5]))
     case first =>
      cases ig
      ·go_wp2
       go_meet
       case rel =>
        refine ⟨t.c6,0,by omega,Lib.hid ?_,HU6⟩
        have h:more T.ignorable cc 0=T.ignorable:=by simp [more]
        rw [h]
        exact HK6.out
      ·have x0:=HX6.out.at_ (i:=0) rfl
       have x1:=HX6.out.at_ (i:=1) rfl
       have x2:=HX6.out.at_ (i:=2) rfl
       have HA:Hid (Calls Tryz.prog 22 #[.pointer (some ⟨b,6,none⟩),.agg #[.int .i64 cc,.int .i64 cc,.int .i64 0],.int .i64 1] wc (RetAdd wc b 6 26 (Tv.cells { { { { { t with c0:=v0 } with c1:=v1 } with c2:=v2 } with c3:=v3 } with c4:=v4 }) t.c6 T.ignorable cc cc 1)) :=
        Lib.hid (add_any wc b 6 26 (Tv.cells { { { { { t with c0:=v0 } with c1:=v1 } with c2:=v2 } with c3:=v3 } with c4:=v4 }) t.c6 T.ignorable cc cc 0 1 HK6.out.blk rfl HK6.out.tr.r6.unveil hl6)
       go_wp2_with (go_at_call 22;refine HA.out.mono ?_;intro e Y7 hret;obtain ⟨v6,rfl,hk',hg'⟩:=HK6.out.add6 hgb hbw hret;have HK7:=Lib.hid hk';have HU7:=Lib.hid (HU6.out.grown hg' (by intro e;injection e;omega));clear hret hk' hg')
       go_meet
       case rel => exact ⟨v6,1,by omega,HK7,HU7⟩
     case rest =>
      obtain ⟨v6,y6,hy6,HK7,HU7⟩:=hcut
      clear HK6 HU6 HX6
      have eu:=HU7.out.at_ (i:=5) rfl
      obtain ⟨i0,hi,hz0,hz1,hz2⟩:=info_parts Tryz.infoInt'
      have hst:st.length ≤ 28:=by have:=HC.out.len;omega
      go_wp2_with (at_builtin;refine wpList_append_lies _ (by rfl) (.tmp 105) (.tmp 108) 22 (by rfl) Wb.heap.size 3 i0 (.int .i64 0) 1 8 Tryz.underlying22 hi hz0 hz1 hz2 rfl (by decide) u6 st.length (st.map (Value.int .i64)) (by rfl) (HK7.out.st.alloc _) ⟨wc.heap.size,0,none⟩ 1 1 [.int .i64 u5] (by rfl) rfl (World.news_of_block (cs:=#[.int .i64 u5]) (heap_alloc_new wc _)) (by simp [Value.oneCell']) (by decide) (by unfold maxLen;omega) (by omega) (by have:=HK7.out.oi.2.2.2.1;simp;omega) (wc.heap.size + 1) (by simp) ?_;intro sg scap Y8 hown8 hg8 hl8 _;have HOW8:=Lib.hid hown8;have HG8:=Lib.hid hg8;have HL8:=Lib.hid hl8;clear hown8 hg8 hl8)
      go_roundg (27 - k)
      case measure => omega
      case rel =>
       refine ⟨k + 1,{ { { { { { t with c0:=v0 } with c1:=v1 } with c2:=v2 } with c3:=v3 } with c4:=v4 } with c6:=v6 },{ { { { { { T with category:=more T.category cc u0 } with cls:=more T.cls cc u1 } with joining:=more T.joining cc u2 } with bidi:=more T.bidi cc u3 } with script:=more T.script cc u4 } with ignorable:=more T.ignorable cc y6 },st ++ [u5],by go_num,by omega,Lib.hid (HK7.out.status (Y:=wc.alloc (.cells #[.int .i64 u5] 3)) hgb hbw (onlyIn.of_below ((Below.refl _ _).alloc (Nat.le_refl _) _)) HG8.out ?_ (by simpa using HOW8.out)),Lib.hid ?_⟩
       ·intro q hq
        simp only [Value.ownBlock,Option.some.injEq] at hq
        subst hq
        rcases HL8.out with e | e
        ·exact .inl e
        ·exact .inr (by simpa using e)
       ·obtain ⟨h0,h1,h2,h3,h4,h6,hln,hss,hre,hem⟩:=HC.out
        refine ⟨colN_more h0 HCC.out (by omega),colN_more h1 HCC.out (by omega),colN_more h2 HCC.out (by omega),colN_more h3 HCC.out (by omega),colN_more h4 HCC.out (by omega),colN_more h6 HCC.out (by omega),by simp [hln],?_,hre,hem⟩
        intro y hy
        rcases List.mem_append.1 hy with hy | hy
        ·exact hss y hy
        ·rw [List.mem_singleton] at hy;subst hy;omega
  ·have hk28:k=28:=by omega
   subst hk28
   obtain ⟨t0,t1,t2,t3,t4,t5,t6,t7,t8,t9,t10,t11⟩:=t
   obtain ⟨T0,T1,T2,T3,T4,T5,T6,T7,T8,T9,T10,T11⟩:=T
   obtain ⟨h0,h1,h2,h3,h4,h6,hln,hss,hre,hem⟩:=HC.out
   simp only at h0 h1 h2 h3 h4 h6 hre hem
   obtain ⟨rfl,rfl,rfl,rfl,rfl,rfl⟩:=hre
   obtain ⟨rfl,rfl,rfl,rfl,rfl,rfl⟩:=hem
   obtain ⟨sb,cap,hu6,hsb,hrow⟩:∃ sb cap,u6=.slice (some ⟨sb,0,none⟩) 28 cap ∧ Wb.heap.size ≤ sb ∧ StRow wr sb 0 st:=by
    have hst:=HM.out.st
    rcases hst.2 with ⟨_,hn⟩ | ⟨q,cap,cur,rfl,hq,hgq,hnc,_,hcs,htk⟩
    ·omega
    ·refine ⟨q,cap,by rw [hln],hq,cur,hgq,fun j y _ hy => ?_⟩
     have h1:(cur.toList.take (st.length * 1))[j]?=some (.int .i64 y):=by rw [htk,List.getElem?_map,hy];rfl
     have hjl:=(List.getElem?_eq_some_iff.1 hy).1
     rw [List.getElem?_take,if_pos (by omega)] at h1
     simpa using h1
   subst hu6
   have HROW:=Lib.hid hrow
   have HSS:=Lib.hid hss
   have HLN:=Lib.hid hln
   have H0:=Lib.hid h0;have H1:=Lib.hid h1;have H2:=Lib.hid h2;have H3:=Lib.hid h3;have H4:=Lib.hid h4;have H6:=Lib.hid h6
   have HDC:=Lib.hid (decomps_any wr g b (.slice A xs.length c) xs t0 t1 t2 t3 t4 (.slice none 0 0) t6 (.slice none 0 0) (.slice none 0 0) (.slice none 0 0) (HVW.out wr HM.out.oi) HM.out.src HM.out.blk hgb)
   clear hrow hss hln h0 h1 h2 h3 h4 h6 HC
   go_upto_region 28 with (go_at_call 23;refine HDC.out.mono ?_;rintro e wd ⟨v9,v10,D,X,rfl,hbd,hm9,hx10,hdn,hsd,hod⟩;have HBD:=Lib.hid hbd;have HM9:=Lib.hid hm9;have HX10:=Lib.hid hx10;have HDN:=Lib.hid hdn;have HSD:=Lib.hid hsd;have HOD:=Lib.hid hod;clear hbd hm9 hx10 hdn hsd hod)
   have hwr:Wb.heap.size ≤ wr.heap.size:=HM.out.oi.2.2.2.1
   have hsbr:sb < wr.heap.size:=(HM.out.st.lt sb rfl).2
   have hrd:StRow wd sb 0 st:=by
    obtain ⟨cs,q1,q2⟩:=HROW.out
    exact ⟨cs,HOD.out.blk q1 (by simp;omega),q2⟩
   have hTD:=(HM.out.tr.reveil (onlyIn_reveil HOD.out fun x hx => List.mem_append_left _ hx)).more HOD.out.2.2.2.1
   have HTD:=Lib.hid hTD
   have HMP:=Lib.hid (keepMaps_any wd g b sb (.slice A xs.length c) xs t0 t1 t2 t3 t4 t6 (.slice none 0 0) v9 v10 (.slice none 0 0) st cap (HVW.out wd (HM.out.oi.trans HOD.out)) HSD.out HBD.out hgb (by omega) hrd HSS.out HLN.out)
   clear hrd hTD HDC
   go_upto_region 29 with (go_at_call 24;refine HMP.out.mono ?_;rintro e wm ⟨v5,v8,Sx,M,rfl,hbm,hs5,hm8,hmn,hsm,hom⟩;have HBM:=Lib.hid hbm;have HS5:=Lib.hid hs5;have HM8:=Lib.hid hm8;have HMN:=Lib.hid hmn;have HSM:=Lib.hid hsm;have HOM:=Lib.hid hom;clear hbm hs5 hm8 hmn hsm hom)
   have hod3:onlyIn [g,b,sb] wr wd:=HOD.out.more (by intro x hx;simp at hx ⊢;omega)
   have hTP:TabR (veil [g,b] wm) wm.heap.size ⟨t0,t1,t2,t3,t4,v5,t6,.slice none 0 0,v8,v9,v10,.slice none 0 0⟩ ⟨T0,T1,T2,T3,T4,Sx,T6,[],M,D,X,[]⟩:=by
    have k1:∀ (p:Addr) (x:Value),p.block < wd.heap.size → p.block ∉ [g,b] ++ (Value.slice (some ⟨sb,0,none⟩) 28 cap).ownBlock.toList → wd.cell? p=some x → p.block ∉ [g,b] ∧ wm.cell? p=some x:=fun p x hp hn hx => by
     have hn3:p.block ∉ [g,b,sb]:=by simp [Value.ownBlock] at hn ⊢;exact hn
     exact ⟨fun h => hn (List.mem_append_left _ h),(onlyIn_reveil (S1:=[g,b,sb]) HOM.out (fun _ h => h) p x hp hn3 hx).2⟩
    have k2:∀ (p:Addr) (x:Value),p.block < wd.heap.size → p.block ∉ List.range wr.heap.size → wd.cell? p=some x → p.block ∉ [g,b] ∧ wm.cell? p=some x:=fun p x hp hn hx => by
     have hbl:wr.heap.size ≤ p.block:=by simpa using hn
     have hn3:p.block ∉ [g,b,sb]:=by simp;omega
     exact ⟨by simp;omega,(onlyIn_reveil (S1:=[g,b,sb]) HOM.out (fun _ h => h) p x hp hn3 hx).2⟩
    have ht:=(HTD.out.reveil k1).more HOM.out.2.2.2.1
    exact ⟨ht.r0,ht.r1,ht.r2,ht.r3,ht.r4,HS5.out,ht.r6,Mapps.none_,HM8.out,(HM9.out.reveil k2).more HOM.out.2.2.2.1,(HX10.out.reveil k2).more HOM.out.2.2.2.1,Mapps.none_⟩
   have hwd:=HOD.out.2.2.2.1
   have hom2:onlyIn [g,b] Wb wm:=by
    have h1:onlyIn [g,b,sb] Wb wm:=((HM.out.oi.trans HOD.out).more (by intro x hx;simp at hx ⊢;omega)).trans HOM.out
    exact ⟨h1.1,h1.2.1,h1.2.2.1,h1.2.2.2.1,fun q hq hl => h1.2.2.2.2 q (by simp at hq ⊢;omega) hl⟩
   have HOm2:=Lib.hid hom2
   have HPR:=Lib.hid (prototypes_any wm g b (.slice A xs.length c) xs ⟨t0,t1,t2,t3,t4,v5,t6,.slice none 0 0,v8,v9,v10,.slice none 0 0⟩ ⟨T0,T1,T2,T3,T4,Sx,T6,[],M,D,X,[]⟩ (HVW.out wm hom2) HSM.out HBM.out hgb hTP)
   clear hom2 hTP hod3 HMP HTD HS5 HM8 HM9 HX10 HROW HSS HLN HM HBD HSD HOD HBM HSM HOM
   go_upto_region 30 with (go_at_call 25;refine HPR.out.mono ?_;rintro e wp ⟨v11,P,rfl,hbp,htp,hpl,hig,hsp,hop⟩;have HBP:=Lib.hid hbp;have HTP:=Lib.hid htp;have HPL:=Lib.hid hpl;have HIG:=Lib.hid hig;have HSP:=Lib.hid hsp;have HOP:=Lib.hid (HOm2.out.trans hop);clear hbp htp hpl hig hsp hop)
   have hN:=HNW.out wp 2 HOP.out HSP.out (by decide) (by decide)
   go_upto_if 120 with (go_at_call 18;refine hN.mono ?_;rintro e wn ⟨qn,rfl,qn0,qn1,hsn,hgn⟩;have HBN:=Lib.hid (HBP.out.grown hgn (by intro e;injection e;omega));have HON:=Lib.hid (HOP.out.trans (onlyIn.of_grown hgn (by simp)));have HTN:=Lib.hid ((HTP.out.reveil (onlyIn_reveil (onlyIn.of_grown hgn (by simp:g ∈ [g,b])) fun x hx => hx)).more hgn.size);clear hsn hgn)
   go_cut [] from 120 to 124 (fun wx => ∃ v7 E,Hid (E=[] ∨ E=[(12539,[7,8])]) ∧ Hid (Blk wx b 26 #[t0,t1,t2,t3,t4,v5,t6,v7,v8,v9,v10,v11]) ∧ Hid (TabR (veil [g,b] wx) wx.heap.size ⟨t0,t1,t2,t3,t4,v5,t6,v7,v8,v9,v10,v11⟩ ⟨T0,T1,T2,T3,T4,Sx,T6,E,M,D,X,P⟩) ∧ Hid (onlyIn [g,b] Wb wx))
   case first =>
    by_cases hq:qn=0
    ·have n1:(qn == 0)=true:=by simpa using hq
     clear hq
     have hbn:=(HBN.out.alloc (.cells #[.int .i64 7,.int .i64 8] 3)).alloc (.cells #[.int .i64 12539,.slice (some ⟨wn.heap.size,0,none⟩) 2 2] 61)
     have e7:=hbn.at_ (i:=7) rfl
     have f7:=hbn.free 7
     have HBN2:=Lib.hid hbn
     clear hbn
     go_wp2
     go_meet
     case rel =>
      have hbl:Below wn.heap.size wn ((wn.alloc (.cells #[.int .i64 7,.int .i64 8] 3)).alloc (.cells #[.int .i64 12539,.slice (some ⟨wn.heap.size,0,none⟩) 2 2] 61)):=((Below.refl _ _).alloc (Nat.le_refl _) _).alloc (by simp) _
      have hset:=grown_setCell (grown_refl ((wn.alloc (.cells #[.int .i64 7,.int .i64 8] 3)).alloc (.cells #[.int .i64 12539,.slice (some ⟨wn.heap.size,0,none⟩) 2 2] 61)) (some b)) 7 (.slice (some ⟨wn.heap.size + 1,0,none⟩) 1 1)
      have hbn0:b < wn.heap.size:=HBN.out.lt
      have ho:onlyIn [g,b] wn (((wn.alloc (.cells #[.int .i64 7,.int .i64 8] 3)).alloc (.cells #[.int .i64 12539,.slice (some ⟨wn.heap.size,0,none⟩) 2 2] 61)).setCell ⟨b,7,none⟩ (.slice (some ⟨wn.heap.size + 1,0,none⟩) 1 1)):=(onlyIn.of_below hbl).trans (onlyIn.of_grown hset (by simp))
      have ht:=(HTN.out.reveil (onlyIn_reveil ho fun x hx => hx)).more ho.2.2.2.1
      have hk5:Blk (((wn.alloc (.cells #[.int .i64 7,.int .i64 8] 3)).alloc (.cells #[.int .i64 12539,.slice (some ⟨wn.heap.size,0,none⟩) 2 2] 61)).setCell ⟨b,7,none⟩ (.slice (some ⟨wn.heap.size + 1,0,none⟩) 1 1)) wn.heap.size 3 (([7,8]:List Int).map (Value.int .i64)).toArray:=Blk.far ((Blk.new wn 3 #[.int .i64 7,.int .i64 8]).alloc (.cells #[.int .i64 12539,.slice (some ⟨wn.heap.size,0,none⟩) 2 2] 61)) (by simp;omega) _
      have hk6:Blk (((wn.alloc (.cells #[.int .i64 7,.int .i64 8] 3)).alloc (.cells #[.int .i64 12539,.slice (some ⟨wn.heap.size,0,none⟩) 2 2] 61)).setCell ⟨b,7,none⟩ (.slice (some ⟨wn.heap.size + 1,0,none⟩) 1 1)) (wn.heap.size + 1) 61 (mpCells [((12539:Int),.slice (some ⟨wn.heap.size,0,none⟩) 2 2)]).toArray:=Blk.far (by have h:=Blk.new (wn.alloc (.cells #[.int .i64 7,.int .i64 8] 3)) 61 #[.int .i64 12539,.slice (some ⟨wn.heap.size,0,none⟩) 2 2];simpa [mpCells] using h) (by simp;omega) _
      have h7:Mapps (veil [g,b] (((wn.alloc (.cells #[.int .i64 7,.int .i64 8] 3)).alloc (.cells #[.int .i64 12539,.slice (some ⟨wn.heap.size,0,none⟩) 2 2] 61)).setCell ⟨b,7,none⟩ (.slice (some ⟨wn.heap.size + 1,0,none⟩) 1 1))) (((wn.alloc (.cells #[.int .i64 7,.int .i64 8] 3)).alloc (.cells #[.int .i64 12539,.slice (some ⟨wn.heap.size,0,none⟩) 2 2] 61)).setCell ⟨b,7,none⟩ (.slice (some ⟨wn.heap.size + 1,0,none⟩) 1 1)).heap.size (.slice (some ⟨wn.heap.size + 1,0,none⟩) 1 1) [(12539,[7,8])] :=
       Mapps.of_blk (D:=[(12539,[7,8])]) hk6 (by simp;omega) (by simp) rfl fun i p d hp hd => by
        match i,hp,hd with
        | 0,hp,hd => cases hp;cases hd;exact Ints.of_blk hk5 (by simp;omega) (by simp)
        | _ + 1,hp,hd => simp at hp
      refine ⟨_,[(12539,[7,8])],Lib.hid (.inr rfl),Lib.hid (by simpa using HBN2.out.put 7 (.slice (some ⟨wn.heap.size + 1,0,none⟩) 1 1)),Lib.hid ?_,Lib.hid (HON.out.trans ho)⟩
      exact ⟨ht.r0,ht.r1,ht.r2,ht.r3,ht.r4,ht.r5,ht.r6,h7,ht.r8,ht.r9,ht.r10,ht.r11⟩
    ·have n1:(qn == 0)=false:=by simpa using hq
     clear hq
     go_wp2
     go_meet
     case rel => exact ⟨_,[],Lib.hid (.inl rfl),HBN,HTN,HON⟩
   case rest =>
    obtain ⟨v7,E,HE,HBX,HTX,HOX⟩:=hcut
    obtain ⟨A0,k0,(rfl:t0=_),_⟩:=HTX.out.r0
    obtain ⟨A1,k1,(rfl:t1=_),_⟩:=HTX.out.r1
    obtain ⟨A2,k2,(rfl:t2=_),_⟩:=HTX.out.r2
    obtain ⟨A3,k3,(rfl:t3=_),_⟩:=HTX.out.r3
    obtain ⟨A4,k4,(rfl:t4=_),_⟩:=HTX.out.r4
    obtain ⟨A5,k5,(rfl:v5=_),_⟩:=HTX.out.r5
    obtain ⟨A6,k6,(rfl:t6=_),_⟩:=HTX.out.r6
    obtain ⟨A7,k7,(rfl:v7=_),_⟩:=HTX.out.r7
    obtain ⟨A8,k8,(rfl:v8=_),_⟩:=HTX.out.r8
    obtain ⟨A9,k9,(rfl:v9=_),_⟩:=HTX.out.r9
    obtain ⟨A10,k10,(rfl:v10=_),_⟩:=HTX.out.r10
    obtain ⟨A11,k11,(rfl:v11=_),_⟩:=HTX.out.r11
    have hrx:Blk wc w0.heap.size 26 #[.slice none 0 0,.slice none 0 0,.slice none 0 0,.slice none 0 0,.slice none 0 0,.slice none 0 0,.slice none 0 0,.slice none 0 0,.slice none 0 0,.slice none 0 0,.slice none 0 0,.slice none 0 0]:=HOX.out.blk HRb.out (by simp;omega)
    obtain ⟨x0,x1,x2,x3,x4,x5,x6,x7,x8,x9,x10,x11⟩:=HBX.out.tab
    obtain ⟨y0,y1,y2,y3,y4,y5,y6,y7,y8,y9,y10,y11⟩:=hrx.tab
    have HRX:=Lib.hid hrx
    have fr:=hrx.free
    clear hrx
    go_wp2
    have hg:wc.grownBy ((((((((((((wc.setCell ⟨w0.heap.size,0,none⟩ (.slice A0 T0.length k0)).setCell ⟨w0.heap.size,1,none⟩ (.slice A1 T1.length k1)).setCell ⟨w0.heap.size,2,none⟩ (.slice A2 T2.length k2)).setCell ⟨w0.heap.size,3,none⟩ (.slice A3 T3.length k3)).setCell ⟨w0.heap.size,4,none⟩ (.slice A4 T4.length k4)).setCell ⟨w0.heap.size,5,none⟩ (.slice A5 Sx.length k5)).setCell ⟨w0.heap.size,6,none⟩ (.slice A6 T6.length k6)).setCell ⟨w0.heap.size,7,none⟩ (.slice A7 E.length k7)).setCell ⟨w0.heap.size,8,none⟩ (.slice A8 M.length k8)).setCell ⟨w0.heap.size,9,none⟩ (.slice A9 D.length k9)).setCell ⟨w0.heap.size,10,none⟩ (.slice A10 X.length k10)).setCell ⟨w0.heap.size,11,none⟩ (.slice A11 P.length k11)) (some w0.heap.size):=(grown_setCell (grown_setCell (grown_setCell (grown_setCell (grown_setCell (grown_setCell (grown_setCell (grown_setCell (grown_setCell (grown_setCell (grown_setCell (grown_setCell (grown_refl wc (some w0.heap.size)) 0 (.slice A0 T0.length k0)) 1 (.slice A1 T1.length k1)) 2 (.slice A2 T2.length k2)) 3 (.slice A3 T3.length k3)) 4 (.slice A4 T4.length k4)) 5 (.slice A5 Sx.length k5)) 6 (.slice A6 T6.length k6)) 7 (.slice A7 E.length k7)) 8 (.slice A8 M.length k8)) 9 (.slice A9 D.length k9)) 10 (.slice A10 X.length k10)) 11 (.slice A11 P.length k11))
    have hbf:Blk ((((((((((((wc.setCell ⟨w0.heap.size,0,none⟩ (.slice A0 T0.length k0)).setCell ⟨w0.heap.size,1,none⟩ (.slice A1 T1.length k1)).setCell ⟨w0.heap.size,2,none⟩ (.slice A2 T2.length k2)).setCell ⟨w0.heap.size,3,none⟩ (.slice A3 T3.length k3)).setCell ⟨w0.heap.size,4,none⟩ (.slice A4 T4.length k4)).setCell ⟨w0.heap.size,5,none⟩ (.slice A5 Sx.length k5)).setCell ⟨w0.heap.size,6,none⟩ (.slice A6 T6.length k6)).setCell ⟨w0.heap.size,7,none⟩ (.slice A7 E.length k7)).setCell ⟨w0.heap.size,8,none⟩ (.slice A8 M.length k8)).setCell ⟨w0.heap.size,9,none⟩ (.slice A9 D.length k9)).setCell ⟨w0.heap.size,10,none⟩ (.slice A10 X.length k10)).setCell ⟨w0.heap.size,11,none⟩ (.slice A11 P.length k11)) w0.heap.size 26 #[.slice A0 T0.length k0,.slice A1 T1.length k1,.slice A2 T2.length k2,.slice A3 T3.length k3,.slice A4 T4.length k4,.slice A5 Sx.length k5,.slice A6 T6.length k6,.slice A7 E.length k7,.slice A8 M.length k8,.slice A9 D.length k9,.slice A10 X.length k10,.slice A11 P.length k11]:=by have h:=((((((((((((HRX.out.put 0 (.slice A0 T0.length k0)).put 1 (.slice A1 T1.length k1)).put 2 (.slice A2 T2.length k2)).put 3 (.slice A3 T3.length k3)).put 4 (.slice A4 T4.length k4)).put 5 (.slice A5 Sx.length k5)).put 6 (.slice A6 T6.length k6)).put 7 (.slice A7 E.length k7)).put 8 (.slice A8 M.length k8)).put 9 (.slice A9 D.length k9)).put 10 (.slice A10 X.length k10)).put 11 (.slice A11 P.length k11));simpa using h
    have hwc:=HOX.out.2.2.2.1
    have hbelc:=HBB.out wc HOX.out
    have hbelF:Below w0.heap.size w0 ((((((((((((wc.setCell ⟨w0.heap.size,0,none⟩ (.slice A0 T0.length k0)).setCell ⟨w0.heap.size,1,none⟩ (.slice A1 T1.length k1)).setCell ⟨w0.heap.size,2,none⟩ (.slice A2 T2.length k2)).setCell ⟨w0.heap.size,3,none⟩ (.slice A3 T3.length k3)).setCell ⟨w0.heap.size,4,none⟩ (.slice A4 T4.length k4)).setCell ⟨w0.heap.size,5,none⟩ (.slice A5 Sx.length k5)).setCell ⟨w0.heap.size,6,none⟩ (.slice A6 T6.length k6)).setCell ⟨w0.heap.size,7,none⟩ (.slice A7 E.length k7)).setCell ⟨w0.heap.size,8,none⟩ (.slice A8 M.length k8)).setCell ⟨w0.heap.size,9,none⟩ (.slice A9 D.length k9)).setCell ⟨w0.heap.size,10,none⟩ (.slice A10 X.length k10)).setCell ⟨w0.heap.size,11,none⟩ (.slice A11 P.length k11)):=hbelc.grown hg (by omega) (fun q hq => by injection hq;omega)
    have htc:=HTX.out.apart (no_int HRX.out (by simp))
    have htF:TabR ((((((((((((wc.setCell ⟨w0.heap.size,0,none⟩ (.slice A0 T0.length k0)).setCell ⟨w0.heap.size,1,none⟩ (.slice A1 T1.length k1)).setCell ⟨w0.heap.size,2,none⟩ (.slice A2 T2.length k2)).setCell ⟨w0.heap.size,3,none⟩ (.slice A3 T3.length k3)).setCell ⟨w0.heap.size,4,none⟩ (.slice A4 T4.length k4)).setCell ⟨w0.heap.size,5,none⟩ (.slice A5 Sx.length k5)).setCell ⟨w0.heap.size,6,none⟩ (.slice A6 T6.length k6)).setCell ⟨w0.heap.size,7,none⟩ (.slice A7 E.length k7)).setCell ⟨w0.heap.size,8,none⟩ (.slice A8 M.length k8)).setCell ⟨w0.heap.size,9,none⟩ (.slice A9 D.length k9)).setCell ⟨w0.heap.size,10,none⟩ (.slice A10 X.length k10)).setCell ⟨w0.heap.size,11,none⟩ (.slice A11 P.length k11)) ((((((((((((wc.setCell ⟨w0.heap.size,0,none⟩ (.slice A0 T0.length k0)).setCell ⟨w0.heap.size,1,none⟩ (.slice A1 T1.length k1)).setCell ⟨w0.heap.size,2,none⟩ (.slice A2 T2.length k2)).setCell ⟨w0.heap.size,3,none⟩ (.slice A3 T3.length k3)).setCell ⟨w0.heap.size,4,none⟩ (.slice A4 T4.length k4)).setCell ⟨w0.heap.size,5,none⟩ (.slice A5 Sx.length k5)).setCell ⟨w0.heap.size,6,none⟩ (.slice A6 T6.length k6)).setCell ⟨w0.heap.size,7,none⟩ (.slice A7 E.length k7)).setCell ⟨w0.heap.size,8,none⟩ (.slice A8 M.length k8)).setCell ⟨w0.heap.size,9,none⟩ (.slice A9 D.length k9)).setCell ⟨w0.heap.size,10,none⟩ (.slice A10 X.length k10)).setCell ⟨w0.heap.size,11,none⟩ (.slice A11 P.length k11)).heap.size ⟨.slice A0 T0.length k0,.slice A1 T1.length k1,.slice A2 T2.length k2,.slice A3 T3.length k3,.slice A4 T4.length k4,.slice A5 Sx.length k5,.slice A6 T6.length k6,.slice A7 E.length k7,.slice A8 M.length k8,.slice A9 D.length k9,.slice A10 X.length k10,.slice A11 P.length k11⟩ ⟨T0,T1,T2,T3,T4,Sx,T6,E,M,D,X,P⟩:=by
     refine TabR.unveil (S:=[]) ((htc.reveil fun p x hp hn hx => ⟨by simp,?_⟩).more hg.size)
     have e:=hg.block p.block hp (fun e => hn (by injection e with e;rw [e];exact List.mem_cons_self))
     unfold World.cell? at hx ⊢
     rw [e];exact hx
    have HBF:=Lib.hid hbelF
    have HTF:=Lib.hid htF
    obtain ⟨z0,z1,z2,z3,z4,z5,z6,z7,z8,z9,z10,z11⟩:=hbf.tab
    clear hg hbf hbelF htF htc hbelc x0 x1 x2 x3 x4 x5 x6 x7 x8 x9 x10 x11 y0 y1 y2 y3 y4 y5 y6 y7 y8 y9 y10 y11 fr
    generalize ((((((((((((wc.setCell ⟨w0.heap.size,0,none⟩ (.slice A0 T0.length k0)).setCell ⟨w0.heap.size,1,none⟩ (.slice A1 T1.length k1)).setCell ⟨w0.heap.size,2,none⟩ (.slice A2 T2.length k2)).setCell ⟨w0.heap.size,3,none⟩ (.slice A3 T3.length k3)).setCell ⟨w0.heap.size,4,none⟩ (.slice A4 T4.length k4)).setCell ⟨w0.heap.size,5,none⟩ (.slice A5 Sx.length k5)).setCell ⟨w0.heap.size,6,none⟩ (.slice A6 T6.length k6)).setCell ⟨w0.heap.size,7,none⟩ (.slice A7 E.length k7)).setCell ⟨w0.heap.size,8,none⟩ (.slice A8 M.length k8)).setCell ⟨w0.heap.size,9,none⟩ (.slice A9 D.length k9)).setCell ⟨w0.heap.size,10,none⟩ (.slice A10 X.length k10)).setCell ⟨w0.heap.size,11,none⟩ (.slice A11 P.length k11))=WF at *
    have hmade:Made ⟨T0,T1,T2,T3,T4,Sx,T6,E,M,D,X,P⟩:=⟨H0.out,H1.out,H2.out,H3.out,H4.out,H6.out,HDN.out,HMN.out,HE.out,HPL.out,HIG.out⟩
    exact bodyPost_ret (v:=Tv.val ⟨.slice A0 T0.length k0,.slice A1 T1.length k1,.slice A2 T2.length k2,.slice A3 T3.length k3,.slice A4 T4.length k4,.slice A5 Sx.length k5,.slice A6 T6.length k6,.slice A7 E.length k7,.slice A8 M.length k8,.slice A9 D.length k9,.slice A10 X.length k10,.slice A11 P.length k11⟩) (by simp [results,Tryz.results4,go_sem,z0,z1,z2,z3,z4,z5,z6,z7,z8,z9,z10,z11]) rfl ⟨⟨.slice A0 T0.length k0,.slice A1 T1.length k1,.slice A2 T2.length k2,.slice A3 T3.length k3,.slice A4 T4.length k4,.slice A5 Sx.length k5,.slice A6 T6.length k6,.slice A7 E.length k7,.slice A8 M.length k8,.slice A9 D.length k9,.slice A10 X.length k10,.slice A11 P.length k11⟩,⟨T0,T1,T2,T3,T4,Sx,T6,E,M,D,X,P⟩,rfl,HTF.out,hmade,HBF.out⟩
end Go.Proofs.YtjafpikjpipbkaaGreatDoor
