/-
  Merged texts: lemmas and walks that the last text of this claim leans on.
-/
import Derived.Shelf.Spec.SlicesInsertGrow
import Derived.Shelf.Strings.LastIndex
import Derived.Test.YtjafpikjpipbkaaGreatDoorProg
import Derived.Test.YtjafpikjpipbkaaGreatDoorMgTS1
import Derived.WalkKit
import Derived.Test.YtjafpikjpipbkaaGreatDoorMgTS16
import Derived.Test.YtjafpikjpipbkaaGreatDoorMgTS4
import Derived.Test.YtjafpikjpipbkaaGreatDoorMgTS9
import Derived.Test.YtjafpikjpipbkaaGreatDoorMgTS17
import Derived.Test.YtjafpikjpipbkaaGreatDoorMgTS18
import Derived.Test.YtjafpikjpipbkaaGreatDoorMgTS2
import Derived.Test.YtjafpikjpipbkaaGreatDoorMgTS3
import Derived.Test.YtjafpikjpipbkaaGreatDoorMgTS5
import Derived.Test.YtjafpikjpipbkaaGreatDoorMgTS6
import Derived.Test.YtjafpikjpipbkaaGreatDoorMgTS7
import Derived.Test.YtjafpikjpipbkaaGreatDoorMgTS8
import Derived.Test.YtjafpikjpipbkaaGreatDoorMgTS10
import Derived.Test.YtjafpikjpipbkaaGreatDoorMgTS11
import Derived.Test.YtjafpikjpipbkaaGreatDoorMgTS12
import Derived.Test.YtjafpikjpipbkaaGreatDoorMgTS13
import Derived.Test.YtjafpikjpipbkaaGreatDoorMgTS14
import Derived.Test.YtjafpikjpipbkaaGreatDoorMgTS15
import Derived.Test.YtjafpikjpipbkaaGreatDoorMgTS19
import Derived.Test.YtjafpikjpipbkaaGreatDoorMgTS20
import Derived.Test.YtjafpikjpipbkaaGreatDoorMgTS21
import Derived.Test.YtjafpikjpipbkaaGreatDoorMgTS22
import Derived.Test.YtjafpikjpipbkaaGreatDoorMgTS23
import Derived.Test.YtjafpikjpipbkaaGreatDoorMgTS24
import Derived.Test.YtjafpikjpipbkaaGreatDoorMgTS25
import Derived.Test.YtjafpikjpipbkaaGreatDoorMgTS26
set_option maxRecDepth 100000
set_option maxHeartbeats 40000000
namespace Go.Proofs
open Go.Shelf
def Tryz.lays2_21_ren:Go.Shelf.Ren:=⟨fun | 21 => 143 | 27 => 175 | 28 => 176 | 35 => 200 | 39 => 219 | n => n,fun | 22 => 22 | 3 => 3 | 4 => 4 | 0 => 0 | n => n,fun | n => n⟩
theorem Tryz.lays2_21:Go.Proofs.Lays2.n21 Tryz.prog Tryz.lays2_21_ren:={
 mixed:=by kernel_rfl
 f21:=Tryz.func143.trans (congrArg some (by kernel_rfl))
 f27:=Tryz.func175.trans (congrArg some (by kernel_rfl))
 f28:=Tryz.func176.trans (congrArg some (by kernel_rfl))
 f35:=Tryz.func200.trans (congrArg some (by kernel_rfl))
 f39:=Tryz.func219.trans (congrArg some (by kernel_rfl))
 t0:=Tryz.underlying0
 a0:=Tryz.isAgg0
 z0:=Tryz.sizeOf0
 v0:=Tryz.zeroValue0
 t3:=Tryz.underlying3
 a3:=Tryz.isAgg3
 z3:=Tryz.sizeOf3
 v3:=Tryz.zeroValue3
 t4:=Tryz.underlying4
 a4:=Tryz.isAgg4
 z4:=Tryz.sizeOf4
 v4:=Tryz.zeroValue4
 t22:=Tryz.underlying22
 a22:=Tryz.isAgg22
 z22:=Tryz.sizeOf22
 v22:=Tryz.zeroValue22
 i3:=by kernel_rfl }
def Tryz.lays149_ren:Go.Shelf.Ren:=⟨fun | 149 => 141 | 222 => 172 | n => n,fun | 9 => 9 | 5 => 5 | 3 => 3 | 4 => 4 | n => n,fun | n => n⟩
theorem Tryz.lays149:Go.Proofs.Lays.n149 Tryz.prog Tryz.lays149_ren:={
 mixed:=by kernel_rfl
 f149:=Tryz.func141.trans (congrArg some (by kernel_rfl))
 f222:=Tryz.func172.trans (congrArg some (by kernel_rfl))
 t3:=Tryz.underlying3
 a3:=Tryz.isAgg3
 z3:=Tryz.sizeOf3
 v3:=Tryz.zeroValue3
 t4:=Tryz.underlying4
 a4:=Tryz.isAgg4
 z4:=Tryz.sizeOf4
 v4:=Tryz.zeroValue4
 t5:=Tryz.underlying5
 a5:=Tryz.isAgg5
 z5:=Tryz.sizeOf5
 v5:=Tryz.zeroValue5
 t9:=Tryz.underlying9
 a9:=Tryz.isAgg9
 z9:=Tryz.sizeOf9
 v9:=Tryz.zeroValue9 }
open Go.RowKit Go.Lib in
theorem Tryz.strings_LastIndexByte (s:ByteArray) (c:Int) (hs:s.size < 4611686018427387904) (w:World) :
  Calls Tryz.prog 141 #[.string s,.int .u8 c] w fun e w' => e=.returned (.int .i64 (Lib.lastIndexByte s c)) ∧ w'=w:=Any.strings_LastIndexByte Tryz.lays149 s c hs w
end Go.Proofs
namespace Go.Proofs.YtjafpikjpipbkaaGreatDoor
open Go.RowKit
theorem setCells_setRow (b:Nat) (t:TypeId) (fz:Nat × Nat):∀ (vs:List Value) (o:Nat) (w:World) (cur:Array Value),w.heap[b]?=some (.cells cur t fz) → o + vs.length ≤ cur.size →
  w.setCells b o vs=w.setRow b (cur.toList.take o ++ vs ++ cur.toList.drop (o + vs.length)).toArray
 | [],o,w,cur,hg,_ => by
   simp only [World.setCells,List.append_nil,List.length_nil,Nat.add_zero,List.take_append_drop,Array.toArray_toList]
   rw [setRow_self w b cur t fz hg]
 | v :: r,o,w,cur,hg,hl => by
   have ih:=setCells_setRow b t fz r (o + 1) (w.setRow b (cur.setIfInBounds o v)) (cur.setIfInBounds o v) (setRow_heap w b cur _ t _ hg) (by simp at hl ⊢;omega)
   rw [World.setCells,setCell_eq_setRow w b o cur t fz v hg,ih,setRow_setRow]
   congr 2
   have e:=list_seg_step cur.toList o v r (by simp at hl ⊢;omega)
   simpa [Array.toList_setIfInBounds,Nat.add_assoc] using e
theorem below_setRow_w {B b:Nat} {a w:World} (hb:B ≤ b) (h:Below B a w) (cs:Array Value):Below B a (w.setRow b cs):=by
 refine h.trans ⟨rfl,rfl,rfl,by simp [World.setRow],fun k hk => setRow_other w b k cs (by omega)⟩
variable {w:World}
theorem ownsRow_setRow {B g cap n:Nat} {e:TypeId} {cur cs:Array Value} (hb:B ≤ g) (hg:w.heap[g]?=some (.cells cur e (0,0))) (hs:cs.size=cur.size) (hc:cur.size=cap * 1) (hn:n ≤ cap) (hm:cap ≤ maxLen) {xs:List Value} (hx:cs.toList.take n=xs) (hl:xs.length=n) :
  (w.setRow g cs).ownsRow B e 1 (.slice (some ⟨g,0,none⟩) n cap) n xs :=
 ⟨by rw [hl,Nat.mul_one],.inr ⟨g,cap,cs,rfl,hb,setRow_heap w g cur cs e _ hg,hn,hm,by rw [hs,hc],by rw [Nat.mul_one];exact hx⟩⟩
theorem ownsRow_new {B cap n:Nat} {e:TypeId} {arr:Array Value} {xs:List Value} (hB:B ≤ w.heap.size) (hs:arr.size=cap) (hn:n ≤ cap) (hm:cap ≤ maxLen) (hx:arr.toList.take n=xs) (hl:xs.length=n) :
  (w.alloc (.cells arr e)).ownsRow B e 1 (.slice (some ⟨w.heap.size,0,none⟩) n cap) n xs :=
 ⟨by rw [hl,Nat.mul_one],.inr ⟨_,cap,arr,rfl,hB,heap_alloc_new w _,hn,hm,by rw [hs,Nat.mul_one],by rw [Nat.mul_one];exact hx⟩⟩
theorem seg_end (L:List Value) (n:Nat) (x:Value) (h:n + 1 ≤ L.length):(L.take n ++ [x] ++ L.drop (n + 1)).take (n + 1)=L.take n ++ [x]:=by
 rw [List.take_append_of_le_length (by simp;omega),List.take_of_length_le (by simp;omega)]
theorem seg_grow (L:List Value) (i:Nat) (x:Value) (D:List Value) (R:List Value) (h:i + 1 ≤ L.length):((L.take i ++ [x] ++ L.drop (i + 1)).take (i + 1) ++ D ++ R).take (i + 1 + D.length)=L.take i ++ [x] ++ D:=by
 rw [seg_end L i x h,List.take_append_of_le_length (by simp;omega),List.take_of_length_le (by simp;omega)]
theorem seg_shift (L:List Value) (i:Nat) (x:Value) (D:List Value) (R:List Value) (h:i + 1 ≤ L.length):((L.take (i + 1) ++ D ++ R).take i ++ [x] ++ (L.take (i + 1) ++ D ++ R).drop (i + 1)).take (i + 1 + D.length)=L.take i ++ [x] ++ D:=by
 have e1:(L.take (i + 1) ++ D ++ R).take i=L.take i:=by
  rw [List.append_assoc,List.take_append_of_le_length (by simp;omega),List.take_take]
  congr 1;omega
 have e2:(L.take (i + 1) ++ D ++ R).drop (i + 1)=D ++ R:=by
  rw [List.append_assoc,List.drop_append_of_le_length (by simp;omega),List.drop_of_length_le (by simp;omega),List.nil_append]
 rw [e1,e2,← List.append_assoc,List.take_append_of_le_length (by simp;omega),List.take_of_length_le (by simp;omega)]
theorem insert_own (B:Nat) (v:Value) (xs:List Int) (x:Int) (i:Nat) (hB:B ≤ w.heap.size) (hown:w.ownsRow B 3 1 v xs.length (xs.map (Value.int .i64))) (hi:i ≤ xs.length) (hl:xs.length ≤ 100000) :
  Calls Tryz.prog 143 #[v,.int .i64 i,.slice (some ⟨w.heap.size,0,none⟩) 1 1] (w.alloc (.cells #[.int .i64 x] 3)) fun e w' =>
   ∃ v',e=.returned v' ∧ w'.ownsRow B 3 1 v' (xs.length + 1) ((xs.take i ++ [x] ++ xs.drop i).map (Value.int .i64)) ∧ Below B w w':=by
 have hW:(w.alloc (.cells #[.int .i64 x] 3)).heap.size=w.heap.size + 1:=by simp
 have hnew:=heap_alloc_new w (.cells #[.int .i64 x] 3)
 have hbw:Below B w (w.alloc (.cells #[.int .i64 x] 3)):=(Below.refl _ w).alloc hB _
 have hvs:∀ j u,[Value.int .i64 x][j]?=some u → (w.alloc (.cells #[.int .i64 x] 3)).cell? ⟨w.heap.size,0 + j,none⟩=some u:=by
  intro j u hu
  rw [cell_of_row _ w.heap.size (0 + j) _ _ _ hnew,Nat.zero_add]
  simpa using hu
 have ren3:Tryz.lays2_21_ren.t 3=3:=rfl
 have h1v:∀ u ∈ [Value.int .i64 x],u.oneCell'=true:=by intro u hu;simp at hu;subst hu;rfl
 have h1c:∀ u ∈ xs.map (Value.int .i64),u.oneCell'=true:=by intro u hu;simp at hu;obtain ⟨y,_,rfl⟩:=hu;rfl
 have hlen:((xs.take i ++ [x] ++ xs.drop i).map (Value.int .i64)).length=xs.length + 1:=by simp;omega
 rcases hown.2 with ⟨rfl,h0⟩ | ⟨g,cap,cur,rfl,hbg,hg,hnc,hcm,hcs,ht⟩
 ·obtain rfl:xs=[]:=List.eq_nil_of_length_eq_zero h0
  obtain rfl:i=0:=by simpa using hi
  refine (Any2.slices_Insert_int_end_grow Tryz.lays2_21 none 0 0 w.heap.size 0 1 1 [] [.int .i64 x] _ (by omega) (by omega) (by omega) (by omega) rfl rfl (fun _ => rfl) (by simp) hvs h1v).mono ?_
  rintro e w' ⟨rfl,rfl⟩
  rw [ren3]
  refine ⟨_,rfl,ownsRow_new (w:=(w.alloc (.cells #[.int .i64 x] 3)).drew) (by show B ≤ (w.alloc (.cells #[.int .i64 x] 3)).heap.size;omega) ?_ (grownCap_ge _ _ _ _) (grownCap_le_maxLen _ _ _ _ (by unfold maxLen;omega)) ?_ rfl,(hbw.drew).alloc (by show B ≤ (w.alloc (.cells #[.int .i64 x] 3)).heap.size;omega) _⟩
  ·have hge:=grownCap_ge (w.alloc (.cells #[.int .i64 x] 3)) (0 + 1) 0 3
   generalize grownCap (w.alloc (.cells #[.int .i64 x] 3)) (0 + 1) 0 3=C at hge ⊢
   simp [size_zeroCells,Value.cells]
   omega
  ·simp
 ·obtain ⟨n,hn⟩:∃ n,n=xs.length:=⟨_,rfl⟩
  obtain ⟨cs,hcsE⟩:∃ cs,cs=xs.map (Value.int .i64):=⟨_,rfl⟩
  have hcl:cs.length=n:=by rw [hcsE,hn];simp
  rw [← hcsE] at ht h1c
  rw [← hn,Nat.mul_one] at ht
  rw [← hn] at hi hl hlen hnc ⊢
  have hres:(xs.take i ++ [x] ++ xs.drop i).map (Value.int .i64)=cs.take i ++ [.int .i64 x] ++ cs.drop i:=by rw [hcsE];simp [List.map_take,List.map_drop]
  rw [hres] at hlen ⊢
  clear hres hcsE hn hown
  rw [Nat.mul_one] at hcs
  have hgl:g < w.heap.size:=(Array.getElem?_eq_some_iff.1 hg).1
  have hg':(w.alloc (.cells #[.int .i64 x] 3)).heap[g]?=some (.cells cur 3 (0,0)):=by rw [Below.heap_alloc w _ g hgl];exact hg
  have hce:∀ j u,cs[j]?=some u → (w.alloc (.cells #[.int .i64 x] 3)).cell? ⟨g,0 + j,none⟩=some u:=by
   intro j u hu
   rw [cell_of_row _ g (0 + j) cur _ _ hg',Nat.zero_add]
   rw [← ht,List.getElem?_take] at hu
   split at hu
   ·simpa using hu
   ·cases hu
  have hcap:cap ≤ 9223372036854775807:=by unfold maxLen at hcm;omega
  have hLt:cur.toList.take n=cs:=ht
  have hLl:cur.toList.length=cap:=by simpa using hcs
  have hti:cur.toList.take i=cs.take i:=by rw [← hLt,List.take_take];congr 1;omega
  have hdl:(cs.drop i).length=n - i:=by rw [List.length_drop,hcl]
  by_cases hin:i=n
  ·subst hin
   by_cases hroom:i + 1 ≤ cap
   ·refine (Any2.slices_Insert_int_end_room Tryz.lays2_21 g 0 i cap w.heap.size 0 1 1 [.int .i64 x] _ (by omega) hroom hcap rfl ?_ ?_ hvs h1v).mono ?_
    ·intro j hj;rw [cell_of_row _ g _ cur _ _ hg',Array.getElem?_eq_getElem (by omega)];rfl
    ·intro j hj;simp [World.frozen?,hg']
    ·rintro e w' ⟨rfl,rfl⟩
     rw [setCells_setRow g _ _ _ _ _ cur hg' (by simp;omega)]
     refine ⟨_,rfl,ownsRow_setRow hbg hg' (by simp only [List.size_toArray,List.length_append,List.length_take,List.length_drop,List.length_singleton];omega) (by omega) hroom hcm ?_ hlen,below_setRow_w hbg hbw _⟩
     rw [List.drop_of_length_le (l:=cs) (by omega),List.append_nil]
     simp only [Nat.zero_add,List.length_singleton]
     rw [seg_end _ _ _ (by omega),hti]
   ·refine (Any2.slices_Insert_int_end_grow Tryz.lays2_21 (some ⟨g,0,none⟩) i cap w.heap.size 0 1 1 cs [.int .i64 x] _ (by omega) hnc (by omega) (by omega) hcl rfl (by simp) ?_ hvs h1v).mono ?_
    ·rintro a ha j u hu
     cases ha
     have:=hce j u hu
     rw [Addr.add_lit,← Nat.zero_add j];simpa using this
    ·rintro e w' ⟨rfl,rfl⟩
     rw [ren3]
     refine ⟨_,rfl,ownsRow_new (w:=(w.alloc (.cells #[.int .i64 x] 3)).drew) (by show B ≤ (w.alloc (.cells #[.int .i64 x] 3)).heap.size;omega) ?_ (grownCap_ge _ _ _ _) (grownCap_le_maxLen _ _ _ _ (by unfold maxLen;omega)) ?_ hlen,(hbw.drew).alloc (by show B ≤ (w.alloc (.cells #[.int .i64 x] 3)).heap.size;omega) _⟩
     ·have hge:=grownCap_ge (w.alloc (.cells #[.int .i64 x] 3)) (i + 1) cap 3
      generalize grownCap (w.alloc (.cells #[.int .i64 x] 3)) (i + 1) cap 3=C at hge ⊢
      simp [size_zeroCells,Value.cells,hcl]
      omega
     ·rw [List.drop_of_length_le (l:=cs) (by omega),List.append_nil,List.take_of_length_le (l:=cs) (by omega),Array.toList_append,List.take_append_of_le_length (by simp [hcl])]
      rw [List.take_of_length_le (by simp [hcl])]
  ·by_cases hroom:n + 1 ≤ cap
   ·refine (Any2.slices_Insert_int_shift Tryz.lays2_21 g 0 n cap i w.heap.size 0 1 1 cs [.int .i64 x] _ (by omega) (by omega) hroom hcap (by omega) hcl rfl hce ?_ ?_ hvs h1c h1v 3 3 1 cap ?_ ?_ (by omega) ?_ ?_).mono ?_
    ·intro j hj;rw [cell_of_row _ g _ cur _ _ hg',Array.getElem?_eq_getElem (by omega)];rfl
    ·intro j hj;simp [World.frozen?,hg']
    ·unfold World.shape?;rw [hnew];rfl
    ·unfold World.shape?;rw [hg',← hcs]
    ·unfold World.frozen?;rw [hnew];rfl
    ·unfold World.frozen?;rw [hnew];rfl
    ·rintro e w' ⟨rfl,rfl⟩
     have hg2:(w.alloc (.cells #[.int .i64 x] 3)).drew.heap[g]?=some (.cells cur 3 (0,0)):=hg'
     rw [setCells_setRow g _ _ _ _ _ cur hg2 (by rw [hdl];omega),setCells_setRow g _ _ _ _ _ _ (setRow_heap _ g cur _ _ _ hg2) (by simp [hdl];omega),setRow_setRow]
     refine ⟨_,rfl,ownsRow_setRow hbg hg2 (by simp [hdl];omega) (by omega) hroom hcm ?_ hlen,below_setRow_w hbg hbw.drew _⟩
     have e1:n + 1=i + 1 + (cs.drop i).length:=by rw [hdl];omega
     simp only [Nat.zero_add,List.length_singleton]
     rw [e1,seg_shift _ _ _ _ _ (by omega),hti]
   ·refine (Any2.slices_Insert_int_grow Tryz.lays2_21 g 0 n cap i w.heap.size 0 1 1 cs [.int .i64 x] _ (by omega) (by omega) hnc (by omega) (by omega) hcl rfl hce hvs h1c h1v).mono ?_
    rintro e w' ⟨rfl,rfl⟩
    rw [ren3]
    have hge:=grownCap_ge (w.alloc (.cells #[.int .i64 x] 3)) (n + 1) cap 3
    have hgm:=grownCap_le_maxLen (w.alloc (.cells #[.int .i64 x] 3)) (n + 1) cap 3 (by unfold maxLen;omega)
    generalize grownCap (w.alloc (.cells #[.int .i64 x] 3)) (n + 1) cap 3=C at hge hgm ⊢
    obtain ⟨ROW,hR⟩:∃ ROW:Array Value,ROW=(cs.take i).toArray ++ Builtin.zeroCells (Value.int .i64 0).cells (n + 1 - i) ++ Builtin.zeroCells (Value.int .i64 0).cells (C - (n + 1)):=⟨_,rfl⟩
    rw [← hR]
    have hRs:ROW.size=C:=by
     rw [hR];simp only [Array.size_append,size_zeroCells,List.size_toArray,List.length_take,hcl]
     simp [Value.cells];omega
    have hRi:ROW.toList.take i=cs.take i:=by
     rw [hR];simp only [Array.toList_append,List.append_assoc]
     rw [List.take_append_of_le_length (by simp [hcl];omega),List.take_of_length_le (by simp;omega)]
    have hRl:ROW.toList.length=C:=by simpa using hRs
    have hg1:((w.alloc (.cells #[.int .i64 x] 3)).alloc (.cells ROW 3)).drew.heap[(w.alloc (.cells #[.int .i64 x] 3)).heap.size]?=some (.cells ROW 3 (0,0)):=heap_alloc_new _ _
    rw [setCells_setRow _ _ _ _ _ _ ROW hg1 (by simp;omega)]
    have hg2:=setRow_heap _ _ _ (ROW.toList.take i ++ [Value.int .i64 x] ++ ROW.toList.drop (i + [Value.int .i64 x].length)).toArray _ _ hg1
    have hb3:Below B w (((w.alloc (.cells #[.int .i64 x] 3)).alloc (.cells ROW 3)).drew.setRow (w.alloc (.cells #[.int .i64 x] 3)).heap.size (ROW.toList.take i ++ [Value.int .i64 x] ++ ROW.toList.drop (i + [Value.int .i64 x].length)).toArray).drew:=(below_setRow_w (by omega) ((hbw.alloc (by omega) _).drew) _).drew
    generalize hV:(((w.alloc (.cells #[.int .i64 x] 3)).alloc (.cells ROW 3)).drew.setRow (w.alloc (.cells #[.int .i64 x] 3)).heap.size (ROW.toList.take i ++ [Value.int .i64 x] ++ ROW.toList.drop (i + [Value.int .i64 x].length)).toArray)=V at *
    have hg3:V.drew.heap[(w.alloc (.cells #[.int .i64 x] 3)).heap.size]?=_:=hg2
    rw [setCells_setRow _ _ _ _ _ _ _ hg3 (by simp only [List.size_toArray,List.length_append,List.length_take,List.length_drop,List.length_singleton];omega)]
    refine ⟨_,rfl,ownsRow_setRow (by omega) hg3 (by simp only [List.size_toArray,List.length_append,List.length_take,List.length_drop,List.length_singleton];omega) (by simp only [List.size_toArray,List.length_append,List.length_take,List.length_drop,List.length_singleton];omega) hge hgm ?_ hlen,below_setRow_w (by omega) hb3 _⟩
    have e1:n + 1=i + 1 + (cs.drop i).length:=by rw [hdl];omega
    simp only [List.length_singleton]
    rw [e1,seg_grow _ _ _ _ _ (by omega),hRi]
end Go.Proofs.YtjafpikjpipbkaaGreatDoor
namespace Go.Proofs.YtjafpikjpipbkaaGreatDoor
open Go.RowKit ND
def RetPD (w:World) (n:Nat) (e:Ending) (w':World):Prop:=∃ (v:Value) (xs:List Int) (k:Int),e=.returned (.tuple #[v,.int .i64 k]) ∧ w'.ownsRow w.heap.size 3 1 v xs.length (xs.map (Value.int .i64)) ∧ xs.length ≤ n ∧ Below w.heap.size w w'
theorem RetPD.nil {w w':World} {n:Nat} (k:Int) (h:Below w.heap.size w w'):RetPD w n (.returned (.tuple #[.slice none 0 0,.int .i64 k])) w':=⟨_,[],k,rfl,World.ownsRow_nil _ _ _ _,Nat.zero_le _,h⟩
theorem own_stay {w w':World} {B:Nat} {e:TypeId} {k:Nat} {v:Value} {n:Nat} {xs:List Value} (h:w.ownsRow B e k v n xs) (hb:Below w.heap.size w w'):w'.ownsRow B e k v n xs:=by
 refine ⟨h.1,?_⟩
 rcases h.2 with hn | ⟨g,cap,cur,rfl,h1,h2,rest⟩
 ·exact .inl hn
 ·exact .inr ⟨g,cap,cur,rfl,h1,by rw [hb.block g (Array.getElem?_eq_some_iff.1 h2).1];exact h2,rest⟩
def strLen:Value → Nat
 | .string s => s.size
 | _ => 0
theorem ownsRow_shape {w:World} {B:Nat} {e:TypeId} {k:Nat} {v:Value} {n:Nat} {xs:List Value} (h:w.ownsRow B e k v n xs):∃ A c,v=.slice A n c:=by
 rcases h.2 with ⟨rfl,rfl⟩ | ⟨g,cap,cur,rfl,_⟩
 ·exact ⟨_,_,rfl⟩
 ·exact ⟨_,_,rfl⟩
theorem pdecode_any (s:ByteArray) (w:World) (hs63:s.size ≤ 1000000):Calls Tryz.prog 103 #[.string s] w (RetPD w 2048):=by
 obtain ⟨i0,hi,hz0,hz1,hz2⟩:=info_parts Tryz.infoInt
 by_cases hs:s.size ≤ 2048
 ·have z1:decide ((2048:Int) < (s.size:Int))=false:=decide_eq_false (by omega)
  have HLI:Hid (Calls Tryz.prog 141 #[.string s,.int .u8 45] w fun e w' => e=.returned (.int .i64 (Lib.lastIndexByte s 45)) ∧ w=w'):=Lib.hid ((Tryz.strings_LastIndexByte s 45 (by omega) w).mono (by rintro e w' ⟨rfl,rfl⟩;exact ⟨rfl,rfl⟩))
  have hb:Lib.lastIndexByte s 45 < (s.size:Int) ∧ -1 ≤ Lib.lastIndexByte s 45:=by
   rcases Lib.lastIdx_spec s 45 s.size with h | ⟨i,h1,h2,_⟩
   ·unfold Lib.lastIndexByte;omega
   ·unfold Lib.lastIndexByte;omega
  generalize Lib.lastIndexByte s 45=q at HLI hb
  obtain ⟨hb1,hb0⟩:=hb
  go_enter Tryz.func103,Tryz.ntmps103
  go_upto_region 5 with (go_at_call 141;refine HLI.out.mono ?_;rintro e w1 ⟨rfl,rfl⟩)
  by_cases hpos:0 < q
  case' pos =>
   have y1:decide (0 < q)=true:=decide_eq_true hpos
   have hpre:(s.extract 0 q.toNat).size=q.toNat:=by simp [ByteArray.size_extract];omega
   obtain ⟨W,cap,hcv,hcell,hbw⟩:∃ W cap,(convert 9 143 (.string (s.extract 0 q.toNat))).run Tryz.prog w=.ok (.slice (some ⟨w.heap.size,0,none⟩) q.toNat cap) W ∧ (∀ j,j < q.toNat → ∃ b:UInt8,W.cell? ⟨w.heap.size,j,none⟩=some (.int .u8 (b.toNat:Int))) ∧ Below w.heap.size w W:=by
    obtain ⟨W,cap,h1,h2,h3⟩:=conv_ownsT (P:=Tryz.prog) w 9 143 5 (s.extract 0 q.toNat) (by omega) Tryz.underlying9 Tryz.underlying143 Tryz.underlying5
    rw [hpre] at h1 h2
    refine ⟨W,cap,h1,fun j hj => ?_,h3⟩
    have hjl:j < (s.extract 0 q.toNat).data.toList.length:=by rw [Array.length_toList];show j < (s.extract 0 q.toNat).size;omega
    have:=ownsT_cells h2 (g:=w.heap.size) rfl j (bv ((s.extract 0 q.toNat).data.toList[j])) (by rw [List.getElem?_map,List.getElem?_eq_getElem hjl];rfl)
    exact ⟨_,by rw [Addr.add_lit] at this;simpa [bv] using this⟩
   have hq0:(0:Int) ≤ q:=by omega
   have hq1:q ≤ (s.size:Int):=by omega
   have hqn:(q.toNat:Int)=q:=by omega
   have HCV:=Lib.hid hcell
   clear hcell hpre
   go_wp2_with fail
   clear hcv
   have hW:=hbw.size
   go_loopw [4,28] (fun o i wr => ∃ (k:Nat) (xs:List Int),k ≤ q.toNat ∧ i=.int .i64 k ∧ xs.length ≤ k ∧ wr.ownsRow W.heap.size 3 1 o xs.length (xs.map (Value.int .i64)) ∧ Below W.heap.size W wr) (fun _ i _ => q.toNat - (intOf i).toNat)
   case atStart => exact ⟨0,[],by omega,rfl,Nat.le_refl _,World.ownsRow_nil _ _ _ _,Below.refl _ _⟩
   case' round =>
    obtain ⟨k,xs,hk,rfl,hxl,hown,hbel⟩:=hrel
    have hB:=hbel.size
    rcases Nat.lt_or_ge k q.toNat with hlt | hge
    ·obtain ⟨b,hb⟩:=HCV.out k hlt
     have hcb:=(hbel.cell (p:=⟨w.heap.size,k,none⟩) (World.block_lt_of_cell? _ _ hb)).trans hb
     have k0:(0:Int) ≤ (k:Int):=by omega
     have k1:(k:Int) < q:=by omega
     have k2:k < q.toNat:=hlt
     have hbl:b.toNat < 256:=b.toNat_lt
     clear hb
     by_cases h128:128 ≤ b.toNat
     ·have y2:decide ((128:Int) ≤ (b.toNat:Int))=true:=decide_eq_true (by omega)
      go_wp2_with fail
      go_ret2
      exact RetPD.nil _ (hbw.trans (hbel.mono hW))
     ·have y2:decide ((128:Int) ≤ (b.toNat:Int))=false:=decide_eq_false (by omega)
      go_wp2_with (at_builtin;refine wpList_append_own _ rfl _ _ 22 rfl W.heap.size 3 i0 (.int .i64 0) 1 8 Tryz.underlying22 hi hz0 hz1 hz2 rfl (by decide) _ _ _ rfl (hown.alloc _) ⟨wr.heap.size,0,none⟩ 1 1 [.int .i64 (b.toNat:Int)] rfl rfl (cell_one_new _ _ _) ?c2 ?c3 ?c4 ?c5 ?_)
      case c2 => intro u hu;simp at hu;subst hu;rfl
      case c3 => unfold maxLen;omega
      case c4 => omega
      case c5 => simp;omega
      intro v' w1 hown1 hgrow _
      have hbel1:Below W.heap.size W w1:=(hbel.alloc hB _).grown hgrow (by simp;omega) (fun k hk => (hown.lt k hk).1)
      clear hgrow hown hbel
      go_wp2_with fail
      go_roundw
      case rel => exact ⟨k + 1,xs ++ [(b.toNat:Int)],by omega,by go_num,by simp;omega,by simpa using hown1,hbel1⟩
      case measure => simp [intOf];omega
    have hkq:k=q.toNat:=by omega
    have z2:(k:Int) < q ↔ False:=⟨fun h => by omega,fun h => h.elim⟩
    have z3:RowKit.wrap64 (q + 1)=q + 1:=by unfold RowKit.wrap64;omega
    have z4:(0:Int) ≤ q + 1:=by omega
    have z5:q + 1 ≤ (s.size:Int):=by omega
    have hbel1:Below w.heap.size w wr:=hbw.trans (hbel.mono hW)
    have hown1:=row_le hown hW
    have hsz:(s.extract (q + 1).toNat s.size).size + xs.length ≤ 2048:=by rw [ByteArray.size_extract];omega
    clear hbel hown HCV hxl
    go_wp2_with fail
    clear hkq z2 z3 z4 z5 hqn hge hk
  case' neg =>
   have y1:decide (0 < q)=false:=decide_eq_false hpos
   have hsz:s.size + ([]:List Int).length ≤ 2048:=hs
   have hown1:w.ownsRow w.heap.size 3 1 (.slice none 0 0) ([]:List Int).length (([]:List Int).map (Value.int .i64)):=World.ownsRow_nil _ _ _ _
   have hbel1:Below w.heap.size w w:=Below.refl _ _
   go_wp2_with fail
  all_goals
   go_loopw [0,4,8,9,10,11] (fun ss o ff nn ii bb wr => ∃ (s2:ByteArray) (xs:List Int) (n i b:Int) (f:Bool),ss=.string s2 ∧ ff=.bool f ∧ nn=.int .i64 n ∧ ii=.int .i64 i ∧ bb=.int .i64 b ∧ s2.size + xs.length ≤ 2048 ∧ 0 ≤ n ∧ n ≤ 1114111 ∧ 0 ≤ i ∧ i ≤ (xs.length:Int) ∧ wr.ownsRow w.heap.size 3 1 o xs.length (xs.map (Value.int .i64)) ∧ Below w.heap.size w wr) (fun ss _ _ _ _ _ _ => strLen ss)
   case atStart => exact ⟨_,_,128,0,72,true,rfl,rfl,rfl,rfl,rfl,hsz,by omega,by omega,by omega,by omega,hown1,hbel1⟩
   case round =>
    obtain ⟨s2,ys,n,i,b,f,rfl,rfl,rfl,rfl,rfl,hsz2,n0,n1,i0',i1,hown2,hbel2⟩:=hrel
    have hB2:=hbel2.size
    obtain ⟨A4,c4,rfl⟩:=ownsRow_shape hown2
    cases hemp:s2.toList.isEmpty
    case' true =>
     go_wp2_with fail
     go_ret2
     exact ⟨_,ys,_,rfl,hown2,by omega,hbel2⟩
    case' false =>
     have HN:=Lib.hid (number_any s2 b wr (by omega))
     go_upto_region 17 with (go_at_call 142;refine HN.out.mono ?_;rintro e w3 ⟨v3,r3,o3,rfl,v30,v31,hr3,b3⟩)
     have hown3:=own_stay hown2 b3
     have hbel3:=hbel2.trans (b3.mono hB2)
     clear hown2 hbel2 b3 HN
     have hB3:=hbel3.size
     cases o3
     ·go_wp2_with fail
      go_ret2
      exact RetPD.nil _ hbel3
     have hr4:=hr3 rfl
     clear hr3
     by_cases hv:v3 ≤ 2147483647
     case' neg =>
      have y2:decide ((2147483647:Int) < v3)=true:=decide_eq_true (by omega)
      go_wp2_with fail
      go_ret2
      exact RetPD.nil _ hbel3
     have y2:decide ((2147483647:Int) < v3)=false:=decide_eq_false (by omega)
     go_upto_region 22 with fail
     have hh0:¬ ((ys.length:Int) + 1=0):=by omega
     have hq0:0 ≤ (v3 + i) / ((ys.length:Int) + 1):=Int.ediv_nonneg (by omega) (by omega)
     have hq1:(v3 + i) / ((ys.length:Int) + 1) ≤ v3 + i:=Int.ediv_le_self _ (by omega)
     have hr0:0 ≤ (v3 + i) % ((ys.length:Int) + 1):=Int.emod_nonneg _ hh0
     have hr1:(v3 + i) % ((ys.length:Int) + 1) < (ys.length:Int) + 1:=Int.emod_lt_of_pos _ (by omega)
     go_quiet (fail)
     obtain ⟨n2,hn2⟩:∃ n2,n2=n + (v3 + i) / ((ys.length:Int) + 1):=⟨_,rfl⟩
     obtain ⟨i2,hi2⟩:∃ i2:Nat,(i2:Int)=(v3 + i) % ((ys.length:Int) + 1):=⟨((v3 + i) % ((ys.length:Int) + 1)).toNat,by omega⟩
     have n20:0 ≤ n2:=by omega
     have i21:i2 ≤ ys.length:=by omega
     rw [← hn2,← hi2]
     clear hn2 hi2 hq0 hq1 hr0 hr1 hh0
     have hown4:=own_stay hown3 (below_drewN (Below.refl _ _) nq)
     have hbel4:=below_drewN hbel3 nq
     clear hown3 hbel3
     generalize w3.drewN nq=w4 at *
     have hB4:=hbel4.size
     by_cases hn3:n2 ≤ 1114111
     case' neg =>
      have y3:decide ((1114111:Int) < n2)=true:=decide_eq_true (by omega)
      go_wp2_with fail
      go_ret2
      exact RetPD.nil _ hbel4
     have y3:decide ((1114111:Int) < n2)=false:=decide_eq_false (by omega)
     have hcl:=Lib.hid (fun W => length_any n2 W)
     by_cases hlc:((lenC n2:Int) == 0)=true
     case' pos =>
      go_wp2_with (go_at_call 43;refine (hcl.out _).mono ?_;rintro e w5 ⟨rfl,rfl⟩)
      go_ret2
      exact RetPD.nil _ hbel4
     have hlc2:((lenC n2:Int) == 0)=false:=by simpa using hlc
     obtain ⟨L,hL⟩:∃ L,L=(lenC n2:Int):=⟨_,rfl⟩
     rw [← hL] at hlc2 hcl
     clear hlc hL
     have HI:=Lib.hid (insert_own (w:=w4) w.heap.size _ ys n2 i2 hB4 hown4 i21 (by omega))
     go_upto_region 28 with (first | (go_at_call 43;refine (hcl.out _).mono ?_;rintro e w5 ⟨rfl,rfl⟩) | (go_at_call 143;refine HI.out.mono ?_;rintro e w6 ⟨v6,rfl,hown6,bb6⟩))
     have hbel6:=hbel4.trans bb6
     clear hown4 hbel4 bb6 HI hcl
     go_wp2_with (go_at_call 144;refine (adapt_any _ _ _ _ (by omega) (by omega) (by omega) (by omega)).mono ?_;rintro e w7 ⟨⟨r,rfl⟩,rfl⟩)
     have hnl:(ys.take i2 ++ [n2] ++ ys.drop i2).length=ys.length + 1:=by simp;omega
     rw [← hnl] at hown6
     exact ⟨⟨r3,_,n2,(i2:Int) + 1,r,false,rfl,rfl,rfl,by go_num,rfl,by omega,n20,hn3,by omega,by omega,hown6,hbel6⟩,by simpa [strLen] using hr4⟩
 ·have z1:decide ((2048:Int) < (s.size:Int))=true:=decide_eq_true (by omega)
  go_enter Tryz.func103,Tryz.ntmps103
  go_wp2_with fail
  go_ret2
  exact RetPD.nil _ (Below.refl _ _)
end Go.Proofs.YtjafpikjpipbkaaGreatDoor
namespace Go.Proofs.YtjafpikjpipbkaaGreatDoor
open Go.RowKit ND
theorem conv_cells {P:Program} (w:World) (src dst e:TypeId) (s:ByteArray) (hl:s.size ≤ 1000000) (hs:P.underlying src=some .string) (hd:P.underlying dst=some (.slice e)) (he:P.underlying e=some (.int .u8)) :
  ∃ W cap,(convert src dst (.string s)).run P w=.ok (.slice (some ⟨w.heap.size,0,none⟩) s.size cap) W ∧ (∀ j,j < s.size → ∃ b:UInt8,W.cell? ⟨w.heap.size,j,none⟩=some (.int .u8 (b.toNat:Int))) ∧ Below w.heap.size w W:=by
 obtain ⟨W,cap,h1,h2,h3⟩:=conv_ownsT (P:=P) w src dst e s hl hs hd he
 refine ⟨W,cap,h1,fun j hj => ?_,h3⟩
 have hjl:j < s.data.toList.length:=by rw [Array.length_toList];exact hj
 have:=ownsT_cells h2 (g:=w.heap.size) rfl j (bv (s.data.toList[j])) (by rw [List.getElem?_map,List.getElem?_eq_getElem hjl];rfl)
 exact ⟨_,by rw [Addr.add_lit] at this;simpa [bv] using this⟩
theorem adecode_any (s:ByteArray) (w:World) (hs:s.size ≤ 100000):Calls Tryz.prog 61 #[.string s] w (RetPD w 2048):=by
 obtain ⟨i0,hi,hz0,hz1,hz2⟩:=info_parts Tryz.infoInt
 cases hemp:s.toList.isEmpty
 case true =>
  go_enter Tryz.func61,Tryz.ntmps61
  go_wp2_with fail
  go_ret2
  exact RetPD.nil _ (Below.refl _ _)
 obtain ⟨W,cap,hcv,hcell,hbw⟩:=conv_cells (P:=Tryz.prog) w 9 143 5 s (by omega) Tryz.underlying9 Tryz.underlying143 Tryz.underlying5
 have HCV:=Lib.hid hcell
 have hl63:s.size ≤ 9223372036854775807:=by omega
 clear hcell
 go_enter Tryz.func61,Tryz.ntmps61
 go_wp2_with fail
 clear hcv
 have hW:=hbw.size
 go_loopw [4,15] (fun o i wr => ∃ (k:Nat) (xs:List Int),k ≤ s.size ∧ i=.int .i64 k ∧ xs.length ≤ k ∧ wr.ownsRow W.heap.size 3 1 o xs.length (xs.map (Value.int .i64)) ∧ Below W.heap.size W wr) (fun _ i _ => s.size - (intOf i).toNat)
 case atStart => exact ⟨0,[],by omega,rfl,Nat.le_refl _,World.ownsRow_nil _ _ _ _,Below.refl _ _⟩
 case round =>
  obtain ⟨k,xs,hk,rfl,hxl,hown,hbel⟩:=hrel
  have hB:=hbel.size
  rcases Nat.lt_or_ge k s.size with hlt | hge
  ·obtain ⟨b,hb⟩:=HCV.out k hlt
   have hcb:=(hbel.cell (p:=⟨w.heap.size,k,none⟩) (World.block_lt_of_cell? _ _ hb)).trans hb
   have k0:(0:Int) ≤ (k:Int):=by omega
   have k1:(k:Int) < (s.size:Int):=by omega
   have hbl:b.toNat < 256:=b.toNat_lt
   clear hb
   by_cases h128:127 < b.toNat
   ·have y2:decide ((127:Int) < (b.toNat:Int))=true:=decide_eq_true (by omega)
    go_wp2_with fail
    go_ret2
    exact RetPD.nil _ (hbw.trans (hbel.mono hW))
   ·have y2:decide ((127:Int) < (b.toNat:Int))=false:=decide_eq_false (by omega)
    go_wp2_with (at_builtin;refine wpList_append_own _ rfl _ _ 22 rfl W.heap.size 3 i0 (.int .i64 0) 1 8 Tryz.underlying22 hi hz0 hz1 hz2 rfl (by decide) _ _ _ rfl (hown.alloc _) ⟨wr.heap.size,0,none⟩ 1 1 [.int .i64 (b.toNat:Int)] rfl rfl (cell_one_new _ _ _) ?c2 ?c3 ?c4 ?c5 ?_)
    case c2 => intro u hu;simp at hu;subst hu;rfl
    case c3 => unfold maxLen;omega
    case c4 => omega
    case c5 => simp;omega
    intro v' w1 hown1 hgrow _
    have hbel1:Below W.heap.size W w1:=(hbel.alloc hB _).grown hgrow (by simp;omega) (fun k hk => (hown.lt k hk).1)
    clear hgrow hown hbel
    go_wp2_with fail
    go_roundw
    case rel => exact ⟨k + 1,xs ++ [(b.toNat:Int)],by omega,by go_num,by simp;omega,by simpa using hown1,hbel1⟩
    case measure => simp [intOf];omega
  have y1:decide ((k:Int) < (s.size:Int))=false:=decide_eq_false (by omega)
  have hbel1:Below w.heap.size w wr:=hbw.trans (hbel.mono hW)
  have hown1:=row_le hown hW
  have hxs:xs.length ≤ s.size:=by omega
  obtain ⟨A4,c4,rfl⟩:=ownsRow_shape hown1
  clear hbel hown HCV hxl
  have hB1:=hbel1.size
  by_cases h63:s.size ≤ 63
  case neg =>
   have y2:decide ((63:Int) < (s.size:Int))=true:=decide_eq_true (by omega)
   go_wp2_with fail
   go_ret2
   exact RetPD.nil _ hbel1
  have y2:decide ((63:Int) < (s.size:Int))=false:=decide_eq_false (by omega)
  have HI:=Lib.hid (is_any s wr (by omega))
  cases hib:isB s
  case false =>
   rw [hib] at HI
   go_wp2_with (go_at_call 60;refine HI.out.mono ?_;rintro e w2 ⟨rfl,b2⟩)
   go_ret2
   exact ⟨_,xs,_,rfl,own_stay hown1 b2,by omega,hbel1.trans (b2.mono hB1)⟩
  rw [hib] at HI
  have h4:(4:Int) ≤ (s.size:Int):=by
   unfold isB at hib
   rw [Bool.and_eq_true] at hib
   have:=of_decide_eq_true hib.1
   omega
  clear hib
  go_upto_region 15 with (go_at_call 60;refine HI.out.mono ?_;rintro e w2 ⟨rfl,b2⟩)
  have hbel2:=hbel1.trans (b2.mono hB1)
  have hB2:=hbel2.size
  clear hown1 hbel1 b2 HI
  have HL:=Lib.hid (lower_any (s.extract 4 s.size) w2 (by simp [ByteArray.size_extract];omega))
  have HD:=Lib.hid (fun W => pdecode_any (lowS (s.extract 4 s.size)) W (by unfold lowS;show ((s.extract 4 s.size).data.toList.map lowU).length ≤ 1000000;rw [List.length_map,Array.length_toList];show (s.extract 4 s.size).size ≤ 1000000;simp [ByteArray.size_extract];omega))
  generalize lowS (s.extract 4 s.size)=ls at *
  go_upto_region 16 with (first | (go_at_call 102;refine HL.out.mono ?_;rintro e w3 ⟨rfl,b3⟩) | (go_at_call 103;refine (HD.out _).mono ?_;rintro e w4 ⟨v4,zs,k4,rfl,hown4,hz4,b4⟩))
  have hbel4:=(hbel2.trans (b3.mono hB2)).trans (b4.mono (by have:=b3.size;omega))
  have hown5:=row_le hown4 (show w.heap.size ≤ w3.heap.size by have:=b3.size;omega)
  clear b3 b4 hown4 HL HD hbel2
  obtain ⟨A5,c5,rfl⟩:=ownsRow_shape hown5
  have hB4:=hbel4.size
  by_cases hk:k4=0
  case neg =>
   have y3:(k4 != 0)=true:=by simpa using hk
   go_wp2_with fail
   go_ret2
   exact RetPD.nil _ hbel4
  have y3:(k4 != 0)=false:=by simpa using hk
  have HA:=Lib.hid (ascii_any _ zs w4 (Ints.of_own hown5))
  have HE:=Lib.hid (aencode_any _ zs w4 (Ints.of_own hown5) (by omega))
  cases hasc:zs.all asciiB
  case true =>
   rw [hasc] at HA
   go_wp2_with (go_at_call 58;refine HA.out.mono ?_;rintro e w5 ⟨rfl,rfl⟩)
   go_ret2
   exact RetPD.nil _ hbel4
  rw [hasc] at HA
  go_upto_region 21 with (first | (go_at_call 58;refine HA.out.mono ?_;rintro e w5 ⟨rfl,rfl⟩) | (go_at_call 104;refine HE.out.mono ?_;rintro e w6 ⟨s6,k6,rfl,hs6,_,b6⟩))
  have hbel6:=hbel4.trans (b6.mono hB4)
  have hown6:=own_stay hown5 b6
  clear b6 hown5 hbel4
  have hB6:=hbel6.size
  by_cases hk6:k6=0
  case neg =>
   have y4:(k6 != 0)=true:=by simpa using hk6
   go_wp2_with fail
   go_ret2
   exact RetPD.nil _ hbel6
  have y4:(k6 != 0)=false:=by simpa using hk6
  have HL2:=Lib.hid (lower_any s w6 (by omega))
  generalize lowS s=l2 at *
  cases hcm:(s6.toList == l2.toList)
  case false =>
   go_wp2_with (go_at_call 102;refine HL2.out.mono ?_;rintro e w7 ⟨rfl,b7⟩)
   go_ret2
   exact RetPD.nil _ (hbel6.trans (b7.mono hB6))
  go_wp2_with (go_at_call 102;refine HL2.out.mono ?_;rintro e w7 ⟨rfl,b7⟩)
  go_ret2
  exact ⟨_,zs,_,rfl,own_stay hown6 b7,hz4,hbel6.trans (b7.mono hB6)⟩
end Go.Proofs.YtjafpikjpipbkaaGreatDoor
namespace Go.Proofs.YtjafpikjpipbkaaGreatDoor
open Go.RowKit ND
theorem encodeL_len (xs:List Int):(encodeL xs).1.length ≤ 16384:=by
 unfold encodeL
 split
 ·simp
 ·split
  ·have:=encAll_len xs;show (encAll xs).length ≤ 16384;omega
  ·simp
def labI (xs:List Int):Bool:=xs.all asciiB && isB ⟨(encodeL xs).1.toArray⟩
def RetLbI (w:World) (u:Value) (xs:List Int) (I:Bool) (P:Prop) (e:Ending) (w':World):Prop :=
 ∃ (v:Value) (ys:List Int) (k:Int),e=.returned (.tuple #[v,.int .i64 k]) ∧ ((v=u ∧ ys=xs) ∨ w'.ownsRow w.heap.size 3 1 v ys.length (ys.map (Value.int .i64))) ∧ ys.length ≤ xs.length + 2048 ∧
  (I=false → k=0 → v=u ∧ ys=xs) ∧ (I=false → P → k=0) ∧ Below w.heap.size w w'
theorem RetLbI.nil {w w':World} {u:Value} {xs:List Int} {I:Bool} {P:Prop} {k:Int} (hk:k ≠ 0) (h:I=false → P → k=0) (hb:Below w.heap.size w w'):RetLbI w u xs I P (.returned (.tuple #[.slice none 0 0,.int .i64 k])) w' :=
 ⟨_,[],_,rfl,.inr (World.ownsRow_nil _ _ _ _),Nat.zero_le _,fun _ h0 => absurd h0 hk,h,hb⟩
theorem RetLbI.ok {w w':World} {u v:Value} {xs ys:List Int} {I:Bool} {P:Prop} (hd:(v=u ∧ ys=xs) ∨ w'.ownsRow w.heap.size 3 1 v ys.length (ys.map (Value.int .i64))) (hl:ys.length ≤ xs.length + 2048) (hf:I=false → v=u ∧ ys=xs) (hb:Below w.heap.size w w'):RetLbI w u xs I P (.returned (.tuple #[v,.int .i64 0])) w' :=
 ⟨_,ys,_,rfl,hd,hl,fun h _ => hf h,fun _ _ => rfl,hb⟩
def RetLb (w:World) (T:Tab) (u:Value) (xs:List Int):Ending → World → Prop:=RetLbI w u xs (labI xs) (GoodV T xs)
theorem label_any (t:Tv) (T:Tab) (v:Value) (xs:List Int) (w:World) (ht:TabR w w.heap.size t T) (hg:Glob w) (hv:Ints w w.heap.size .i64 v xs) :
  Calls Tryz.prog 30 #[t.val,v] w (RetLb w T v xs):=by
 have HB0:Hid (Below w.heap.size w (w.alloc (.cells t.cells 26))):=Lib.hid ((Below.refl _ _).alloc (Nat.le_refl _) _)
 have HT:Hid (Tbl (w.alloc (.cells t.cells 26)) w.heap.size t T):=Lib.hid ⟨Blk.new _ _ _,ht.later HB0.out⟩
 have hv1:=hv.later HB0.out
 have HVI:=Lib.hid hv1
 obtain ⟨A,c,rfl,hc1,hc2,_,hcell⟩:=hv1
 have HG:=Lib.hid (hg.later HB0.out)
 have HA:=Lib.hid (fun W (hu:Ints W W.heap.size .i64 (.slice A xs.length c) xs) => ascii_any _ xs W hu)
 have HE:=Lib.hid (fun W (hu:Ints W W.heap.size .i64 (.slice A xs.length c) xs) => enc_any _ xs W hu)
 have HVC:=Lib.hid (fun u ys W (h:TabR W W.heap.size t T) (hg:Glob W) (hu:Ints W W.heap.size .i64 u ys) => vcheck_any t T u ys W h hg hu)
 clear ht hv hg hcell hc1 hc2
 have hel:=encodeL_len xs
 obtain ⟨I,hI⟩:∃ I,I=labI xs:=⟨_,rfl⟩
 have HI:=Lib.hid hI
 unfold labI at HI
 show Calls _ _ _ _ (RetLbI w (.slice A xs.length c) xs (labI xs) (GoodV T xs))
 rw [← hI]
 clear hI
 obtain ⟨s,hs⟩:∃ s:ByteArray,s=⟨(encodeL xs).1.toArray⟩:=⟨_,rfl⟩
 obtain ⟨ke,hke⟩:∃ ke:Int,ke=((encodeL xs).2:Int):=⟨_,rfl⟩
 unfold RetEnc at HE
 rw [← hs,← hke] at HE
 rw [← hs] at HI
 have hsz:s.size ≤ 16384:=by rw [hs];exact hel
 clear hs hke hel
 have HIS:=Lib.hid (fun W => is_any s W (by omega))
 have HDE:=Lib.hid (fun W => adecode_any s W (by omega))
 obtain ⟨P,hP⟩:∃ P,P=GoodV T xs:=⟨_,rfl⟩
 have HP:=Lib.hid hP
 rw [← hP]
 clear hP
 have hpath:(xs.all asciiB=false ∧ I=false) ∨ (xs.all asciiB=true ∧ isB s=false ∧ I=false) ∨ (xs.all asciiB=true ∧ isB s=true ∧ I=true):=by
  have:=HI.out
  cases h1:xs.all asciiB <;> cases h2:isB s <;> rw [h1,h2] at this <;> simp [this]
 clear HI
 go_enter Tryz.func30,Tryz.ntmps30
 go_upto_region 1 with fail
 generalize w.alloc (.cells t.cells 26)=w1 at *
 have HX:=Lib.hid (HA.out w1 HVI.out)
 rcases hpath with ⟨h1,h2⟩ | ⟨h1,h2,h3⟩ | ⟨h1,h2,h3⟩
 case' inl =>
  rw [h1] at HX
  subst h2
  go_upto_region 8 with (go_at_call 58;refine HX.out.mono ?_;rintro e w2 ⟨rfl,rfl⟩)
  have b1:Below w1.heap.size w1 w1:=Below.refl _ _
  have hu:=HVI.out
 case' inr.inl =>
  rw [h1] at HX
  subst h3
  have HX2:=Lib.hid (HE.out w1 HVI.out)
  go_upto_region 3 with (first | (go_at_call 58;refine HX.out.mono ?_;rintro e w2 ⟨rfl,rfl⟩) | (go_at_call 59;refine HX2.out.mono ?_;rintro e w2 ⟨rfl,b2⟩))
  have HX3:=Lib.hid (HIS.out w2)
  rw [h2] at HX3
  go_upto_region 8 with (go_at_call 60;refine HX3.out.mono ?_;rintro e w3 ⟨rfl,b3⟩)
  have b1:=below_next b2 b3
  have hu:=HVI.out.later b1
  clear HX HX2 HX3 b2 b3
 case' inr.inr =>
  rw [h1] at HX
  subst h3
  have HX2:=Lib.hid (HE.out w1 HVI.out)
  go_upto_region 3 with (first | (go_at_call 58;refine HX.out.mono ?_;rintro e w2 ⟨rfl,rfl⟩) | (go_at_call 59;refine HX2.out.mono ?_;rintro e w2 ⟨rfl,b2⟩))
  have HX3:=Lib.hid (HIS.out w2)
  rw [h2] at HX3
  go_upto_region 4 with (go_at_call 60;refine HX3.out.mono ?_;rintro e w3 ⟨rfl,b3⟩)
  have b13:=below_next b2 b3
  have HX4:=Lib.hid (HDE.out w3)
  go_upto_region 5 with (go_at_call 61;refine HX4.out.mono ?_;rintro e w4 ⟨v4,ys,kd,rfl,ho4,hy4,b4⟩)
  have b1:=below_next b13 b4
  have hsz3:w.heap.size ≤ w3.heap.size:=by have:=HB0.out.size;have:=b13.size;omega
  have hown:=row_le ho4 hsz3
  by_cases hk:kd=0
  case neg =>
   have y1:(kd != 0)=true:=by simpa using hk
   go_wp2_with fail
   go_ret2
   exact RetLbI.nil hk (fun h => Bool.noConfusion h) (below_next HB0.out b1)
  have y1:(kd != 0)=false:=by simp [hk]
  have hu:=Ints.of_own hown
  have HD:Hid ((v4=.slice A xs.length c ∧ ys=xs) ∨ w4.ownsRow w.heap.size 3 1 v4 ys.length (ys.map (Value.int .i64))):=Lib.hid (.inr hown)
  have HF:Hid (true=false → (v4=.slice A xs.length c ∧ ys=xs)):=Lib.hid (fun h => Bool.noConfusion h)
  have HL:Hid (ys.length ≤ xs.length + 2048):=Lib.hid (by omega)
  clear HX HX2 HX3 HX4 b2 b3 b13 b4 ho4 hown hsz3
  go_upto_region 8 with fail
 all_goals
  have HX:=Lib.hid (HVC.out _ _ _ (HT.out.later b1).2 (HG.out.later b1) hu)
  obtain ⟨x0,x1,x2,x3,x4,x5,x6,x7,x8,x9,x10,x11⟩:=(HT.out.later b1).1.tab
  go_upto_region 9 with (go_at_call 62;refine HX.out.mono ?_;rintro e w7 ⟨kv,rfl,hkv,b7⟩)
  have HKV:=Lib.hid hkv
  clear x0 x1 x2 x3 x4 x5 x6 x7 x8 x9 x10 x11 hu hkv HX
  by_cases hv0:kv=0
  case pos =>
   have y2:(kv != 0)=false:=by simp [hv0]
   have HV0:=Lib.hid hv0
   go_wp2_with fail
   go_ret2
   first
    | exact RetLbI.ok (ys:=xs) (.inl ⟨rfl,rfl⟩) (Nat.le_add_right _ _) (fun _ => ⟨rfl,rfl⟩) (below_next (below_next HB0.out b1) b7)
    | exact RetLbI.ok (ys:=ys) (HD.out.imp id (fun h => own_stay h b7)) HL.out (fun h => Bool.noConfusion h) (below_next (below_next HB0.out b1) b7)
  case neg =>
   have y2:(kv != 0)=true:=by simpa using hv0
   have HV0:=Lib.hid hv0
   go_wp2_with fail
   go_ret2
   first
    | exact RetLbI.nil HV0.out (fun h => Bool.noConfusion h) (below_next (below_next HB0.out b1) b7)
    | exact RetLbI.nil HV0.out (fun _ hp => HKV.out (by rw [HP.out] at hp;exact hp)) (below_next (below_next HB0.out b1) b7)
end Go.Proofs.YtjafpikjpipbkaaGreatDoor
