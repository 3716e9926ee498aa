/-
  Merged texts: lemmas and walks that the last text of this claim leans on.
-/
import Derived.Test.YtjafpikjpipbkaaGreatDoorRows
import Derived.WalkKit
import Derived.ProofKit
import Derived.OpenShut
import Derived.ShutString
import Derived.SizedLaws
import Derived.WalkSpells
import Derived.WalkLawsBesides
import Derived.Lib.Hide
import Derived.Deep.Draws
import Derived.Deep.QuietTactic
import Derived.Deep.Slices
import Derived.Deep.Fields
import Derived.ChangeSame
import Derived.Test.YtjafpikjpipbkaaGreatDoorProg
import Derived.Laws.BitsAllLaws
import Derived.Laws.Bits64
import Derived.IntWalk
set_option maxRecDepth 100000
set_option maxHeartbeats 40000000
namespace Go.Proofs.YtjafpikjpipbkaaGreatDoor
open Go.ChangeShapes Go.WideShapes Go.ChangeAt Go.RowKit
theorem Tryz.own_:ownKnob Tryz.prog.godebug=none:=by kernel_rfl
theorem Tryz.laidOut_:laidOutB Tryz.prog=true:=by kernel_rfl
section
variable {H:Type} {enc:TypeId × Value → H} {P:Program} {W W':World}
theorem trodAll_below (hl:laidOutB P=true) (hb:Below W.heap.size W W'):∀ (ts:List TypeId) (vs:List Value) (ds:List (DataW H)) (ps:List MemPlace),
  (∀ t ∈ ts,P.readableRec t=true ∧ t < P.types.size) → (∀ x ∈ ps,x.block < W.heap.size) →
  DataW.TrodAll enc P W 0 (fun _ => true) true ts vs ds ps → DataW.TrodAll enc P W' 0 (fun b => decide (b < W.heap.size)) true ts vs ds ps
 | [],[],[],_,_,_,h => h
 | t :: ts,v :: vs,d :: ds,ps,hk,hlt,h => by
   obtain ⟨p,q,hp,hq,rfl⟩:=h
   have ht:=hk t (by simp)
   exact ⟨p,q,Below.trod hl ht.1 ht.2 hp hb (fun x hx => hlt x (by simp [hx])),
    trodAll_below hl hb ts vs ds q (fun t h => hk t (by simp [h])) (fun x hx => hlt x (by simp [hx])) hq,rfl⟩
 | [],_ :: _,_,_,_,_,h => by simp [DataW.TrodAll] at h
 | [],[],_ :: _,_,_,_,h => by simp [DataW.TrodAll] at h
 | _ :: _,[],_,_,_,_,h => by simp [DataW.TrodAll] at h
 | _ :: _,_ :: _,[],_,_,_,h => by simp [DataW.TrodAll] at h
theorem law_post {f:Func} {s:ChangeSpec} {tb:TypeId} {args:Array Value} {ds:List (DataW H)} {before:List MemPlace} (hl:laidOutB P=true)
  (hk:∀ t ∈ f.params.toList,P.readableRec t=true ∧ t < P.types.size) (hres:f.resultTypes=#[tb]) (hbool:P.underlying tb=some .bool) (hvars:s.vars=[])
  (hW:DataW.Whole enc P f.params.toList s.vars false W args.toList ds [] before) (hfn:s.fn H (ds ++ [])={ results:=[.lit (.bool true)],args:=ds })
  (hb:Below W.heap.size W W'):s.post enc P f false true false false W args (.bool true) W':=by
 have hlt:∀ x ∈ before,x.block < W.heap.size:=fun x hx => hW.lt x hx
 have hW':=hW
 obtain ⟨p,q,hA,hV,rfl,_,_⟩:=hW'
 rw [hvars] at hV
 obtain ⟨_,rfl⟩:=trodVars_none hV
 refine ⟨ds,[],p ++ [],[],p,[],hW,?_,?_,?_,hb.frame _,fun h => by cases h⟩
 ·rw [hfn,hres]
  exact trodAll_cons_mk (shut_bool hbool true) trodAll_mk0
 ·rw [hfn]
  exact trodAll_below hl hb _ _ _ _ hk (fun x hx => hlt x (by simp [hx])) hA
 ·rw [hfn,hvars];rfl
end
end Go.Proofs.YtjafpikjpipbkaaGreatDoor
namespace Go.Proofs.YtjafpikjpipbkaaGreatDoor
open Go.ChangeShapes Go.WideShapes Go.ChangeAt Go.RowKit
theorem block_of_add (a:Addr) (n:Nat):(a.add n).block=a.block:=by unfold Addr.add;split <;> rfl
theorem add_of_add (a:Addr) (i j:Nat):(a.add i).add j=a.add (i + j):=by
 unfold Addr.add
 by_cases hi:i=0 <;> by_cases hj:j=0 <;> simp [hi,hj,Nat.add_assoc]
def Ints (w:World) (B:Nat) (k:IntKind) (v:Value) (xs:List Int):Prop :=
 ∃ A c,v=.slice A xs.length c ∧ xs.length ≤ c ∧ c ≤ maxLen ∧ (A=none → c=0) ∧
  ∀ i x,xs[i]?=some x → ∃ ad,A=some ad ∧ ad.block < B ∧ w.cell? (ad.add i)=some (.int k x)
section
variable {w w':World} {B B':Nat} {k:IntKind} {v:Value} {xs:List Int}
theorem Ints.keep (h:Ints w B k v xs) (hk:∀ p:Addr,p.block < B → w'.cell? p=w.cell? p):Ints w' B k v xs:=by
 obtain ⟨A,c,hv,h1,h2,h3,h4⟩:=h
 refine ⟨A,c,hv,h1,h2,h3,fun i x hi => ?_⟩
 obtain ⟨ad,e,hb,hc⟩:=h4 i x hi
 exact ⟨ad,e,hb,(hk _ (by rw [block_of_add];exact hb)).trans hc⟩
theorem Ints.more (h:Ints w B k v xs) (hB:B ≤ B'):Ints w B' k v xs:=by
 obtain ⟨A,c,hv,h1,h2,h3,h4⟩:=h
 refine ⟨A,c,hv,h1,h2,h3,fun i x hi => ?_⟩
 obtain ⟨ad,e,hb,hc⟩:=h4 i x hi
 exact ⟨ad,e,by omega,hc⟩
theorem Ints.below (h:Ints w B k v xs) (hb:Below B w w'):Ints w' B k v xs:=h.keep fun _ hp => hb.cell hp
theorem Ints.later (h:Ints w w.heap.size k v xs) (hb:Below w.heap.size w w'):Ints w' w'.heap.size k v xs:=(h.below hb).more hb.size
theorem Ints.none_:Ints w B k (.slice none 0 0) []:=⟨none,0,rfl,Nat.le_refl _,Nat.zero_le _,fun _ => rfl,fun _ _ h => by simp at h⟩
theorem Ints.of_own {base:Nat} {e:TypeId} (h:w.ownsRow base e 1 v xs.length (xs.map (Value.int k))):Ints w w.heap.size k v xs:=by
 rcases h.2 with ⟨rfl,hn⟩ | ⟨g,cap,cur,rfl,hb,hg,hnc,hcm,_⟩
 ·have:xs=[]:=List.eq_nil_of_length_eq_zero hn
  subst this;exact Ints.none_
 ·have hlt:g < w.heap.size:=(Array.getElem?_eq_some_iff.1 hg).1
  exact ⟨_,cap,rfl,hnc,hcm,(by intro h;cases h),fun i x hi => ⟨_,rfl,hlt,h.cells (g:=g) rfl i _ (by simp [hi])⟩⟩
end
section
variable {H:Type} {enc:TypeId × Value → H} {P:Program} {W:World}
theorem open_intslice {t e:TypeId} {k:IntKind} {v:Value} {d:DataW H} {p:List MemPlace} {r:Reach} {b:Nat} (ht:P.underlying t=some (.slice e)) (he:P.underlying e=some (.int k)) (hc:P.cellsOf e=1)
  (hv:Value.okWide P W r b t v) (h:DataW.Trod enc P W 0 (fun _ => true) true t v d p) (hlt:∀ x ∈ p,x.block < W.heap.size) :
  ∃ xs,Ints W W.heap.size k v xs ∧ (∀ x ∈ xs,(Lit.int k x).wf=true) ∧ (d=.nil ∧ xs.length=0 ∨ ∃ es sp,d=.slice es sp ∧ es.length=xs.length):=by
 obtain ⟨a0,n,c,rfl⟩:=okWide_slice ht hv
 obtain ⟨fuel,hf⟩:=h
 rcases open_ints ht he hc hf with ⟨hcs,hx⟩ | ⟨a,len,cap,zs,hcs,_,hl,hm,hz,hx,hcell,hwf⟩
 ·simp [Value.cells] at hcs
  obtain ⟨rfl,rfl,rfl⟩:=hcs
  simp at hx
  exact ⟨[],Ints.none_,by simp,.inl ⟨hx.1,rfl⟩⟩
 ·simp [Value.cells] at hcs
  obtain ⟨rfl,rfl,rfl⟩:=hcs
  simp only [Prod.mk.injEq] at hx
  have hzl:zs.length=c:=by simpa using hz
  have hxl:(zs.take n).length=n:=by simp;omega
  refine ⟨zs.take n,⟨some a,c,by rw [hxl],by omega,hm,(by intro h;cases h),fun i x hi => ⟨a,rfl,?_,?_⟩⟩,fun x hx => hwf x (List.mem_of_mem_take hx),.inr ⟨_,_,hx.1,by simp [lits]⟩⟩
  ·have hin:MemPlace.cell a.block (a.off + i) ∈ MemPlace.row a zs.length:=by
    have:=(List.getElem?_eq_some_iff.1 hi).1
    unfold MemPlace.row;simp;omega
   exact hlt _ (by rw [hx.2];exact hin)
  ·have hi':=(List.getElem?_eq_some_iff.1 hi).1
   rw [hcell i (by omega)]
   rw [List.getElem?_take] at hi
   split at hi
   ·rw [List.getD_eq_getElem?_getD,hi];rfl
   ·cases hi
theorem len_in {ts:List TypeId} {ds:List (DataW H)} (h:(DataW.weightsEach P ts ds).all (· ≤ reachBytes)=true) {j:Nat} {t e:TypeId} {d:DataW H} {b n:Nat} (ht:ts[j]?=some t) (hd:ds[j]?=some d)
  (hu:P.underlying t=some (.slice e)) (hb:P.bytesOf e=b) (hz:d=.nil ∧ n=0 ∨ ∃ es sp,d=.slice es sp ∧ es.length=n):n * b ≤ 140737488351232:=by
 rcases hz with ⟨rfl,rfl⟩ | ⟨es,sp,rfl,rfl⟩
 ·omega
 ·have:=sized_slice h ht hd hu
  rw [hb] at this
  have h2:es.length * b ≤ (es.length + sp.length) * b:=Nat.mul_le_mul_right _ (by omega)
  simp only [reachBytes] at this
  omega
end
theorem get_of {xs:List Int} {k:Nat} (h:k < xs.length):∃ x,xs[k]?=some x ∧ x ∈ xs:=⟨xs[k],List.getElem?_eq_getElem h,List.getElem_mem h⟩
theorem cells_new (w:World) (l:List Value) (e:TypeId):∀ j u,l[j]?=some u → (w.alloc (.cells l.toArray e)).cell? ((⟨w.heap.size,0,none⟩:Addr).add j)=some u:=by
 intro j u hu
 have hadd:(⟨w.heap.size,0,none⟩:Addr).add j=⟨w.heap.size,j,none⟩:=by unfold Addr.add;split <;> simp_all
 rw [hadd,cell_of_row (w.alloc (.cells l.toArray e)) w.heap.size j _ _ _ (heap_alloc_new w _)]
 simpa using hu
theorem below_then {B:Nat} {a b c:World} (h:Below B a b) (hB:B ≤ a.heap.size) (k:Below b.heap.size b c):Below B a c:=h.trans (k.mono (Nat.le_trans hB h.size))
theorem below_next {a b c:World} (h:Below a.heap.size a b) (k:Below b.heap.size b c):Below a.heap.size a c:=below_then h (Nat.le_refl _) k
theorem int_in {a:Int} (h:(Lit.int .i64 a).wf=true):-9223372036854775808 ≤ a ∧ a ≤ 9223372036854775807:=by
 simpa [Lit.wf,IntKind.min,IntKind.max,IntKind.signed,IntKind.bits] using h
end Go.Proofs.YtjafpikjpipbkaaGreatDoor
namespace Go.Proofs.YtjafpikjpipbkaaGreatDoor
open Go.RowKit
def Blk (w:World) (g:Nat) (t:TypeId) (cs:Array Value):Prop:=w.heap[g]?=some (.cells cs t (0,0))
section
variable {w w':World} {g:Nat} {t:TypeId} {cs:Array Value}
theorem Blk.lt (h:Blk w g t cs):g < w.heap.size:=(Array.getElem?_eq_some_iff.1 h).1
theorem Blk.cell (h:Blk w g t cs) (i:Nat):w.cell? ⟨g,i,none⟩=cs[i]?:=cell_of_row w g i cs t (0,0) h
theorem Blk.free (h:Blk w g t cs) (i:Nat):w.frozen? ⟨g,i,none⟩=false:=by
 unfold Blk at h
 simp [World.frozen?,h]
theorem Blk.new (w:World) (t:TypeId) (cs:Array Value):Blk (w.alloc (.cells cs t)) w.heap.size t cs:=heap_alloc_new w _
theorem Blk.alloc (h:Blk w g t cs) (o:Obj):Blk (w.alloc o) g t cs:=(Below.heap_alloc w o g h.lt).trans h
theorem Blk.put (h:Blk w g t cs) (i:Nat) (u:Value):Blk (w.setCell ⟨g,i,none⟩ u) g t (cs.setIfInBounds i u):=by
 unfold Blk at h ⊢
 simp [World.setCell,Array.getElem?_modify,h]
theorem Blk.far (h:Blk w g t cs) {p:Addr} (hp:g ≠ p.block) (u:Value):Blk (w.setCell p u) g t cs:=(Below.heap_setCell w p u g hp).trans h
theorem Blk.below {B:Nat} (h:Blk w g t cs) (hb:Below B w w') (hg:g < B):Blk w' g t cs:=(hb.block g hg).trans h
theorem Blk.later (h:Blk w g t cs) (hb:Below w.heap.size w w'):Blk w' g t cs:=h.below hb h.lt
theorem Blk.grown {row:Option Nat} (h:Blk w g t cs) (hb:w.grownBy w' row) (hg:some g ≠ row):Blk w' g t cs:=(hb.block g h.lt hg).trans h
end
theorem grown_setCell {a w:World} {g:Nat} (h:a.grownBy w (some g)) (i:Nat) (u:Value):a.grownBy (w.setCell ⟨g,i,none⟩ u) (some g) :=
 ⟨h.os,h.tape,h.output,by simpa [World.setCell] using h.size,fun k hk hne => (Below.heap_setCell w ⟨g,i,none⟩ u k (by rintro rfl;exact hne rfl)).trans (h.block k hk hne)⟩
theorem grown_refl (w:World) (row:Option Nat):w.grownBy w row:=⟨rfl,rfl,rfl,Nat.le_refl _,fun _ _ _ => rfl⟩
theorem grown_drewN {a w:World} {row:Option Nat} (h:a.grownBy w row) (n:Nat):a.grownBy (w.drewN n) row:=⟨h.os,h.tape,h.output,h.size,h.block⟩
theorem below_of_grown {a b c:World} {B g:Nat} (h:Below B a b) (hg:b.grownBy c (some g)) (hB:B ≤ g) (hs:B ≤ b.heap.size):Below B a c :=
 h.grown hg hs (fun k hk => by cases hk;exact hB)
theorem own_grown {w w':World} {B g:Nat} {e:TypeId} {size:Nat} {v:Value} {n:Nat} {xs:List Value} (h:w.ownsRow B e size v n xs) (hg:w.grownBy w' (some g)) (hB:g < B):w'.ownsRow B e size v n xs :=
 h.kept hg (by
  cases hv:v.ownBlock with
  | none => exact .inl rfl
  | some k => have:=(h.lt k hv).1;refine .inr (fun e => ?_);cases e;omega)
theorem own_later {w w':World} {B:Nat} {e:TypeId} {size:Nat} {v:Value} {n:Nat} {xs:List Value} (h:w.ownsRow B e size v n xs) (hb:Below w.heap.size w w'):w'.ownsRow B e size v n xs :=
 h.kept (row:=none) ⟨hb.os,hb.tape,hb.output,hb.size,fun k hk _ => hb.block k hk⟩ (Classical.em _)
theorem quiet_left {P:Program} {f:FuncId} {args:Array Value} {w:World} {n:Nat} {v:Value}
  (h:Calls P f args (w.drewN n) fun e w' => e=.returned v ∧ w.drewN n=w'):Calls P f args (w.drewN n) fun e w'' => e=.returned v ∧ ∃ m,w''=w.drewN m :=
 h.mono fun _ _ ⟨he,hm⟩ => ⟨he,n,hm.symm⟩
end Go.Proofs.YtjafpikjpipbkaaGreatDoor
namespace Go.Proofs.YtjafpikjpipbkaaGreatDoor
open Go.ChangeShapes Go.WideShapes Go.Deep Go.RowKit
def spCells (s:Int × Int × Int):List Value:=[.int .i64 s.1,.int .i64 s.2.1,.int .i64 s.2.2]
def Spans (w:World) (B:Nat) (v:Value) (xs:List (Int × Int × Int)):Prop :=
 ∃ A c,v=.slice A xs.length c ∧ xs.length ≤ c ∧ c ≤ maxLen ∧ (A=none → c=0) ∧
  ∀ i x,xs[i]?=some x → ∃ ad,A=some ad ∧ ad.block < B ∧ w.cell? (ad.add (i * 3))=some (.int .i64 x.1) ∧ w.cell? (ad.add (i * 3 + 1))=some (.int .i64 x.2.1) ∧ w.cell? (ad.add (i * 3 + 2))=some (.int .i64 x.2.2)
section
variable {w w':World} {B B':Nat} {v:Value} {xs:List (Int × Int × Int)}
theorem Spans.keep (h:Spans w B v xs) (hk:∀ p:Addr,p.block < B → w'.cell? p=w.cell? p):Spans w' B v xs:=by
 obtain ⟨A,c,hv,h1,h2,h3,h4⟩:=h
 refine ⟨A,c,hv,h1,h2,h3,fun i x hi => ?_⟩
 obtain ⟨ad,e,hb,c0,c1,c2⟩:=h4 i x hi
 exact ⟨ad,e,hb,(hk _ (by rw [block_of_add];exact hb)).trans c0,(hk _ (by rw [block_of_add];exact hb)).trans c1,(hk _ (by rw [block_of_add];exact hb)).trans c2⟩
theorem Spans.more (h:Spans w B v xs) (hB:B ≤ B'):Spans w B' v xs:=by
 obtain ⟨A,c,hv,h1,h2,h3,h4⟩:=h
 refine ⟨A,c,hv,h1,h2,h3,fun i x hi => ?_⟩
 obtain ⟨ad,e,hb,hc⟩:=h4 i x hi
 exact ⟨ad,e,by omega,hc⟩
theorem Spans.below (h:Spans w B v xs) (hb:Below B w w'):Spans w' B v xs:=h.keep fun _ hp => hb.cell hp
theorem Spans.later (h:Spans w w.heap.size v xs) (hb:Below w.heap.size w w'):Spans w' w'.heap.size v xs:=(h.below hb).more hb.size
theorem Spans.none_:Spans w B (.slice none 0 0) []:=⟨none,0,rfl,Nat.le_refl _,Nat.zero_le _,fun _ => rfl,fun _ _ h => by simp at h⟩
theorem spCells_at {xs:List (Int × Int × Int)} {i:Nat} {x:Int × Int × Int} (h:xs[i]?=some x) :
  (xs.flatMap spCells)[i * 3]?=some (.int .i64 x.1) ∧ (xs.flatMap spCells)[i * 3 + 1]?=some (.int .i64 x.2.1) ∧ (xs.flatMap spCells)[i * 3 + 2]?=some (.int .i64 x.2.2):=by
 induction xs generalizing i with
 | nil => simp at h
 | cons y ys ih =>
   cases i with
   | zero =>
     simp at h;subst h
     simp [spCells]
   | succ i =>
     have h':=ih (by simpa using h)
     have e:(i + 1) * 3=i * 3 + 3:=by omega
     simp only [List.flatMap_cons,e]
     have hl:(spCells y).length=3:=rfl
     refine ⟨?_,?_,?_⟩
     ·rw [List.getElem?_append_right (by omega),hl,Nat.add_sub_cancel];exact h'.1
     ·rw [List.getElem?_append_right (by omega),hl,show i * 3 + 3 + 1 - 3=i * 3 + 1 by omega];exact h'.2.1
     ·rw [List.getElem?_append_right (by omega),hl,show i * 3 + 3 + 2 - 3=i * 3 + 2 by omega];exact h'.2.2
theorem Spans.of_own {base:Nat} {e:TypeId} (h:w.ownsRow base e 3 v xs.length (xs.flatMap spCells)):Spans w w.heap.size v xs:=by
 rcases h.2 with ⟨rfl,hn⟩ | ⟨g,cap,cur,rfl,hb,hg,hnc,hcm,_⟩
 ·have:xs=[]:=List.eq_nil_of_length_eq_zero hn
  subst this;exact Spans.none_
 ·have hlt:g < w.heap.size:=(Array.getElem?_eq_some_iff.1 hg).1
  refine ⟨_,cap,rfl,hnc,hcm,(by intro h;cases h),fun i x hx => ⟨_,rfl,hlt,?_⟩⟩
  obtain ⟨a,b,c⟩:=spCells_at hx
  exact ⟨h.cells (g:=g) rfl _ _ a,h.cells (g:=g) rfl _ _ b,h.cells (g:=g) rfl _ _ c⟩
end
section
variable {H:Type} {enc:TypeId × Value → H} {P:Program} {w:World} {base:Nat} {spare:Nat → Bool} {held:Bool}
theorem open_slice_fields {t e:TypeId} {fs:Array Field} {fuel:Nat} {cs:List Value} {x:DataW H × List MemPlace} (ht:P.underlying t=some (.slice e)) (he:P.underlying e=some (.struct fs))
  (hone:oneCellFields P fs=true) (hC:P.cellsOf e=fs.size) (h:DataW.trod enc P w base spare held fuel t cs=some x) :
  (cs=[.slice none 0 0] ∧ x=(.nil,[])) ∨
  ∃ (a:Addr) (len cap m:Nat) (D:Nat → DataW H) (Pl:Nat → List MemPlace),cs=[.slice (some a) len cap] ∧ base ≤ a.block ∧ len ≤ cap ∧ cap ≤ maxLen ∧ m=(if spare a.block then cap else len) ∧
   x=(.slice ((List.range len).map D) ((List.range (m - len)).map fun j => D (len + j)),MemPlace.row a (m * fs.size) ++ (List.range m).flatMap Pl) ∧
   ∀ i,i < m → ∃ (ys:List (DataW H × List MemPlace)) (n:Nat),D i=.agg (ys.map (·.1)) ∧ Pl i=ys.flatMap (·.2) ∧ ys.length=fs.size ∧
    ∀ (j:Nat) (f:Field),fs[j]?=some f → ∃ (v:Value) (y:DataW H × List MemPlace),w.cell? (a.add (i * fs.size + j))=some v ∧ ys[j]?=some y ∧ DataW.trod enc P w base spare held n f.type [v]=some y:=by
 rcases open_slice ht h with h0 | ⟨a,len,cap,m,n,D,Pl,hcs,hb,hl,hm,hmm,hx,hi⟩
 ·exact .inl h0
 ·refine .inr ⟨a,len,cap,m,D,Pl,hcs,hb,hl,hm,hmm,by rw [hC] at hx;exact hx,fun i him => ?_⟩
  obtain ⟨cs',hc,ht'⟩:=hi i him
  rw [hC] at hc
  obtain ⟨ys,n',hn',hy,hlen,hyl,hf⟩:=DataW.trod_struct he ht'
  obtain ⟨_,hcl,hat⟩:=World.cells?_some hc
  simp only [Prod.mk.injEq] at hy
  refine ⟨ys,n',hy.1,hy.2,hyl,fun j f hj => ?_⟩
  obtain ⟨ho,hk⟩:=hone_of hone j f hj
  have hjl:j < fs.size:=(Array.getElem?_eq_some_iff.1 hj).1
  have hcell:=hat j hjl
  have hv:cs'[j]?=some (cs'[j]'(by omega)):=List.getElem?_eq_getElem (by omega)
  have h1:=hf j f hj
  rw [ho,hk] at h1
  have hone':(cs'.drop j).take 1=[cs'[j]'(by omega)]:=by
   rw [List.drop_eq_getElem_cons (by omega)]
   rfl
  rw [hone'] at h1
  have hys:ys[j]?=some (ys[j]'(by omega)):=List.getElem?_eq_getElem (by omega)
  refine ⟨_,_,?_,hys,h1.trans hys⟩
  rw [← Go.Deep.add_add,hcell,hv]
end
section
variable {H:Type} {enc:TypeId × Value → H} {P:Program} {W:World}
end
end Go.Proofs.YtjafpikjpipbkaaGreatDoor
namespace Go.Proofs.YtjafpikjpipbkaaGreatDoor
open Go.RowKit
theorem ret_bool {a b:Bool} (h:a=b):Ending.returned (.bool a)=.returned (.bool b):=by rw [h]
theorem ret_int {k:IntKind} {a b:Int} (h:a=b):Ending.returned (.int k a)=.returned (.int k b):=by rw [h]
theorem ret_int2 {k l:IntKind} {a b c d:Int} (h:a=b) (h':c=d):Ending.returned (.tuple #[.int k a,.int l c])=.returned (.tuple #[.int k b,.int l d]):=by rw [h,h']
theorem bool_eq {a b:Bool} (h:a=true ↔ b=true):a=b:=Bool.eq_iff_iff.2 h
theorem drop_of_get {α:Type} {xs:List α} {k:Nat} {x:α} (h:xs[k]?=some x):xs.drop k=x :: xs.drop (k + 1):=by
 obtain ⟨a,a'⟩:=List.getElem?_eq_some_iff.1 h
 rw [List.drop_eq_getElem_cons a,a']
theorem Tryz.infoInt':(Tryz.prog.info? 3).map (fun i => (i.zero,i.size,i.bytes))=some (some (.int .i64 0),1,8):=by kernel_rfl
theorem Blk.at_ {w:World} {g:Nat} {t:TypeId} {cs:Array Value} {i:Nat} {u:Value} (h:Blk w g t cs) (hu:cs[i]?=some u):w.cell? ⟨g,i,none⟩=some u:=(h.cell i).trans hu
theorem get_el {α:Type} {xs:List α} {k:Nat} (h:k < xs.length):∃ x,xs[k]?=some x ∧ x ∈ xs:=⟨xs[k],List.getElem?_eq_getElem h,List.getElem_mem h⟩
theorem add_mid (a:Addr) (i j:Nat) (h:j ≠ 0):a.add (i + j)={ block:=(a.add i).block,off:=(a.add i).off + j,spot:=none }:=by
 rw [← add_of_add,Addr.add,if_neg h]
theorem span_cells {w wr:World} {ad:Addr} {k:Nat} {B:Nat} {x y z:Value} (hb:Below B w wr) (ha:ad.block < B) (d0:w.cell? (ad.add (k * 3))=some x) (d1:w.cell? (ad.add (k * 3 + 1))=some y) (d2:w.cell? (ad.add (k * 3 + 2))=some z) :
  wr.cell? (ad.add (k * 3))=some x ∧ wr.cell? { block:=(ad.add (k * 3)).block,off:=(ad.add (k * 3)).off + 1,spot:=none }=some y ∧ wr.cell? { block:=(ad.add (k * 3)).block,off:=(ad.add (k * 3)).off + 2,spot:=none }=some z:=by
 refine ⟨(hb.cell (p:=ad.add (k * 3)) (by rw [block_of_add];exact ha)).trans d0,?_,?_⟩
 ·rw [← add_mid _ _ _ (by decide)];exact (hb.cell (p:=ad.add (k * 3 + 1)) (by rw [block_of_add];exact ha)).trans d1
 ·rw [← add_mid _ _ _ (by decide)];exact (hb.cell (p:=ad.add (k * 3 + 2)) (by rw [block_of_add];exact ha)).trans d2
theorem grown_trans {a b c:World} {row:Option Nat} (h:a.grownBy b row) (k:b.grownBy c row):a.grownBy c row :=
 ⟨k.os.trans h.os,k.tape.trans h.tape,k.output.trans h.output,Nat.le_trans h.size k.size,fun j hj hne => (k.block j (Nat.lt_of_lt_of_le hj h.size) hne).trans (h.block j hj hne)⟩
theorem grown_alloc (w:World) (o:Obj) (row:Option Nat):w.grownBy (w.alloc o) row :=
 ⟨rfl,rfl,rfl,by simp,fun j hj _ => Below.heap_alloc w o j hj⟩
theorem Ints.grown {w w':World} {g:Nat} {k:IntKind} {v:Value} {xs:List Int} (h:Ints w g k v xs) (hg:w.grownBy w' (some g)) (hlt:g < w.heap.size):Ints w' g k v xs :=
 h.keep fun p hp => World.cell?_of_block (w:=w) (hg.block p.block (by omega) (by intro e;cases e;omega))
theorem cell_kept {w w':World} {g:Nat} {l:List Value} (b:Nat) (h:∀ j u,l[j]?=some u → w.cell? ((⟨b,0,none⟩:Addr).add j)=some u) (hg:w.grownBy w' (some g)) (hb:b < w.heap.size) (hne:b ≠ g) (j:Nat) (u:Value) (hu:l[j]?=some u):w'.cell? ⟨b,j,none⟩=some u:=by
 have h1:=h j u hu
 have hadd:(⟨b,0,none⟩:Addr).add j=⟨b,j,none⟩:=by unfold Addr.add;split <;> simp_all
 rw [hadd] at h1
 exact (World.cell?_of_block (w:=w) (a:=⟨b,j,none⟩) (hg.block b hb (by intro e;cases e;exact hne rfl))).trans h1
theorem Tryz.infoSpan:(Tryz.prog.info? 54).map (fun i => (i.zero,i.size,i.bytes))=some (some (.agg #[.int .i64 0,.int .i64 0,.int .i64 0]),3,24):=by kernel_rfl
theorem spans_snoc (acc:List (Int × Int × Int)) (x:Int × Int × Int):(acc ++ [x]).flatMap spCells=acc.flatMap spCells ++ spCells x:=by simp
end Go.Proofs.YtjafpikjpipbkaaGreatDoor
namespace ND
open Go
theorem u8_ofNat_toNat {n:Nat} (h:n < 256):(UInt8.ofNat n).toNat=n:=by
 simp;omega
end ND
namespace ND
open Go
abbrev Sp:=Int × Int × Int
def okS (lo hi:Int):Int → List Sp → Bool
 | _,[] => true
 | last,s :: r => decide (last < s.1 ∧ s.1 ≤ s.2.1 ∧ s.2.1 ≤ 1114111 ∧ lo ≤ s.1 ∧ s.2.1 ≤ hi) && okS lo hi s.2.1 r
def checkS (l:List Sp) (lo hi:Int):Bool:=okS lo hi (-1) l && decide (l.length ≤ 256)
theorem okS_cons {lo hi last:Int} {s:Sp} {r:List Sp}:okS lo hi last (s :: r)=true ↔ (last < s.1 ∧ s.1 ≤ s.2.1 ∧ s.2.1 ≤ 1114111 ∧ lo ≤ s.1 ∧ s.2.1 ≤ hi) ∧ okS lo hi s.2.1 r=true:=by
 simp [okS]
end ND
namespace ND
open Go
def scalarB (c:Int):Bool:=decide (0 ≤ c ∧ c ≤ 1114111 ∧ (c < 55296 ∨ 57343 < c))
def lenC (c:Int):Nat:=if scalarB c then (if c ≤ 127 then 1 else if c ≤ 2047 then 2 else if c ≤ 65535 then 3 else 4) else 0
theorem scalarB_iff (c:Int):scalarB c=true ↔ 0 ≤ c ∧ c ≤ 1114111 ∧ (c < 55296 ∨ 57343 < c):=by unfold scalarB;simp
theorem scalarB_not (c:Int):scalarB c=false ↔ c < 0 ∨ 1114111 < c ∨ (55296 ≤ c ∧ c ≤ 57343):=by
 unfold scalarB;rw [decide_eq_false_iff_not];omega
def encN (n:Nat):List UInt8 :=
 if n < 128 then [UInt8.ofNat n]
 else if n < 2048 then [UInt8.ofNat (192 + n / 64),UInt8.ofNat (128 + n % 64)]
 else if n < 65536 then [UInt8.ofNat (224 + n / 4096),UInt8.ofNat (128 + n / 64 % 64),UInt8.ofNat (128 + n % 64)]
 else [UInt8.ofNat (240 + n / 262144),UInt8.ofNat (128 + n / 4096 % 64),UInt8.ofNat (128 + n / 64 % 64),UInt8.ofNat (128 + n % 64)]
def encC (c:Int):List UInt8:=encN c.toNat
def headN (b:Nat):Nat × Nat :=
 if b ≤ 127 then (1,b) else if 192 ≤ b ∧ b ≤ 223 then (2,b % 32) else if 224 ≤ b ∧ b ≤ 239 then (3,b % 16) else if 240 ≤ b ∧ b ≤ 247 then (4,b % 8) else (0,0)
def contN:Nat → List UInt8 → Option Nat
 | c,[] => some c
 | c,b :: r => if b.toNat < 128 ∨ 191 < b.toNat then none else contN (c * 64 + b.toNat % 64) r
def firstP:List UInt8 → Nat × Nat
 | [] => (0,0)
 | b :: r =>
   if (headN b.toNat).1=0 ∨ r.length + 1 < (headN b.toNat).1 then (0,0)
   else match contN (headN b.toNat).2 (r.take ((headN b.toNat).1 - 1)) with
    | none => (0,0)
    | some c => if lenC c=(headN b.toNat).1 then (c,(headN b.toNat).1) else (0,0)
theorem lenC_encC {c:Int} (h:scalarB c=true):(encC c).length=lenC c ∧ 1 ≤ lenC c ∧ lenC c ≤ 4:=by
 have hs:=(scalarB_iff c).1 h
 unfold encC encN lenC
 rw [if_pos h]
 by_cases h1:c ≤ 127
 ·rw [if_pos (by omega),if_pos h1];simp
 ·rw [if_neg (by omega),if_neg h1]
  by_cases h2:c ≤ 2047
  ·rw [if_pos (by omega),if_pos h2];simp
  ·rw [if_neg (by omega),if_neg h2]
   by_cases h3:c ≤ 65535
   ·rw [if_pos (by omega),if_pos h3];simp
   ·rw [if_neg (by omega),if_neg h3];simp
theorem lenC_pos {c:Int} (h:lenC c ≠ 0):scalarB c=true:=by
 unfold lenC at h
 by_cases hs:scalarB c=true
 ·exact hs
 ·rw [if_neg hs] at h;exact absurd rfl h
theorem u8_eq {b:UInt8} {n:Nat} (h:b.toNat=n):UInt8.ofNat n=b:=by subst h;simp
theorem firstP_some (l:List UInt8) (h:(firstP l).2 ≠ 0):scalarB (firstP l).1=true ∧ (firstP l).2=lenC (firstP l).1 ∧ (firstP l).2 ≤ l.length ∧ l.take (firstP l).2=encN (firstP l).1:=by
 cases l with
 | nil => simp [firstP] at h
 | cons b r =>
   have hb:=b.toNat_lt
   simp only [firstP] at h ⊢
   by_cases h0:(headN b.toNat).1=0 ∨ r.length + 1 < (headN b.toNat).1
   ·rw [if_pos h0] at h;simp at h
   ·rw [if_neg h0] at h ⊢
    cases hc:contN (headN b.toNat).2 (r.take ((headN b.toNat).1 - 1)) with
    | none => rw [hc] at h;simp at h
    | some c =>
      rw [hc] at h
      simp only at h ⊢
      by_cases hl:lenC c=(headN b.toNat).1
      ·rw [if_pos hl]
       have hsc:scalarB c=true:=lenC_pos (by rw [hl];omega)
       have hs:=(scalarB_iff c).1 hsc
       refine ⟨hsc,hl.symm,by simp;omega,?_⟩
       have hlc:lenC c=if (c:Int) ≤ 127 then 1 else if (c:Int) ≤ 2047 then 2 else if (c:Int) ≤ 65535 then 3 else 4:=by unfold lenC;rw [if_pos hsc]
       rw [hlc] at hl
       unfold headN at hl hc h0 ⊢
       by_cases b1:b.toNat ≤ 127
       ·simp only [if_pos b1] at hl hc ⊢
        simp [contN] at hc
        subst hc
        unfold encN
        rw [if_pos (by omega)]
        simp
       ·simp only [if_neg b1] at hl hc h0 ⊢
        by_cases b2:192 ≤ b.toNat ∧ b.toNat ≤ 223
        ·simp only [if_pos b2] at hl hc h0 ⊢
         match r,h0 with
         | x1 :: r',_ =>
           have hx1:=x1.toNat_lt
           simp only [Nat.reduceSub,List.take_succ_cons,List.take_zero,contN] at hc ⊢
           split at hc
           ·cases hc
           ·rename_i c1
            simp only [Option.some.injEq] at hc
            have hr:128 ≤ c ∧ c < 2048:=by
             by_cases k1:(c:Int) ≤ 127
             ·rw [if_pos k1] at hl;omega
             ·rw [if_neg k1] at hl
              by_cases k2:(c:Int) ≤ 2047
              ·omega
              ·rw [if_neg k2] at hl;split at hl <;> omega
            unfold encN
            rw [if_neg (by omega),if_pos (by omega),u8_eq (b:=b) (by omega),u8_eq (b:=x1) (by omega)]
         | [],h0 => simp at h0
        ·simp only [if_neg b2] at hl hc h0 ⊢
         by_cases b3:224 ≤ b.toNat ∧ b.toNat ≤ 239
         ·simp only [if_pos b3] at hl hc h0 ⊢
          match r,h0 with
          | x1 :: x2 :: r',_ =>
            have hx1:=x1.toNat_lt
            have hx2:=x2.toNat_lt
            simp only [Nat.reduceSub,List.take_succ_cons,List.take_zero,contN] at hc ⊢
            split at hc
            ·cases hc
            ·rename_i c1
             split at hc
             ·cases hc
             ·rename_i c2
              simp only [Option.some.injEq] at hc
              have hr:2048 ≤ c ∧ c < 65536:=by
               by_cases k1:(c:Int) ≤ 127
               ·rw [if_pos k1] at hl;omega
               ·rw [if_neg k1] at hl
                by_cases k2:(c:Int) ≤ 2047
                ·rw [if_pos k2] at hl;omega
                ·rw [if_neg k2] at hl;split at hl <;> omega
              unfold encN
              rw [if_neg (by omega),if_neg (by omega),if_pos (by omega),u8_eq (b:=b) (by omega),u8_eq (b:=x1) (by omega),u8_eq (b:=x2) (by omega)]
          | [],h0 => simp at h0
          | [_],h0 => simp at h0
         ·simp only [if_neg b3] at hl hc h0 ⊢
          by_cases b4:240 ≤ b.toNat ∧ b.toNat ≤ 247
          ·simp only [if_pos b4] at hl hc h0 ⊢
           match r,h0 with
           | x1 :: x2 :: x3 :: r',_ =>
             have hx1:=x1.toNat_lt
             have hx2:=x2.toNat_lt
             have hx3:=x3.toNat_lt
             simp only [Nat.reduceSub,List.take_succ_cons,List.take_zero,contN] at hc ⊢
             split at hc
             ·cases hc
             ·rename_i c1
              split at hc
              ·cases hc
              ·rename_i c2
               split at hc
               ·cases hc
               ·rename_i c3
                simp only [Option.some.injEq] at hc
                have hr:65536 ≤ c:=by
                 by_cases k1:(c:Int) ≤ 127
                 ·rw [if_pos k1] at hl;omega
                 ·rw [if_neg k1] at hl
                  by_cases k2:(c:Int) ≤ 2047
                  ·rw [if_pos k2] at hl;omega
                  ·rw [if_neg k2] at hl;split at hl <;> omega
                unfold encN
                rw [if_neg (by omega),if_neg (by omega),if_neg (by omega),u8_eq (b:=b) (by omega),u8_eq (b:=x1) (by omega),u8_eq (b:=x2) (by omega),u8_eq (b:=x3) (by omega)]
           | [],h0 => simp at h0
           | [_],h0 => simp at h0
           | [_,_],h0 => simp at h0
          ·simp only [if_neg b4] at h0
           simp at h0
      ·rw [if_neg hl] at h;simp at h
def scanF:Nat → List UInt8 → List Int × Nat
 | 0,_ => ([],0)
 | f + 1,l => if (firstP l).2=0 then ([],0) else (((firstP l).1:Int) :: (scanF f (l.drop (firstP l).2)).1,(firstP l).2 + (scanF f (l.drop (firstP l).2)).2)
def scanL (l:List UInt8):List Int × Nat:=scanF l.length l
def encAll (cs:List Int):List UInt8:=cs.flatMap encC
theorem scanF_succ (f:Nat) (l:List UInt8):scanF (f + 1) l=if (firstP l).2=0 then ([],0) else (((firstP l).1:Int) :: (scanF f (l.drop (firstP l).2)).1,(firstP l).2 + (scanF f (l.drop (firstP l).2)).2):=rfl
theorem scanF_more (f:Nat):∀ l:List UInt8,l.length ≤ f → scanF (f + 1) l=scanF f l:=by
 induction f with
 | zero =>
   intro l h
   have:l=[]:=List.eq_nil_of_length_eq_zero (by omega)
   subst this
   simp [scanF,firstP]
 | succ f ih =>
   intro l h
   rw [scanF_succ (f + 1) l,scanF_succ f l]
   by_cases h0:(firstP l).2=0
   ·rw [if_pos h0,if_pos h0]
   ·rw [if_neg h0,if_neg h0,ih _ (by rw [List.length_drop];omega)]
theorem scanF_eq (f:Nat) (l:List UInt8) (h:l.length ≤ f):scanF f l=scanL l:=by
 obtain ⟨d,rfl⟩:∃ d,f=l.length + d:=⟨f - l.length,by omega⟩
 clear h
 induction d with
 | zero => rfl
 | succ d ih => rw [← Nat.add_assoc,scanF_more _ _ (by omega)];exact ih
theorem scanL_eq (l:List UInt8):scanL l=if (firstP l).2=0 then ([],0) else (((firstP l).1:Int) :: (scanL (l.drop (firstP l).2)).1,(firstP l).2 + (scanL (l.drop (firstP l).2)).2):=by
 rw [← scanF_eq (l.length + 1) l (by omega),scanF_succ,scanF_eq l.length _ (by rw [List.length_drop];omega)]
theorem scanL_nil:scanL []=([],0):=rfl
def decodeL (l:List UInt8):List Int × Nat × Nat :=
 if 4096 < l.length then ([],0,7) else if (scanL l).2 < l.length then ([],(scanL l).2,9) else ((scanL l).1,0,0)
def encodeL (cs:List Int):List UInt8 × Nat :=
 if 4096 < cs.length then ([],7) else if cs.all scalarB then (encAll cs,0) else ([],3)
end ND
namespace ND
open Go
abbrev Mp:=Int × List Int
structure Tab where
 category:List Sp
 cls:List Sp
 joining:List Sp
 bidi:List Sp
 script:List Sp
 status:List Sp
 ignorable:List Sp
 extensions:List Mp
 maps:List Mp
 decomps:List Mp
 excluded:List Int
 prototypes:List Mp
def sylB (c:Int):Bool:=decide (44032 ≤ c ∧ c ≤ 55203)
def jamoB (c:Int):Bool:=decide (4352 ≤ c ∧ c ≤ 4370 ∨ 4449 ≤ c ∧ c ≤ 4469 ∨ 4520 ≤ c ∧ c ≤ 4546)
def surB (c:Int):Bool:=decide (55296 ≤ c ∧ c ≤ 57343)
def resB (c:Int):Bool:=decide (0 ≤ c ∧ c ≤ 127 ∨ 55296 ≤ c ∧ c ≤ 57343 ∨ 44032 ≤ c ∧ c ≤ 55203 ∨ 4352 ≤ c ∧ c ≤ 4370 ∨ 4449 ≤ c ∧ c ≤ 4469 ∨ 4520 ≤ c ∧ c ≤ 4546)
def nameB (c:Int):Bool:=decide (97 ≤ c ∧ c ≤ 122 ∨ 48 ≤ c ∧ c ≤ 57 ∨ c=45)
theorem sylB_iff (c:Int):sylB c=true ↔ 44032 ≤ c ∧ c ≤ 55203:=by unfold sylB;simp
theorem jamoB_iff (c:Int):jamoB c=true ↔ (4352 ≤ c ∧ c ≤ 4370 ∨ 4449 ≤ c ∧ c ≤ 4469 ∨ 4520 ≤ c ∧ c ≤ 4546):=by unfold jamoB;simp
theorem surB_iff (c:Int):surB c=true ↔ 55296 ≤ c ∧ c ≤ 57343:=by unfold surB;simp
theorem resB_iff (c:Int):resB c=true ↔ (0 ≤ c ∧ c ≤ 127 ∨ 55296 ≤ c ∧ c ≤ 57343 ∨ 44032 ≤ c ∧ c ≤ 55203 ∨ 4352 ≤ c ∧ c ≤ 4370 ∨ 4449 ≤ c ∧ c ≤ 4469 ∨ 4520 ≤ c ∧ c ≤ 4546):=by unfold resB;simp
theorem resB_not (c:Int):resB c=false ↔ ¬(0 ≤ c ∧ c ≤ 127 ∨ 55296 ≤ c ∧ c ≤ 57343 ∨ 44032 ≤ c ∧ c ≤ 55203 ∨ 4352 ≤ c ∧ c ≤ 4370 ∨ 4449 ≤ c ∧ c ≤ 4469 ∨ 4520 ≤ c ∧ c ≤ 4546):=by unfold resB;rw [decide_eq_false_iff_not]
theorem nameB_iff (c:Int):nameB c=true ↔ (97 ≤ c ∧ c ≤ 122 ∨ 48 ≤ c ∧ c ≤ 57 ∨ c=45):=by unfold nameB;simp
def valueL:List Sp → Int → Int
 | [],_ => 0
 | s :: r,c => if s.1 ≤ c ∧ c ≤ s.2.1 then s.2.2 else valueL r c
def findL:List Mp → Int → List Int
 | [],_ => []
 | m :: r,c => if m.1=c then m.2 else findL r c
theorem okS_at {lo hi:Int} {l:List Sp}:∀ {last:Int},okS lo hi last l=true → ∀ {i j:Nat} {a b:Sp},i < j → l[i]?=some a → l[j]?=some b → a.1 ≤ a.2.1 ∧ a.2.1 < b.1:=by
 induction l with
 | nil => intro last _ i j a b _ h;simp at h
 | cons s r ih =>
   intro last h i j a b hij ha hb
   obtain ⟨h1,h2⟩:=okS_cons.1 h
   cases j with
   | zero => omega
   | succ j =>
     cases i with
     | zero =>
       simp at ha hb
       subst ha
       have:∀ {last:Int} {r:List Sp},okS lo hi last r=true → ∀ {j:Nat} {b:Sp},r[j]?=some b → last < b.1:=by
        intro last r
        induction r generalizing last with
        | nil => intro _ j b h;simp at h
        | cons t r ih' =>
          intro h j b hb
          obtain ⟨g1,g2⟩:=okS_cons.1 h
          cases j with
          | zero => simp at hb;subst hb;exact g1.1
          | succ j => have:=ih' g2 (j:=j) (by simpa using hb);omega
       exact ⟨h1.2.1,this h2 hb⟩
     | succ i => exact ih h2 (i:=i) (j:=j) (by omega) (by simpa using ha) (by simpa using hb)
theorem okS_el {lo hi:Int} {l:List Sp}:∀ {last:Int},okS lo hi last l=true → ∀ {i:Nat} {a:Sp},l[i]?=some a → last < a.1 ∧ a.1 ≤ a.2.1 ∧ a.2.1 ≤ 1114111 ∧ lo ≤ a.1 ∧ a.2.1 ≤ hi:=by
 induction l with
 | nil => intro last _ i a h;simp at h
 | cons s r ih =>
   intro last h i a ha
   obtain ⟨h1,h2⟩:=okS_cons.1 h
   cases i with
   | zero => simp at ha;subst ha;exact h1
   | succ i =>
     have:=ih h2 (i:=i) (by simpa using ha)
     omega
theorem valueL_at {l:List Sp} {c:Int} {k:Nat} (h0:∀ i a,i < k → l[i]?=some a → a.2.1 < c) {a:Sp} (ha:l[k]?=some a) (hc:a.1 ≤ c) (hc':c ≤ a.2.1):valueL l c=a.2.2:=by
 induction l generalizing k with
 | nil => simp at ha
 | cons s r ih =>
   cases k with
   | zero => simp at ha;subst ha;rw [valueL,if_pos ⟨hc,hc'⟩]
   | succ k =>
     have h1:=h0 0 s (by omega) rfl
     rw [valueL,if_neg (by omega)]
     exact ih (k:=k) (fun i a hi h => h0 (i + 1) a (by omega) (by simpa using h)) (by simpa using ha)
theorem valueL_no {l:List Sp} {c:Int} (h:∀ (i:Nat) (a:Sp),l[i]?=some a → ¬(a.1 ≤ c ∧ c ≤ a.2.1)):valueL l c=0:=by
 induction l with
 | nil => rfl
 | cons s r ih => rw [valueL,if_neg (h 0 s rfl)];exact ih (fun i a hi => h (i + 1) a (by simpa using hi))
theorem valueL_miss {l:List Sp} {c:Int} {k:Nat} {lo hi:Int} (hs:okS lo hi (-1) l=true) (h0:∀ i a,i < k → l[i]?=some a → a.2.1 < c) (h1:∀ a,l[k]?=some a → c < a.1):valueL l c=0:=by
 refine valueL_no fun i a hi => ?_
 rcases Nat.lt_trichotomy i k with h | h | h
 ·have:=h0 i a h hi;omega
 ·subst h;have:=h1 a hi;omega
 ·have hk:k < l.length:=by have:=(List.getElem?_eq_some_iff.1 hi).1;omega
  have hk':l[k]?=some l[k]:=List.getElem?_eq_getElem hk
  have:=okS_at hs h hk' hi
  have:=h1 _ hk'
  omega
def sortM (l:List Mp):Prop:=∀ (i j:Nat) (a b:Mp),i < j → l[i]?=some a → l[j]?=some b → a.1 < b.1
theorem findL_at {l:List Mp} {c:Int} {k:Nat} (h0:∀ i a,i < k → l[i]?=some a → a.1 < c) {a:Mp} (ha:l[k]?=some a) (hc:a.1=c):findL l c=a.2:=by
 induction l generalizing k with
 | nil => simp at ha
 | cons s r ih =>
   cases k with
   | zero => simp at ha;subst ha;rw [findL,if_pos hc]
   | succ k =>
     have h1:=h0 0 s (by omega) rfl
     rw [findL,if_neg (by omega)]
     exact ih (k:=k) (fun i a hi h => h0 (i + 1) a (by omega) (by simpa using h)) (by simpa using ha)
theorem findL_no {l:List Mp} {c:Int} (h:∀ (i:Nat) (a:Mp),l[i]?=some a → a.1 ≠ c):findL l c=[]:=by
 induction l with
 | nil => rfl
 | cons s r ih => rw [findL,if_neg (h 0 s rfl)];exact ih (fun i a hi => h (i + 1) a (by simpa using hi))
theorem findL_miss {l:List Mp} {c:Int} {k:Nat} (hs:sortM l) (h0:∀ i a,i < k → l[i]?=some a → a.1 < c) (h1:∀ a,l[k]?=some a → c ≠ a.1 ∧ c ≤ a.1):findL l c=[]:=by
 refine findL_no fun i a hi => ?_
 rcases Nat.lt_trichotomy i k with h | h | h
 ·have:=h0 i a h hi;omega
 ·subst h;have:=h1 a hi;omega
 ·have hk:k < l.length:=by have:=(List.getElem?_eq_some_iff.1 hi).1;omega
  have hk':l[k]?=some l[k]:=List.getElem?_eq_getElem hk
  have:=hs k i _ _ h hk' hi
  have:=h1 _ hk'
  omega
theorem findL_mem {l:List Mp} {c:Int} (h:findL l c ≠ []):(c,findL l c) ∈ l:=by
 induction l with
 | nil => exact absurd rfl h
 | cons s r ih =>
   rw [findL] at h ⊢
   split at h
   ·rename_i hc;rw [if_pos hc];obtain ⟨a,b⟩:=s;simp only at hc;subst hc;exact List.mem_cons_self
   ·rename_i hc;rw [if_neg hc];exact List.mem_cons_of_mem _ (ih h)
def fixC (c:Int):Int × Int × Int × Int :=
 if 97 ≤ c ∧ c ≤ 122 then (1,0,3,1)
 else if 65 ≤ c ∧ c ≤ 90 then (1,0,3,3)
 else if 48 ≤ c ∧ c ≤ 57 then (3,4,1,1)
 else if c=45 then (5,5,1,1)
 else if c=46 then (5,6,1,1)
 else if c=32 then (7,11,1,0)
 else if c < 32 ∨ c=127 then (8,11,1,0)
 else if c < 127 then (5,8,1,0)
 else if 44032 ≤ c ∧ c ≤ 55203 then (1,0,9,1)
 else if 4352 ≤ c ∧ c ≤ 4370 ∨ 4449 ≤ c ∧ c ≤ 4469 ∨ 4520 ≤ c ∧ c ≤ 4546 then (1,0,9,0)
 else (0,0,0,0)
def propL (l:List Sp) (own c:Int):Int:=if lenC c=0 then 0 else if resB c=true then own else valueL l c
def Tab.categoryOf (T:Tab) (c:Int):Int:=propL T.category (fixC c).1 c
def Tab.bidiOf (T:Tab) (c:Int):Int:=propL T.bidi (fixC c).2.1 c
def Tab.scriptOf (T:Tab) (c:Int):Int:=propL T.script (fixC c).2.2.1 c
def Tab.statusOf (T:Tab) (c:Int):Int:=propL T.status (fixC c).2.2.2 c
def Tab.classOf (T:Tab) (c:Int):Int:=valueL T.cls c
def Tab.joiningOf (T:Tab) (c:Int):Int:=valueL T.joining c
def Tab.ignB (T:Tab) (c:Int):Bool:=valueL T.ignorable c == 1
def Tab.excB (T:Tab) (c:Int):Bool:=decide (c ∈ T.excluded)
def Tab.mapsOf (T:Tab) (c:Int):List Int:=if 65 ≤ c ∧ c ≤ 90 then [c + 32] else findL T.maps c
end ND
namespace Go.Proofs.YtjafpikjpipbkaaGreatDoor
open Go.ChangeShapes Go.WideShapes Go.Deep Go.RowKit ND
def Mapps (w:World) (B:Nat) (v:Value) (xs:List Mp):Prop :=
 ∃ A c,v=.slice A xs.length c ∧ xs.length ≤ c ∧ c ≤ maxLen ∧ (A=none → c=0) ∧
  ∀ i x,xs[i]?=some x → ∃ ad sv,A=some ad ∧ ad.block < B ∧ w.cell? (ad.add (i * 2))=some (.int .i64 x.1) ∧ w.cell? (ad.add (i * 2 + 1))=some sv ∧ Ints w B .i64 sv x.2
section
variable {w w':World} {B B':Nat} {v:Value} {xs:List Mp}
theorem Mapps.keep (h:Mapps w B v xs) (hk:∀ p:Addr,p.block < B → w'.cell? p=w.cell? p):Mapps w' B v xs:=by
 obtain ⟨A,c,hv,h1,h2,h3,h4⟩:=h
 refine ⟨A,c,hv,h1,h2,h3,fun i x hi => ?_⟩
 obtain ⟨ad,sv,e,hb,c0,c1,hi'⟩:=h4 i x hi
 exact ⟨ad,sv,e,hb,(hk _ (by rw [block_of_add];exact hb)).trans c0,(hk _ (by rw [block_of_add];exact hb)).trans c1,hi'.keep hk⟩
theorem Mapps.more (h:Mapps w B v xs) (hB:B ≤ B'):Mapps w B' v xs:=by
 obtain ⟨A,c,hv,h1,h2,h3,h4⟩:=h
 refine ⟨A,c,hv,h1,h2,h3,fun i x hi => ?_⟩
 obtain ⟨ad,sv,e,hb,c0,c1,hi'⟩:=h4 i x hi
 exact ⟨ad,sv,e,by omega,c0,c1,hi'.more hB⟩
theorem Mapps.below (h:Mapps w B v xs) (hb:Below B w w'):Mapps w' B v xs:=h.keep fun _ hp => hb.cell hp
theorem Mapps.later (h:Mapps w w.heap.size v xs) (hb:Below w.heap.size w w'):Mapps w' w'.heap.size v xs:=(h.below hb).more hb.size
theorem Mapps.none_:Mapps w B (.slice none 0 0) []:=⟨none,0,rfl,Nat.le_refl _,Nat.zero_le _,fun _ => rfl,fun _ _ h => by simp at h⟩
end
theorem map_cells {w wr:World} {ad:Addr} {k:Nat} {B:Nat} {x y:Value} (hb:Below B w wr) (ha:ad.block < B) (d0:w.cell? (ad.add (k * 2))=some x) (d1:w.cell? (ad.add (k * 2 + 1))=some y) :
  wr.cell? (ad.add (k * 2))=some x ∧ wr.cell? { block:=(ad.add (k * 2)).block,off:=(ad.add (k * 2)).off + 1,spot:=none }=some y:=by
 refine ⟨(hb.cell (p:=ad.add (k * 2)) (by rw [block_of_add];exact ha)).trans d0,?_⟩
 rw [← add_mid _ _ _ (by decide)];exact (hb.cell (p:=ad.add (k * 2 + 1)) (by rw [block_of_add];exact ha)).trans d1
structure Tv where
 c0:Value
 c1:Value
 c2:Value
 c3:Value
 c4:Value
 c5:Value
 c6:Value
 c7:Value
 c8:Value
 c9:Value
 c10:Value
 c11:Value
structure TabR (w:World) (B:Nat) (t:Tv) (T:Tab):Prop where
 r0:Spans w B t.c0 T.category
 r1:Spans w B t.c1 T.cls
 r2:Spans w B t.c2 T.joining
 r3:Spans w B t.c3 T.bidi
 r4:Spans w B t.c4 T.script
 r5:Spans w B t.c5 T.status
 r6:Spans w B t.c6 T.ignorable
 r7:Mapps w B t.c7 T.extensions
 r8:Mapps w B t.c8 T.maps
 r9:Mapps w B t.c9 T.decomps
 r10:Ints w B .i64 t.c10 T.excluded
 r11:Mapps w B t.c11 T.prototypes
section
variable {w w':World} {B B':Nat} {t:Tv} {T:Tab}
theorem TabR.keep (h:TabR w B t T) (hk:∀ p:Addr,p.block < B → w'.cell? p=w.cell? p):TabR w' B t T :=
 ⟨h.r0.keep hk,h.r1.keep hk,h.r2.keep hk,h.r3.keep hk,h.r4.keep hk,h.r5.keep hk,h.r6.keep hk,h.r7.keep hk,h.r8.keep hk,h.r9.keep hk,h.r10.keep hk,h.r11.keep hk⟩
theorem TabR.more (h:TabR w B t T) (hB:B ≤ B'):TabR w B' t T :=
 ⟨h.r0.more hB,h.r1.more hB,h.r2.more hB,h.r3.more hB,h.r4.more hB,h.r5.more hB,h.r6.more hB,h.r7.more hB,h.r8.more hB,h.r9.more hB,h.r10.more hB,h.r11.more hB⟩
theorem TabR.below (h:TabR w B t T) (hb:Below B w w'):TabR w' B t T:=h.keep fun _ hp => hb.cell hp
theorem TabR.later (h:TabR w w.heap.size t T) (hb:Below w.heap.size w w'):TabR w' w'.heap.size t T:=(h.below hb).more hb.size
end
abbrev Tv.val (t:Tv):Value:=.agg #[t.c0,t.c1,t.c2,t.c3,t.c4,t.c5,t.c6,t.c7,t.c8,t.c9,t.c10,t.c11]
abbrev Tv.cells (t:Tv):Array Value:=#[t.c0,t.c1,t.c2,t.c3,t.c4,t.c5,t.c6,t.c7,t.c8,t.c9,t.c10,t.c11]
end Go.Proofs.YtjafpikjpipbkaaGreatDoor
