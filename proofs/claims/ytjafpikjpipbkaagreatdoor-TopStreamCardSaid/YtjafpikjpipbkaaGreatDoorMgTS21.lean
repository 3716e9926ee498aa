/-
  Merged texts: lemmas and walks that the last text of this claim leans on.
-/
import Derived.Test.YtjafpikjpipbkaaGreatDoorMgTS10
import Derived.Test.YtjafpikjpipbkaaGreatDoorMgTS4
set_option maxRecDepth 100000
set_option maxHeartbeats 40000000
namespace Go.Proofs.YtjafpikjpipbkaaGreatDoor
open Go.RowKit ND
theorem OwnM.restrict {S S':List Nat} {w:World} {base:Nat} {v:Value} {D:List Mp} (h:OwnM S w base v D) (hS:∀ x ∈ S',x ∈ S):OwnM S' w base v D:=by
 obtain ⟨ps,hm,hlen,hown,hr⟩:=h
 refine ⟨ps,hm,hlen,hown,fun i p d hp hd => (hr i p d hp hd).reveil fun p x _ hn hx => ⟨fun h => hn ?_,hx⟩⟩
 rcases List.mem_append.1 h with h | h
 ·exact List.mem_append_left _ (hS _ h)
 ·exact List.mem_append_right _ h
theorem own_own {W:World} {base base':Nat} {t e:TypeId} {size size' n n':Nat} {v v':Value} {xs xs':List Value} (h:W.ownsRow base e size v n xs) (h':W.ownsRow base' t size' v' n' xs') (hne:t ≠ e):∀ q,v.ownBlock=some q → v'.ownBlock ≠ some q:=by
 intro q hq
 rcases h.2 with ⟨rfl,_⟩ | ⟨g',cap,cur,rfl,_,hg,_⟩
 ·cases hq
 ·simp only [Value.ownBlock,Option.some.injEq] at hq
  subst hq
  exact own_ne h' (show Blk W g' e cur from hg) (fun e => hne e.symm)
theorem Blk.drew {w:World} {g:Nat} {t:TypeId} {cs:Array Value} (h:Blk w g t cs):Blk w.drew g t cs:=h
theorem own_one {W:World} {B g:Nat} {e:TypeId} {u:Value} (h:W.ownsRow B e 1 (.slice (some ⟨g,0,none⟩) 1 1) 1 [u]):Blk W g e #[u]:=by
 rcases h.2 with ⟨h,_⟩ | ⟨g',cap,cur,hv,_,hg,_,_,hs,ht⟩
 ·cases h
 ·cases hv
  have e1:cur.toList=[u]:=by rw [← ht,List.take_of_length_le (by rw [Array.length_toList,hs];omega)]
  have e2:cur=#[u]:=by rw [← Array.toList_inj,e1]
  rw [← e2];exact hg
theorem own_of_one {W:World} {B g:Nat} {e:TypeId} {u:Value} (h:Blk W g e #[u]) (hB:B ≤ g):W.ownsRow B e 1 (.slice (some ⟨g,0,none⟩) 1 1) 1 [u] :=
 ⟨rfl,.inr ⟨g,1,#[u],rfl,hB,h,Nat.le_refl _,by decide,rfl,rfl⟩⟩
theorem Ints.veil_own' {S:List Nat} {w:World} {base:Nat} {e:TypeId} {k:IntKind} {v:Value} {xs:List Int} (h:w.ownsRow base e 1 v xs.length (xs.map (Value.int k))) (hS:∀ q,v.ownBlock=some q → q ∉ S):Ints (veil S w) w.heap.size k v xs:=by
 obtain ⟨A,c,hv,h1,h2,h3,h4⟩:=Ints.of_own h
 refine ⟨A,c,hv,h1,h2,h3,fun i x hi => ?_⟩
 obtain ⟨ad,rfl,hb,c0⟩:=h4 i x hi
 have hn:ad.block ∉ S:=hS ad.block (by rw [hv];rfl)
 exact ⟨ad,rfl,hb,by rw [cell_veil (by rw [block_of_add];exact hn)];exact c0⟩
theorem XAt.below {W W':World} {x B:Nat} {c:Int} {sv:Value} {l:List Int} (h:XAt W x B c sv l) (hb:Below W.heap.size W W'):XAt W' x B c sv l :=
 ⟨h.1.later hb,own_later h.2 hb⟩
theorem XAt.far {W W':World} {x B:Nat} {row:Option Nat} {c:Int} {sv:Value} {l:List Int} (h:XAt W x B c sv l) (hg:W.grownBy W' row) (h1:row ≠ some x) (h2:∀ q,sv.ownBlock=some q → row ≠ some q):XAt W' x B c sv l :=
 ⟨h.1.grown hg (fun e => h1 e.symm),h.2.kept hg (by
  cases hv:sv.ownBlock with
  | none => exact .inl rfl
  | some q => exact .inr (fun e => h2 q hv e.symm))⟩
theorem Src.below {W W':World} {g n:Nat} {v:Value} (h:Src W g v n) (hb:Below W.heap.size W W'):Src W' g v n:=by
 obtain ⟨i,h1,h2⟩:=h
 exact ⟨i,h1,h2.later hb⟩
theorem take_ne {D:List Mp} {l:List Int} {j:Nat} {d:Mp} (hd:D[j]?=some d) (h:∀ d ∈ D.take j,d.2 ≠ l) (hl:d.2 ≠ l):∀ d ∈ D.take (j + 1),d.2 ≠ l:=by
 intro x hx
 rw [take_snoc_get hd] at hx
 rcases List.mem_append.1 hx with hx | hx
 ·exact h x hx
 ·rw [List.mem_singleton] at hx;subst hx;exact hl
structure DSt (w:World) (g b n:Nat) (v c0 c1 c2 c3 c4 c5 c6 c7 c8 c11:Value) (v9 v10:Value) (D:List Mp) (X:List Int) (wr:World):Prop where
 blk:Blk wr b 26 #[c0,c1,c2,c3,c4,c5,c6,c7,c8,v9,v10,c11]
 om:OwnM (List.range w.heap.size ++ v10.ownBlock.toList) wr w.heap.size v9 D
 ox:wr.ownsRow w.heap.size 3 1 v10 X.length (X.map (Value.int .i64))
 src:Src wr g v n
 oi:onlyIn [g,b] w wr
section
variable {w:World} {g b n:Nat} {v c0 c1 c2 c3 c4 c5 c6 c7 c8 c11:Value} {v9 v10:Value} {D:List Mp} {X:List Int} {wr w':World}
theorem DSt.own9 (h:DSt w g b n v c0 c1 c2 c3 c4 c5 c6 c7 c8 c11 v9 v10 D X wr):∀ q,v9.ownBlock=some q → w.heap.size ≤ q ∧ q < wr.heap.size:=fun q hq => by
 obtain ⟨ps,_,_,ho,_⟩:=h.om
 exact ho.lt q hq
theorem DSt.own10 (h:DSt w g b n v c0 c1 c2 c3 c4 c5 c6 c7 c8 c11 v9 v10 D X wr):∀ q,v10.ownBlock=some q → w.heap.size ≤ q ∧ q < wr.heap.size:=fun q hq => h.ox.lt q hq
theorem DSt.apart (h:DSt w g b n v c0 c1 c2 c3 c4 c5 c6 c7 c8 c11 v9 v10 D X wr):∀ q,v9.ownBlock=some q → v10.ownBlock ≠ some q:=by
 obtain ⟨ps,_,_,ho,_⟩:=h.om
 exact own_own ho h.ox (by decide)
theorem DSt.only (h:DSt w g b n v c0 c1 c2 c3 c4 c5 c6 c7 c8 c11 v9 v10 D X wr) (hgb:g < b) (hb:b < w.heap.size) (ho:onlyIn [g] wr w') (hs:Src w' g v n) :
  DSt w g b n v c0 c1 c2 c3 c4 c5 c6 c7 c8 c11 v9 v10 D X w':=by
 have h9:=h.own9
 have h10:=h.own10
 refine ⟨ho.blk h.blk (by simp;omega),h.om.kept (ho.more fun x hx => List.mem_append_left _ (by simp at hx ⊢;omega)) (fun q hq hx => ?_),?_,hs,h.oi.trans (ho.more fun x hx => by simp at hx ⊢;exact .inl hx)⟩
 ·rcases List.mem_append.1 hx with hx | hx
  ·have:=h9 q hq;simp at hx;omega
  ·rw [Option.mem_toList] at hx;exact h.apart q hq hx
 ·refine ⟨h.ox.1,?_⟩
  rcases h.ox.2 with hn | ⟨q,cap,cur,rfl,hq,hg,hrest⟩
  ·exact .inl hn
  ·exact .inr ⟨q,cap,cur,rfl,hq,ho.blk hg (by simp;omega),hrest⟩
theorem DSt.append (h:DSt w g b n v c0 c1 c2 c3 c4 c5 c6 c7 c8 c11 v9 v10 D X wr) (hgb:g < b) (hb:b < w.heap.size) {Y:World} {v9':Value} {D':List Mp}
  (ho:onlyIn [] wr Y) (hg:Y.grownBy w' v9.ownBlock) (hM:OwnM (List.range w.heap.size ++ v10.ownBlock.toList) w' w.heap.size v9' D') :
  DSt w g b n v c0 c1 c2 c3 c4 c5 c6 c7 c8 c11 v9' v10 D' X (w'.setCell ⟨b,9,none⟩ v9'):=by
 have h9:=h.own9
 have h10:=h.own10
 have hnot:∀ q,q < w.heap.size → some q ≠ v9.ownBlock:=fun q hq e => by have:=h9 q e.symm;omega
 have hset:w'.grownBy (w'.setCell ⟨b,9,none⟩ v9') (some b):=grown_setCell (grown_refl w' (some b)) 9 v9'
 have hox':w'.ownsRow w.heap.size 3 1 v10 X.length (X.map (Value.int .i64)):=by
  refine ⟨h.ox.1,?_⟩
  rcases h.ox.2 with hn | ⟨q,cap,cur,rfl,hq,hgq,hrest⟩
  ·exact .inl hn
  ·exact .inr ⟨q,cap,cur,rfl,hq,Blk.grown (show Blk Y q 3 cur from ho.blk hgq (by simp)) hg (fun e => h.apart q e.symm rfl),hrest⟩
 have hno9:∀ q,v9'.ownBlock=some q → w.heap.size ≤ q ∧ v10.ownBlock ≠ some q:=fun q hq => by
  obtain ⟨ps,_,_,hown,_⟩:=hM
  exact ⟨(hown.lt q hq).1,own_own hown hox' (by decide) q hq⟩
 refine ⟨?_,?_,?_,?_,?_⟩
 ·simpa using ((ho.blk h.blk (by simp)).grown hg (hnot b (by omega))).put 9 v9'
 ·refine hM.kept (onlyIn.of_grown hset (List.mem_append_left _ (by simp;omega))) fun q hq hx => ?_
  rcases List.mem_append.1 hx with hx | hx
  ·have:=hno9 q hq;simp at hx;omega
  ·rw [Option.mem_toList] at hx;exact (hno9 q hq).2 hx
 ·exact hox'.kept hset (by
   cases hv:v10.ownBlock with
   | none => exact .inl rfl
   | some q => have:=h10 q hv;refine .inr (fun e => ?_);injection e;omega)
 ·obtain ⟨i,h1,h2⟩:=h.src
  exact ⟨i,h1,((ho.blk h2 (by simp)).grown hg (hnot g (by omega))).far (by simp;omega) _⟩
 ·have oX:=h.oi.trans (ho.more (S':=[g,b]) (by simp))
  refine onlyIn.trans ⟨hg.os.trans oX.1,hg.tape.trans oX.2.1,hg.output.trans oX.2.2.1,Nat.le_trans oX.2.2.2.1 hg.size,fun q hq hl => (hg.block q (by have:=oX.2.2.2.1;omega) (hnot q (by omega))).trans (oX.2.2.2.2 q hq hl)⟩ (onlyIn.of_grown hset (by simp))
theorem DSt.exclude (h:DSt w g b n v c0 c1 c2 c3 c4 c5 c6 c7 c8 c11 v9 v10 D X wr) (hgb:g < b) (hb:b < w.heap.size) {Y:World} {v10':Value} {X':List Int}
  (ho:onlyIn [] wr Y) (hg:Y.grownBy w' v10.ownBlock) (hr:∀ q,v10'.ownBlock=some q → v10.ownBlock=some q ∨ q=Y.heap.size) (hX:w'.ownsRow w.heap.size 3 1 v10' X'.length (X'.map (Value.int .i64))) :
  DSt w g b n v c0 c1 c2 c3 c4 c5 c6 c7 c8 c11 v9 v10' D X' (w'.setCell ⟨b,10,none⟩ v10'):=by
 have h9:=h.own9
 have h10:=h.own10
 have hnot:∀ q,q < w.heap.size → some q ≠ v10.ownBlock:=fun q hq e => by have:=h10 q e.symm;omega
 have hset:w'.grownBy (w'.setCell ⟨b,10,none⟩ v10') (some b):=grown_setCell (grown_refl w' (some b)) 10 v10'
 have hYs:wr.heap.size ≤ Y.heap.size:=ho.2.2.2.1
 refine ⟨?_,?_,?_,?_,?_⟩
 ·simpa using ((ho.blk h.blk (by simp)).grown hg (hnot b (by omega))).put 10 v10'
 ·have ho':onlyIn (List.range w.heap.size ++ v10.ownBlock.toList) wr (w'.setCell ⟨b,10,none⟩ v10'):=by
   refine (ho.more (by simp)).trans ((onlyIn.of_own hg fun q hq => ?_).trans (onlyIn.of_grown hset (List.mem_append_left _ (by simp;omega))))
   exact List.mem_append_right _ (by rw [Option.mem_toList];exact hq)
  have hk:=h.om.kept ho' (fun q hq hx => by
   rcases List.mem_append.1 hx with hx | hx
   ·have:=h9 q hq;simp at hx;omega
   ·rw [Option.mem_toList] at hx;exact h.apart q hq hx)
  obtain ⟨ps,hm,hlen,hown,hrd⟩:=h.om
  obtain ⟨ps0,hm0,hlen0,hown0,hrd0⟩:=hk
  have hsz:w'.heap.size ≤ (w'.setCell ⟨b,10,none⟩ v10').heap.size:=hset.size
  refine ⟨ps,hm,hlen,?_,fun i p d hp hd => ?_⟩
  ·refine ⟨hown.1,?_⟩
   rcases hown.2 with hn | ⟨q,cap,cur,rfl,hb',hgq,hrest⟩
   ·exact .inl hn
   ·refine .inr ⟨q,cap,cur,rfl,hb',?_,hrest⟩
    have hlt:q < wr.heap.size:=(Array.getElem?_eq_some_iff.1 hgq).1
    have hqb:=h9 q rfl
    exact ((Blk.grown (show Blk Y q 61 cur from ho.blk hgq (by simp)) hg (fun e => h.apart q rfl e.symm))).far (by simp;omega) _
  ·refine (((hrd i p d hp hd).reveil (S':=List.range w.heap.size ++ v10'.ownBlock.toList ++ v9.ownBlock.toList) (w':=w'.setCell ⟨b,10,none⟩ v10') fun pp x hpb hpn hpc => ?_)).more (Nat.le_trans hYs (Nat.le_trans hg.size hsz))
   simp only [List.mem_append,Option.mem_toList,not_or] at hpn ⊢
   obtain ⟨⟨hn1,hn2⟩,hn3⟩:=hpn
   refine ⟨⟨⟨hn1,fun e => ?_⟩,hn3⟩,?_⟩
   ·rcases hr _ e with e | e
    ·exact hn2 e
    ·omega
   ·have e1:=ho.2.2.2.2 pp.block (by simp) hpb
    have e2:=hg.block pp.block (by omega) (fun e => hn2 e.symm)
    have e3:=hset.block pp.block (by have:=hg.size;omega) (fun e => by injection e with e;rw [e] at hn1;simp at hn1;omega)
    unfold World.cell? at hpc ⊢
    rw [e3,e2,e1];exact hpc
 ·exact hX.kept hset (by
   cases hv:v10'.ownBlock with
   | none => exact .inl rfl
   | some q => have:=(hX.lt q hv).1;refine .inr (fun e => ?_);injection e;omega)
 ·obtain ⟨i,h1,h2⟩:=h.src
  exact ⟨i,h1,((ho.blk h2 (by simp)).grown hg (hnot g (by omega))).far (by simp;omega) _⟩
 ·have oX:=h.oi.trans (ho.more (S':=[g,b]) (by simp))
  refine onlyIn.trans ⟨hg.os.trans oX.1,hg.tape.trans oX.2.1,hg.output.trans oX.2.2.1,Nat.le_trans oX.2.2.2.1 hg.size,fun q hq hl => (hg.block q (by have:=oX.2.2.2.1;omega) (hnot q (by omega))).trans (oX.2.2.2.2 q hq hl)⟩ (onlyIn.of_grown hset (by simp))
end
end Go.Proofs.YtjafpikjpipbkaaGreatDoor
namespace Go.Proofs.YtjafpikjpipbkaaGreatDoor
open Go.RowKit ND
theorem TabR.reveil {S S':List Nat} {w w':World} {B:Nat} {t:Tv} {T:Tab} (h:TabR (veil S w) B t T)
  (hk:∀ p x,p.block < B → p.block ∉ S → w.cell? p=some x → p.block ∉ S' ∧ w'.cell? p=some x):TabR (veil S' w') B t T :=
 ⟨h.r0.reveil hk,h.r1.reveil hk,h.r2.reveil hk,h.r3.reveil hk,h.r4.reveil hk,h.r5.reveil hk,h.r6.reveil hk,h.r7.reveil hk,h.r8.reveil hk,h.r9.reveil hk,h.r10.reveil hk,h.r11.reveil hk⟩
theorem Ints.of_blk {S:List Nat} {W:World} {k:Nat} {e:TypeId} {ys:List Int} (hb:Blk W k e (ys.map (Value.int .i64)).toArray) (hk:k ∉ S) (hl:ys.length ≤ 1000000):Ints (veil S W) W.heap.size .i64 (.slice (some ⟨k,0,none⟩) ys.length ys.length) ys :=
 ⟨_,_,rfl,Nat.le_refl _,by unfold maxLen;omega,(by intro h;cases h),fun i x hi => ⟨_,rfl,hb.lt,by
  rw [cell_veil (by rw [block_of_add];exact hk)]
  have:Addr.add ⟨k,0,none⟩ i=⟨k,i,none⟩:=by cases i <;> simp [Addr.add]
  rw [this]
  exact hb.at_ (by simp [hi])⟩⟩
theorem Mapps.of_blk {S:List Nat} {W:World} {k:Nat} {ps:List (Int × Value)} {D:List Mp} (hb:Blk W k 61 (mpCells ps).toArray) (hk:k ∉ S) (hl:ps.length ≤ 1000000) (hm:ps.map (·.1)=D.map (·.1))
  (hi:∀ (i:Nat) (p:Int × Value) (d:Mp),ps[i]?=some p → D[i]?=some d → Ints (veil S W) W.heap.size .i64 p.2 d.2):Mapps (veil S W) W.heap.size (.slice (some ⟨k,0,none⟩) D.length ps.length) D:=by
 have hlen:ps.length=D.length:=by have:=congrArg List.length hm;simpa using this
 refine ⟨_,_,rfl,by omega,by unfold maxLen;omega,(by intro h;cases h),fun i d hd => ?_⟩
 obtain ⟨p,hp⟩:∃ p,ps[i]?=some p:=by
  have:=(List.getElem?_eq_some_iff.1 hd).1
  exact ⟨_,List.getElem?_eq_getElem (by omega)⟩
 obtain ⟨a0,a1⟩:=mpCells_at hp
 have e1:p.1=d.1:=by
  have h1:(ps.map (·.1))[i]?=(D.map (·.1))[i]?:=by rw [hm]
  rw [List.getElem?_map,List.getElem?_map,hp,hd] at h1
  simpa using h1
 have hc:∀ (j:Nat) (u:Value),(mpCells ps)[j]?=some u → (veil S W).cell? (Addr.add ⟨k,0,none⟩ j)=some u:=fun j u hj => by
  rw [cell_veil (by rw [block_of_add];exact hk)]
  have:Addr.add ⟨k,0,none⟩ j=⟨k,j,none⟩:=by cases j <;> simp [Addr.add]
  rw [this]
  exact hb.at_ (by simpa using hj)
 exact ⟨_,p.2,rfl,hb.lt,by rw [← e1];exact hc _ _ a0,hc _ _ a1,hi i p d hp hd⟩
structure PSt (w:World) (g b n:Nat) (v:Value) (t:Tv) (T:Tab) (lv:Value) (v11:Value) (D:List Mp) (wr:World):Prop where
 blk:Blk wr b 26 #[t.c0,t.c1,t.c2,t.c3,t.c4,t.c5,t.c6,t.c7,t.c8,t.c9,t.c10,v11]
 tr:TabR (veil ([g,b] ++ v11.ownBlock.toList) wr) wr.heap.size { t with c11:=.slice none 0 0 } { T with prototypes:=[] }
 om:OwnM [g,b] wr w.heap.size v11 D
 lit:Mapps (veil ([g,b] ++ v11.ownBlock.toList) wr) wr.heap.size lv protoL
 src:Src wr g v n
 oi:onlyIn [g,b] w wr
section
variable {w:World} {g b n:Nat} {v:Value} {t:Tv} {T:Tab} {lv v11:Value} {D:List Mp} {wr w':World}
theorem PSt.own (h:PSt w g b n v t T lv v11 D wr):∀ q,v11.ownBlock=some q → w.heap.size ≤ q ∧ q < wr.heap.size:=fun q hq => by
 obtain ⟨ps,_,_,ho,_⟩:=h.om
 exact ho.lt q hq
theorem PSt.only (h:PSt w g b n v t T lv v11 D wr) (hgb:g < b) (hb:b < w.heap.size) (ho:onlyIn [g] wr w') (hs:Src w' g v n):PSt w g b n v t T lv v11 D w':=by
 have hown:=h.own
 have ho2:onlyIn [g,b] wr w':=ho.more fun x hx => by simp at hx ⊢;exact .inl hx
 have hk:=onlyIn_reveil (S1:=[g,b] ++ v11.ownBlock.toList) ho2 fun x hx => List.mem_append_left _ hx
 exact ⟨ho.blk h.blk (by simp;omega),(h.tr.reveil hk).more ho.2.2.2.1,h.om.kept ho2 (fun q hq hx => by have:=hown q hq;simp at hx;omega),(h.lit.reveil hk).more ho.2.2.2.1,hs,h.oi.trans ho2⟩
theorem PSt.append (h:PSt w g b n v t T lv v11 D wr) (hgb:g < b) (hb:b < w.heap.size) {Y:World} {v11':Value} {D':List Mp}
  (ho:onlyIn [] wr Y) (hg:Y.grownBy w' v11.ownBlock) (hr:∀ q,v11'.ownBlock=some q → v11.ownBlock=some q ∨ q=Y.heap.size) (hM:OwnM [g,b] w' w.heap.size v11' D') :
  PSt w g b n v t T lv v11' D' (w'.setCell ⟨b,11,none⟩ v11'):=by
 have hown:=h.own
 have hnot:∀ q,q < w.heap.size → some q ≠ v11.ownBlock:=fun q hq e => by have:=hown q e.symm;omega
 have hset:w'.grownBy (w'.setCell ⟨b,11,none⟩ v11') (some b):=grown_setCell (grown_refl w' (some b)) 11 v11'
 have hso:onlyIn [g,b] w' (w'.setCell ⟨b,11,none⟩ v11'):=onlyIn.of_grown hset (by simp)
 have ho2:onlyIn [g,b] wr Y:=ho.more (by simp)
 have k1:=onlyIn_reveil (S1:=[g,b] ++ v11.ownBlock.toList) ho2 fun x hx => List.mem_append_left _ hx
 have k2:=grown_reveil (S:=[g,b]) (v:=v11) (v':=v11') hg hr
 have k3:=onlyIn_reveil (S1:=[g,b] ++ v11'.ownBlock.toList) hso fun x hx => List.mem_append_left _ hx
 refine ⟨?_,?_,?_,?_,?_,?_⟩
 ·simpa using ((ho.blk h.blk (by simp)).grown hg (hnot b (by omega))).put 11 v11'
 ·exact ((((((h.tr.reveil k1).more ho.2.2.2.1).reveil k2).more hg.size).reveil k3)).more hset.size
 ·exact hM.kept hso (fun q hq hx => by
   rcases hr q hq with e | e
   ·have:=hown q e;simp at hx;omega
   ·have:=ho.2.2.2.1;have:=h.oi.2.2.2.1;simp at hx;omega)
 ·exact ((((((h.lit.reveil k1).more ho.2.2.2.1).reveil k2).more hg.size).reveil k3)).more hset.size
 ·obtain ⟨i,h1,h2⟩:=h.src
  exact ⟨i,h1,((ho.blk h2 (by simp)).grown hg (hnot g (by omega))).far (by simp;omega) _⟩
 ·have oX:=h.oi.trans ho2
  exact onlyIn.trans ⟨hg.os.trans oX.1,hg.tape.trans oX.2.1,hg.output.trans oX.2.2.1,Nat.le_trans oX.2.2.2.1 hg.size,fun q hq hl => (hg.block q (by have:=oX.2.2.2.1;omega) (hnot q (by omega))).trans (oX.2.2.2.2 q hq hl)⟩ hso
theorem PSt.tab (h:PSt w g b n v t T lv v11 D wr) (hgb:g < b) (hb:b < w.heap.size):TabR (veil [g,b] wr) wr.heap.size { t with c11:=v11 } { T with prototypes:=D }:=by
 have hk:∀ (p:Addr) (x:Value),p.block < wr.heap.size → p.block ∉ [g,b] ++ v11.ownBlock.toList → wr.cell? p=some x → p.block ∉ [g,b] ∧ wr.cell? p=some x:=fun p x _ hn hx => ⟨fun h => hn (List.mem_append_left _ h),hx⟩
 have hm:=h.om.mapps (by intro x hx;simp at hx;omega)
 rw [veil_size] at hm
 have ht:=h.tr.reveil hk
 exact ⟨ht.r0,ht.r1,ht.r2,ht.r3,ht.r4,ht.r5,ht.r6,ht.r7,ht.r8,ht.r9,ht.r10,hm⟩
end
end Go.Proofs.YtjafpikjpipbkaaGreatDoor
namespace Go.Proofs.YtjafpikjpipbkaaGreatDoor
open Go.RowKit
theorem wpAny_one {P:Program} {ops:Array Oper} {Q:Exit → Act → World → Prop} {md:Region.Mode} {fuel:Nat} {listed:Array Bool} {a:Act} {w:World} (i:Nat) (o:Oper) (hr:Region.ready md ops listed=[i]) (ho:ops[i]?=some o)
  (h:∀ K:Act → World → Prop,(∀ a w,wpAny P md ops Q fuel (listed.setIfInBounds i true) a w → K a w) → if Region.wanted o (yielded ops a.tmps)=true then o.wp P a w K Q else K (a.put o.dst undef) w) :
  wpAny P md ops Q (fuel + 1) listed a w:=by
 refine ⟨fun h0 => absurd (hr.symm.trans h0) (by simp),fun j hj => ?_⟩
 rw [hr,List.mem_singleton] at hj
 subst hj
 have h1:=h _ (fun _ _ h => h)
 unfold wpOp
 rw [ho]
 simp only
 split
 ·rename_i hw;rw [if_pos hw] at h1;exact .inl h1
 ·rename_i hw;rw [if_neg hw] at h1;exact h1
theorem wpAny_below {P:Program} {ops:Array Oper} {Q:Exit → Act → World → Prop} {listed:Array Bool} {a:Act} {w:World} {n:Nat} (k:Nat) (l:List Oper) (hl:l=ops.toList.drop k) (hn:l.length=n) (hs:Region.noSelect ops=true) (hB:Region.lexFrom .any ops n k listed=true)
  (h:wpQuiet P ops (fun w' => ∃ p:Regrown,w'=Go.Sort.grow (redrawn w p.d) p.os) (fun a' => ∀ w',(∃ p:Regrown,w'=Go.Sort.grow (redrawn w p.d) p.os) → Q .normal a' w') l a):wpAny P .any ops Q n listed a w:=by
 subst hn
 refine wpAny_of_quiet (C:=fun w' => ∃ p:Regrown,w'=Go.Sort.grow (redrawn w p.d) p.os) (Q:=fun a' => ∀ w',(∃ p:Regrown,w'=Go.Sort.grow (redrawn w p.d) p.os) → Q .normal a' w') (fun _ w' hw' h => h w' hw') _ _ _ _ ⟨⟨w.drawn,#[]⟩,by rw [Go.Sort.grow_empty];rfl⟩ ?_
 refine wpAnyQ_lex hs l k _ _ (fun j => ?_) hB h
 subst hl
 simp [List.getElem?_drop]
end Go.Proofs.YtjafpikjpipbkaaGreatDoor
