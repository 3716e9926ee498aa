/-
  Merged texts: lemmas and walks that the last text of this claim leans on.
-/
import Derived.Test.YtjafpikjpipbkaaGreatDoorMgTS9
import Derived.Test.YtjafpikjpipbkaaGreatDoorMgTS1
import Derived.Deep.RegionLaw
import Derived.Deep.AppendLies
import Derived.Test.YtjafpikjpipbkaaGreatDoorMgTS5
import Derived.BigRegion
import Derived.Test.YtjafpikjpipbkaaGreatDoorMgTS3
import Derived.Test.YtjafpikjpipbkaaGreatDoorMgTS4
set_option maxRecDepth 100000
set_option maxHeartbeats 40000000
namespace Go.Proofs.YtjafpikjpipbkaaGreatDoor
open Go.RowKit ND
def RetChoose (w:World) (g:Nat) (v:Value) (n:Nat) (ys:List Int) (e:Ending) (w':World):Prop :=
 ∃ r:Int,e=.returned (.int .i64 r) ∧ r ∈ ys ∧ Src w' g v n ∧ w.grownBy w' (some g)
theorem grown_cell {w w':World} {g:Nat} {p:Addr} {x:Value} (h:w.grownBy w' (some g)) (hp:p.block ≠ g) (hc:w.cell? p=some x):w'.cell? p=some x:=by
 have hlt:=World.block_lt_of_cell? _ _ hc
 have e:=h.block p.block hlt (fun e => hp (by cases e;rfl))
 unfold World.cell? at hc ⊢
 rw [e];exact hc
theorem choose_any (w:World) (g:Nat) (v:Value) (xs:List Int) (hv:Ints w g .i64 v xs) (hs:Src w g v xs.length) (ys:List Int) (ad:Addr) (c:Nat)
  (hy:∀ i x,ys[i]?=some x → w.cell? (ad.add i)=some (.int .i64 x)) (hb:ad.block ≠ g) (hl:0 < ys.length) (hl2:ys.length ≤ 1000) :
  Calls Tryz.prog 21 #[.pointer (some ⟨g,0,none⟩),.slice (some ad) ys.length c] w (RetChoose w g v xs.length ys):=by
 have HN:Hid (∀ (W:World) (m:Int),w.grownBy W (some g) → Src W g v xs.length → 0 < m → m ≤ 1000000 → Calls Tryz.prog 18 #[.pointer (some ⟨g,0,none⟩),.int .i64 m] W (RetNext W g v xs.length m)):=by
  refine Lib.hid fun W m hW hS h0 h1 => next_src W g v xs m ?_ hS h0 h1
  obtain ⟨A,c,hv',h1,h2,h3,h4⟩:=hv
  refine ⟨A,c,hv',h1,h2,h3,fun i x hi => ?_⟩
  obtain ⟨a,e,hb,hc⟩:=h4 i x hi
  exact ⟨a,e,hb,grown_cell hW (by rw [block_of_add];omega) hc⟩
 have HY:Hid (∀ (W:World),w.grownBy W (some g) → ∀ i x,ys[i]?=some x → W.cell? (ad.add i)=some (.int .i64 x)):=by
  refine Lib.hid fun W hW i x hi => grown_cell hW (by rw [block_of_add];exact hb) (hy i x hi)
 clear hy hv
 obtain ⟨y0,hy0,hy0m⟩:=get_of hl
 have l0:(0:Int) < (ys.length:Int):=by omega
 have l1:(ys.length:Int) ≤ 1000000:=by omega
 have HS:=Lib.hid hs;clear hs
 go_enter Tryz.func21,Tryz.ntmps21
 go_wp2_with (first | (go_at_call 18;refine (HN.out w _ (grown_refl w _) HS.out ?_ ?_).mono ?_;decide;decide;rintro e w1 ⟨r,rfl,r0,r3,hs1,hg1⟩;have c1:w1.cell? ad=some (.int .i64 y0):=HY.out w1 hg1 0 y0 hy0) | (go_at_call 18;refine (HN.out w1 _ hg1 hs1 l0 l1).mono ?_;rintro e w2 ⟨q,rfl,q0,q1,hs2,hg2⟩;obtain ⟨k,rfl⟩:=Int.eq_ofNat_of_zero_le q0;obtain ⟨x,hx,hxm⟩:=get_of (show k < ys.length by omega);have hg3:=hg1.trans hg2;have c2:=HY.out w2 hg3 k x hx))
 all_goals go_ret
 ·exact ⟨y0,rfl,hy0m,hs1,hg1⟩
 ·exact ⟨x,rfl,hxm,hs2,hg3⟩
end Go.Proofs.YtjafpikjpipbkaaGreatDoor
namespace Go.Proofs.YtjafpikjpipbkaaGreatDoor
open Go.RowKit
end Go.Proofs.YtjafpikjpipbkaaGreatDoor
namespace Go.Proofs.YtjafpikjpipbkaaGreatDoor
open Go.RowKit ND
theorem flat_len3 (acc:List Sp):(acc.flatMap spCells).length=acc.length * 3:=by
 induction acc with
 | nil => rfl
 | cons a r ih => simp only [List.flatMap_cons,List.length_append,ih,List.length_cons];have:(spCells a).length=3:=rfl;omega
theorem spans_news {X:World} {L:List Sp} {ad:Addr}
  (h:∀ i x,L[i]?=some x → X.cell? (ad.add (i * 3))=some (.int .i64 x.1) ∧ X.cell? (ad.add (i * 3 + 1))=some (.int .i64 x.2.1) ∧ X.cell? (ad.add (i * 3 + 2))=some (.int .i64 x.2.2)) :
  ∀ j u,(L.flatMap spCells)[j]?=some u → X.cell? (ad.add j)=some u:=by
 intro j u hj
 have hlt:j < (L.flatMap spCells).length:=(List.getElem?_eq_some_iff.1 hj).1
 rw [flat_len3] at hlt
 have hi:j / 3 < L.length:=by omega
 obtain ⟨x,hx⟩:∃ x,L[j / 3]?=some x:=⟨_,List.getElem?_eq_getElem hi⟩
 obtain ⟨a0,a1,a2⟩:=spCells_at hx
 obtain ⟨b0,b1,b2⟩:=h _ x hx
 have hc:j=j / 3 * 3 ∨ j=j / 3 * 3 + 1 ∨ j=j / 3 * 3 + 2:=by omega
 rcases hc with e | e | e
 ·rw [e] at hj ⊢;rw [a0] at hj;rw [b0];exact hj
 ·rw [e] at hj ⊢;rw [a1] at hj;rw [b1];exact hj
 ·rw [e] at hj ⊢;rw [a2] at hj;rw [b2];exact hj
theorem step_app_nil {P:Program} {ops:Array Oper} {o:Oper} {a:Act} {X:World} {K:Act → World → Prop} {Q:Exit → Act → World → Prop} {E:Prop} {T e:TypeId} {i0:TypeInfo} (hgd:o.guard=none) (s x:Operand)
  (ho:o.op=.call { callee:=.builtin .append,args:=#[s,x],argTypes:=#[T,T] }) (ht:P.underlying T=some (.slice e)) (hi:P.info? e=some i0) (hz:i0.zero=some (.agg #[.int .i64 0,.int .i64 0,.int .i64 0])) (h1:i0.size=3) (h2:i0.bytes=24)
  (R:World) (u:Value) (L:List Sp) (B:Nat) (hs:a.eval s=.slice none 0 0) (hx:a.eval x=u) (hu:Spans X B u L) (hl:L.length ≤ 1000000) (hb:R.heap.size ≤ X.heap.size)
  (h:∀ v' w',w'.ownsRow R.heap.size e 3 v' L.length (L.flatMap spCells) → X.grownBy w' none → K (a.put o.dst v') w') :
  if Region.wanted o (yielded ops a.tmps)=true then Oper.wp P o a X K Q else E:=by
 have hw:Region.wanted o (yielded ops a.tmps)=true:=by simp [Region.wanted,hgd]
 rw [if_pos hw]
 have hown:X.ownsRow R.heap.size e 3 (.slice none 0 0) 0 []:=World.ownsRow_nil _ _ _ _
 obtain ⟨A,c,rfl,hc1,hc2,hA,hcell⟩:=hu
 cases A with
 | none =>
   obtain rfl:c=0:=hA rfl
   obtain rfl:L=[]:=List.eq_nil_of_length_eq_zero (by omega)
   have hr:=run_append_none (P:=P) (ty:=o.type) ht hi hown
   have h3:=h (.slice none 0 0) X (by simpa using hown) (grown_refl X none)
   unfold Oper.wp execOp
   simp only [ho,resolve,invoke,builtin,Sem.run_bind,Sem.run_pure,Result.andThen_ok,List.map_toArray,List.map_cons,List.map_nil,hs,hx,List.length_nil,hr]
   exact h3
 | some ad =>
   refine wp_append_own X s x T ho R.heap.size e i0 (.agg #[.int .i64 0,.int .i64 0,.int .i64 0]) 3 24 ht hi hz h1 h2 rfl (by omega) (.slice none 0 0) 0 [] hs hown ad L.length c (L.flatMap spCells) hx (flat_len3 L) ?_ ?_ (by unfold maxLen;omega) (by omega) hb ?_
   ·refine spans_news fun i x hi => ?_
    obtain ⟨ad',e1,_,e2⟩:=hcell i x hi
    cases e1;exact e2
   ·intro q hq
    obtain ⟨y,_,hy⟩:=List.mem_flatMap.1 hq
    simp only [spCells,List.mem_cons,List.not_mem_nil,or_false] at hy
    rcases hy with rfl | rfl | rfl <;> rfl
   ·intro v' w' p q r
    exact h v' w' (by simpa using p) q
theorem step_app_one {P:Program} {ops:Array Oper} {o:Oper} {a:Act} {X:World} {K:Act → World → Prop} {Q:Exit → Act → World → Prop} {E:Prop} {T e:TypeId} {i0:TypeInfo} (hgd:o.guard=none) (s x:Operand)
  (ho:o.op=.call { callee:=.builtin .append,args:=#[s,x],argTypes:=#[T,T] }) (ht:P.underlying T=some (.slice e)) (hi:P.info? e=some i0) (hz:i0.zero=some (.agg #[.int .i64 0,.int .i64 0,.int .i64 0])) (h1:i0.size=3) (h2:i0.bytes=24)
  (R:World) (v:Value) (k:Nat) (L:List Sp) (f t u:Int) (hs:a.eval s=v) (hx:a.eval x=.slice (some ⟨k,0,none⟩) 1 1) (hown:X.ownsRow R.heap.size e 3 v L.length (L.flatMap spCells)) (hk:Blk X k e #[.int .i64 f,.int .i64 t,.int .i64 u]) (hl:L.length ≤ 1000000) (hb:R.heap.size ≤ X.heap.size)
  (h:∀ v' w',w'.ownsRow R.heap.size e 3 v' (L ++ [(f,t,u)]).length ((L ++ [(f,t,u)]).flatMap spCells) → X.grownBy w' v.ownBlock → K (a.put o.dst v') w') :
  if Region.wanted o (yielded ops a.tmps)=true then Oper.wp P o a X K Q else E:=by
 have hw:Region.wanted o (yielded ops a.tmps)=true:=by simp [Region.wanted,hgd]
 rw [if_pos hw]
 refine wp_append_own X s x T ho R.heap.size e i0 (.agg #[.int .i64 0,.int .i64 0,.int .i64 0]) 3 24 ht hi hz h1 h2 rfl (by omega) v L.length _ hs hown ⟨k,0,none⟩ 1 1 [.int .i64 f,.int .i64 t,.int .i64 u] hx rfl
  (World.news_of_block (cs:=#[.int .i64 f,.int .i64 t,.int .i64 u]) hk) ?_ (by unfold maxLen;omega) (by omega) hb ?_
 ·intro q hq;simp at hq;rcases hq with rfl | rfl | rfl <;> rfl
 ·intro v' w' p q r
  exact h v' w' (by rw [spans_snoc];simpa [spCells] using p) q
theorem own_slice {w:World} {base:Nat} {e:TypeId} {size:Nat} {v:Value} {n:Nat} {xs:List Value} (h:w.ownsRow base e size v n xs):∃ A m c,v=.slice A m c:=by
 rcases h.2 with ⟨rfl,_⟩ | ⟨g,cap,cur,rfl,_⟩
 ·exact ⟨_,_,_,rfl⟩
 ·exact ⟨_,_,_,rfl⟩
theorem undrew {a b:World} {row:Option Nat} (h:a.drew.grownBy b row):a.grownBy b row:=⟨h.os,h.tape,h.output,h.size,h.block⟩
theorem grown_any {a b:World} {row:Option Nat} (h:a.grownBy b none):a.grownBy b row:=⟨h.os,h.tape,h.output,h.size,fun k hk _ => h.block k hk (by simp)⟩
theorem grown_new {a c d:World} {b:Nat} {row:Option Nat} (h:a.grownBy c (some b)) (k:c.grownBy d row) (hr:∀ x,row=some x → a.heap.size ≤ x):a.grownBy d (some b) :=
 ⟨k.os.trans h.os,k.tape.trans h.tape,k.output.trans h.output,Nat.le_trans h.size k.size,fun i hi hn => (k.block i (Nat.lt_of_lt_of_le hi h.size) (fun e => by have:=hr i e.symm;omega)).trans (h.block i hi hn)⟩
def RetAdd (w:World) (b o:Nat) (TT:TypeId) (cs:Array Value) (v:Value) (L:List Sp) (f t val:Int) (e:Ending) (w':World):Prop :=
 ∃ v',e=.returned (.tuple #[]) ∧ Blk w' b TT (cs.setIfInBounds o v') ∧ w.grownBy w' (some b) ∧
  (val ≤ 0 → v'=v) ∧ (0 < val → ∀ S:List Nat,(∀ x ∈ S,x < w.heap.size) → Spans (veil S w') (veil S w').heap.size v' (L ++ [(f,t,val)]))
theorem add_any (w:World) (b o:Nat) (TT:TypeId) (cs:Array Value) (v:Value) (L:List Sp) (f t u val:Int) (hb:Blk w b TT cs) (hc:cs[o]?=some v) (hv:Spans w w.heap.size v L) (hl:L.length ≤ 1000000) :
  Calls Tryz.prog 22 #[.pointer (some ⟨b,o,none⟩),.agg #[.int .i64 f,.int .i64 t,.int .i64 u],.int .i64 val] w (RetAdd w b o TT cs v L f t val):=by
 by_cases h0:0 < val
 ·go_enter Tryz.func22,Tryz.ntmps22
  go_wp2
  have hN:Blk (w.alloc (.cells #[.int .i64 f,.int .i64 t,.int .i64 val] 54)) w.heap.size 54 #[.int .i64 f,.int .i64 t,.int .i64 val]:=Blk.new _ _ _
  have hb1:=hb.alloc (.cells #[.int .i64 f,.int .i64 t,.int .i64 val] 54)
  have hv1:Spans (w.alloc (.cells #[.int .i64 f,.int .i64 t,.int .i64 val] 54)) w.heap.size v L:=hv.below (Below.alloc (Below.refl _ _) (Nat.le_refl _) _)
  have hg1:=grown_alloc w (.cells #[.int .i64 f,.int .i64 t,.int .i64 val] 54) (some b)
  generalize w.alloc (.cells #[.int .i64 f,.int .i64 t,.int .i64 val] 54)=R at *
  obtain ⟨i0,hi,hz0,hz1,hz2⟩:=info_parts Tryz.infoSpan
  have d0:=hN.at_ (i:=0) (u:=.int .i64 f) rfl
  have d1:=hN.at_ (i:=1) (u:=.int .i64 t) rfl
  have d2:=hN.at_ (i:=2) (u:=.int .i64 val) rfl
  have e0:=hb1.at_ hc
  have hRs:w.heap.size < R.heap.size:=hN.lt
  obtain ⟨A,c,rfl,_⟩:=id hv1
  have HV1:=Lib.hid hv1
  have HB1:=Lib.hid hb1
  have HN:=Lib.hid hN
  clear hv hb hv1 hb1 hN
  have hfree:∀ (W:World) (v2:Value) (n:Nat) (xs:List Value),W.ownsRow R.heap.size 54 3 v2 n xs → ∀ k,k < R.heap.size → some k ≠ v2.ownBlock:=fun W v2 n xs h k hk e => by have:=(h.lt k e.symm).1;omega
  have eA:(R.alloc (.cells #[.int .i64 f,.int .i64 t,.int .i64 val] 54)).cell? ⟨b,o,none⟩=some (.slice A L.length c):=(HB1.out.alloc (.cells #[.int .i64 f,.int .i64 t,.int .i64 val] 54)).at_ hc
  have hbR:=HB1.out.lt
  go_region_law (first
   | (refine step_app_nil rfl (.const (.slice none 0 0)) (.tmp 13) rfl Tryz.underlying23 hi hz0 hz1 hz2 R _ L w.heap.size rfl rfl (show Spans R.drew w.heap.size _ L from HV1.out) hl (Nat.le_refl _) ?_;intro v2 w2 hown2 hg2;have hb2:=(show Blk R.drew b TT cs from HB1.out).grown hg2 (by simp);have hN2:=(show Blk R.drew w.heap.size 54 #[.int .i64 f,.int .i64 t,.int .i64 val] from HN.out).grown hg2 (by simp);have d02:=hN2.at_ (i:=0) (u:=.int .i64 f) rfl;have d12:=hN2.at_ (i:=1) (u:=.int .i64 t) rfl;have d22:=hN2.at_ (i:=2) (u:=.int .i64 val) rfl;have hgr2:w.grownBy w2 (some b):=hg1.trans (grown_any (undrew hg2)))
   | (refine step_app_one rfl (.tmp 14) (.tmp 16) rfl Tryz.underlying23 hi hz0 hz1 hz2 R _ w2.heap.size L f t val rfl rfl (hown2.alloc (.cells #[.int .i64 f,.int .i64 t,.int .i64 val] 54)) (Blk.new w2 54 #[.int .i64 f,.int .i64 t,.int .i64 val]) hl (by have:=hg2.size;simp at this ⊢;omega) ?_;intro v3 w3 hown3 hg3;have hb3:=(hb2.alloc (.cells #[.int .i64 f,.int .i64 t,.int .i64 val] 54)).grown hg3 (hfree _ _ _ _ hown2 b HB1.out.lt);have e3:=hb3.at_ hc;have f3:=hb3.free o;have hgr3:=grown_new (hgr2.trans (grown_alloc w2 (.cells #[.int .i64 f,.int .i64 t,.int .i64 val] 54) (some b))) hg3 (fun x hx => by have:=(hown2.lt x hx).1;omega);obtain ⟨A3,m3,c3,rfl⟩:=own_slice hown3)
   | (refine step_app_one rfl (.tmp 14) (.tmp 16) rfl Tryz.underlying23 hi hz0 hz1 hz2 R _ R.heap.size L f t val rfl rfl hown2 hK2 hl (by have:=hg2.size;simp at this ⊢;omega) ?_;intro v3 w3 hown3 hg3;have hb3:=hb2.grown hg3 (hfree _ _ _ _ hown2 b HB1.out.lt);have e3:=hb3.at_ hc;have f3:=hb3.free o;have hgr3:=grown_new hgr2 hg3 (fun x hx => by have:=(hown2.lt x hx).1;omega);obtain ⟨A3,m3,c3,rfl⟩:=own_slice hown3)
   | (refine step_app_nil rfl (.const (.slice none 0 0)) (.tmp 13) rfl Tryz.underlying23 hi hz0 hz1 hz2 R _ L w.heap.size rfl rfl (show Spans (R.alloc (.cells #[.int .i64 f,.int .i64 t,.int .i64 val] 54)).drew w.heap.size _ L from HV1.out.below (show Below w.heap.size R (R.alloc (.cells #[.int .i64 f,.int .i64 t,.int .i64 val] 54)).drew from (show Below w.heap.size R (R.alloc (.cells #[.int .i64 f,.int .i64 t,.int .i64 val] 54)) from Below.alloc (Below.refl _ _) (Nat.le_of_lt hRs) _).drew)) hl (by simp) ?_;intro v2 w2 hown2 hg2;have hb2:=(show Blk (R.alloc (.cells #[.int .i64 f,.int .i64 t,.int .i64 val] 54)).drew b TT cs from HB1.out.alloc (.cells #[.int .i64 f,.int .i64 t,.int .i64 val] 54)).grown hg2 (by simp);have hK2:=(show Blk (R.alloc (.cells #[.int .i64 f,.int .i64 t,.int .i64 val] 54)).drew R.heap.size 54 #[.int .i64 f,.int .i64 t,.int .i64 val] from Blk.new R 54 #[.int .i64 f,.int .i64 t,.int .i64 val]).grown hg2 (by simp);have hgr2:w.grownBy w2 (some b):=(hg1.trans (grown_alloc R (.cells #[.int .i64 f,.int .i64 t,.int .i64 val] 54) (some b))).trans (grown_any (undrew hg2))))
  all_goals go_wp2
  all_goals go_end0
  all_goals exact ⟨_,rfl,hb3.put o _,grown_setCell hgr3 o _,fun h => absurd h0 (by omega),fun _ S hS => Spans.veil_own (base:=R.heap.size) (own_grown hown3 (grown_setCell (grown_refl _ (some b)) o _) hbR) (fun x hx => by have:=hS x hx;omega)⟩
 ·have HB:=Lib.hid hb
  clear hb hv
  go_enter Tryz.func22,Tryz.ntmps22
  go_wp2
  go_end0
  have e1:cs.setIfInBounds o v=cs:=by
   refine Array.ext_getElem? fun i => ?_
   rw [Array.getElem?_setIfInBounds]
   by_cases h:o=i
   ·subst h
    have:=(Array.getElem?_eq_some_iff.1 hc).1
    simp [this]
    exact ((Array.getElem?_eq_some_iff.1 hc).2).symm
   ·simp [h]
  exact ⟨v,rfl,by rw [e1];exact HB.out.alloc _,grown_alloc _ _ _,fun _ => rfl,fun h => absurd h (by omega)⟩
end Go.Proofs.YtjafpikjpipbkaaGreatDoor
namespace Go.Proofs.YtjafpikjpipbkaaGreatDoor
open Go.RowKit ND
theorem Ints.reveil {S S':List Nat} {w w':World} {B:Nat} {k:IntKind} {v:Value} {xs:List Int} (h:Ints (veil S w) B k v xs)
  (hk:∀ p x,p.block < B → p.block ∉ S → w.cell? p=some x → p.block ∉ S' ∧ w'.cell? p=some x):Ints (veil S' w') B k v xs:=by
 obtain ⟨A,c,hv,h1,h2,h3,h4⟩:=h
 refine ⟨A,c,hv,h1,h2,h3,fun i x hi => ?_⟩
 obtain ⟨ad,e,hb,hc⟩:=h4 i x hi
 have hlt:=World.block_lt_of_cell? _ _ hc
 have hn:(ad.add i).block ∉ S:=by
  intro hx
  rw [veil_size] at hlt
  have:=veil_in S w _ hx hlt
  unfold World.cell? at hc
  rw [this] at hc
  simp at hc
 obtain ⟨g1,g2⟩:=hk _ _ (by rw [block_of_add];exact hb) hn (veil_cell hc)
 exact ⟨ad,e,hb,by rw [cell_veil g1];exact g2⟩
theorem unveil_at {S:List Nat} {w:World} {p:Addr} {x:Value} (h:(veil S w).cell? p=some x):p.block ∉ S:=by
 have hlt:=World.block_lt_of_cell? _ _ h
 intro hx
 rw [veil_size] at hlt
 have:=veil_in S w _ hx hlt
 unfold World.cell? at h
 rw [this] at h
 simp at h
theorem Spans.reveil {S S':List Nat} {w w':World} {B:Nat} {v:Value} {xs:List Sp} (h:Spans (veil S w) B v xs)
  (hk:∀ p x,p.block < B → p.block ∉ S → w.cell? p=some x → p.block ∉ S' ∧ w'.cell? p=some x):Spans (veil S' w') B v xs:=by
 obtain ⟨A,c,hv,h1,h2,h3,h4⟩:=h
 refine ⟨A,c,hv,h1,h2,h3,fun i x hi => ?_⟩
 obtain ⟨ad,e,hb,c0,c1,c2⟩:=h4 i x hi
 have go:∀ p y,p.block < B → (veil S w).cell? p=some y → (veil S' w').cell? p=some y:=fun p y hp hy => by
  obtain ⟨g1,g2⟩:=hk p y hp (unveil_at hy) (veil_cell hy)
  rw [cell_veil g1];exact g2
 exact ⟨ad,e,hb,go _ _ (by rw [block_of_add];exact hb) c0,go _ _ (by rw [block_of_add];exact hb) c1,go _ _ (by rw [block_of_add];exact hb) c2⟩
theorem Mapps.reveil {S S':List Nat} {w w':World} {B:Nat} {v:Value} {xs:List Mp} (h:Mapps (veil S w) B v xs)
  (hk:∀ p x,p.block < B → p.block ∉ S → w.cell? p=some x → p.block ∉ S' ∧ w'.cell? p=some x):Mapps (veil S' w') B v xs:=by
 obtain ⟨A,c,hv,h1,h2,h3,h4⟩:=h
 refine ⟨A,c,hv,h1,h2,h3,fun i x hi => ?_⟩
 obtain ⟨ad,sv,e,hb,c0,c1,hI⟩:=h4 i x hi
 have go:∀ p y,p.block < B → (veil S w).cell? p=some y → (veil S' w').cell? p=some y:=fun p y hp hy => by
  obtain ⟨g1,g2⟩:=hk p y hp (unveil_at hy) (veil_cell hy)
  rw [cell_veil g1];exact g2
 exact ⟨ad,sv,e,hb,go _ _ (by rw [block_of_add];exact hb) c0,go _ _ (by rw [block_of_add];exact hb) c1,hI.reveil hk⟩
theorem grown_reveil {S:List Nat} {X w':World} {v v':Value} (q:X.grownBy w' v.ownBlock) (r:∀ g,v'.ownBlock=some g → v.ownBlock=some g ∨ g=X.heap.size) :
  ∀ (p:Addr) (x:Value),p.block < X.heap.size → p.block ∉ S ++ v.ownBlock.toList → X.cell? p=some x → p.block ∉ S ++ v'.ownBlock.toList ∧ w'.cell? p=some x:=by
 intro pp xx hpb hpn hpc
 refine ⟨?_,?_⟩
 ·intro hx
  rcases List.mem_append.1 hx with hx | hx
  ·exact hpn (List.mem_append_left _ hx)
  ·rw [Option.mem_toList] at hx
   rcases r _ hx with e | e
   ·exact hpn (List.mem_append_right _ (by rw [Option.mem_toList];exact e))
   ·omega
 ·have e:=q.block pp.block hpb (fun e => hpn (List.mem_append_right _ (by rw [Option.mem_toList];exact e.symm)))
  unfold World.cell? at hpc ⊢
  rw [e];exact hpc
theorem onlyIn_reveil {S S1:List Nat} {X w':World} (h:onlyIn S X w') (hS:∀ x ∈ S,x ∈ S1) :
  ∀ (p:Addr) (x:Value),p.block < X.heap.size → p.block ∉ S1 → X.cell? p=some x → p.block ∉ S1 ∧ w'.cell? p=some x:=by
 intro pp xx hpb hpn hpc
 refine ⟨hpn,?_⟩
 have e:=h.2.2.2.2 pp.block (fun hx => hpn (hS _ hx)) hpb
 unfold World.cell? at hpc ⊢
 rw [e];exact hpc
def mpCells (ps:List (Int × Value)):List Value:=ps.flatMap fun p => [.int .i64 p.1,p.2]
theorem mpCells_snoc (ps:List (Int × Value)) (p:Int × Value):mpCells (ps ++ [p])=mpCells ps ++ [.int .i64 p.1,p.2]:=by simp [mpCells]
theorem mpCells_at {ps:List (Int × Value)} {i:Nat} {p:Int × Value} (h:ps[i]?=some p):(mpCells ps)[i * 2]?=some (.int .i64 p.1) ∧ (mpCells ps)[i * 2 + 1]?=some p.2:=by
 induction ps generalizing i with
 | nil => simp at h
 | cons a r ih =>
   cases i with
   | zero => simp at h;subst h;exact ⟨rfl,rfl⟩
   | succ j =>
     obtain ⟨a0,a1⟩:=ih (i:=j) (by simpa using h)
     have e:mpCells (a :: r)=[.int .i64 a.1,a.2] ++ mpCells r:=by simp [mpCells]
     rw [e]
     refine ⟨?_,?_⟩
     ·rw [List.getElem?_append_right (by simp;omega)];simpa [show (j + 1) * 2 - 2=j * 2 by omega] using a0
     ·rw [List.getElem?_append_right (by simp;omega)];simpa [show (j + 1) * 2 + 1 - 2=j * 2 + 1 by omega] using a1
def OwnM (S:List Nat) (w:World) (base:Nat) (v:Value) (D:List Mp):Prop :=
 ∃ ps:List (Int × Value),ps.map (·.1)=D.map (·.1) ∧ ps.length=D.length ∧ w.ownsRow base 61 2 v ps.length (mpCells ps) ∧
  ∀ (i:Nat) (p:Int × Value) (d:Mp),ps[i]?=some p → D[i]?=some d → Ints (veil (S ++ v.ownBlock.toList) w) w.heap.size .i64 p.2 d.2
theorem OwnM.nil (S:List Nat) (w:World) (base:Nat):OwnM S w base (.slice none 0 0) [] :=
 ⟨[],rfl,rfl,World.ownsRow_nil _ _ _ _,fun i p d h => by simp at h⟩
theorem step_app_blk {P:Program} {ops:Array Oper} {o:Oper} {a:Act} {X:World} {K:Act → World → Prop} {Q:Exit → Act → World → Prop} {E:Prop} {T e:TypeId} {i0:TypeInfo} (hgd:o.guard=none) (s x:Operand)
  (ho:o.op=.call { callee:=.builtin .append,args:=#[s,x],argTypes:=#[T,T] }) (ht:P.underlying T=some (.slice e)) (hi:P.info? e=some i0) (z:Value) (size bytes:Nat) (hz:i0.zero=some z) (h1:i0.size=size) (h2:i0.bytes=bytes) (hzs:z.cells.size=size) (hsz:0 < size) (hby:bytes ≤ 1000)
  (base:Nat) (v:Value) (n:Nat) (xs:List Value) (k:Nat) (news:Array Value) (hs:a.eval s=v) (hx:a.eval x=.slice (some ⟨k,0,none⟩) 1 1) (hown:X.ownsRow base e size v n xs) (hk:Blk X k e news) (hl:news.toList.length=1 * size) (hone:∀ u ∈ news.toList,u.oneCell'=true) (hn:n ≤ 1000000) (hb:base ≤ X.heap.size)
  (h:∀ v' w',w'.ownsRow base e size v' (n + 1) (xs ++ news.toList) → X.grownBy w' v.ownBlock → (∀ g,v'.ownBlock=some g → v.ownBlock=some g ∨ g=X.heap.size) → (∃ A m c,v'=.slice A m c) → K (a.put o.dst v') w') :
  if Region.wanted o (yielded ops a.tmps)=true then Oper.wp P o a X K Q else E:=by
 refine step_append_lies _ hgd s x T ho base e i0 z size bytes ht hi hz h1 h2 hzs hsz v n xs hs hown ⟨k,0,none⟩ 1 1 news.toList hx hl (World.news_of_block (cs:=news) hk) hone (by omega) (by unfold maxLen;omega) ?_ hb X.heap.size rfl ?_
 ·calc (n + 1) * bytes ≤ 1000001 * 1000:=Nat.mul_le_mul (by omega) hby
   _ ≤ _:=by decide
 ·intro g cap w' p q r _
  refine h _ w' p q (fun g' hg' => ?_) ⟨_,_,_,rfl⟩
  simp only [Value.ownBlock,Option.some.injEq] at hg'
  subst hg';exact r
theorem OwnM.kept {S:List Nat} {w w':World} {base:Nat} {v:Value} {D:List Mp} (h:OwnM S w base v D) (hw:onlyIn S w w') (hv:∀ g,v.ownBlock=some g → g ∉ S):OwnM S w' base v D:=by
 obtain ⟨ps,hm,hlen,hown,hr⟩:=h
 refine ⟨ps,hm,hlen,?_,fun i p d hp hd => Ints.more ((hr i p d hp hd).reveil (onlyIn_reveil hw fun x hx => List.mem_append_left _ hx)) hw.2.2.2.1⟩
 refine ⟨hown.1,?_⟩
 rcases hown.2 with hn | ⟨g,cap,cur,rfl,hb,hg,hrest⟩
 ·exact .inl hn
 ·exact .inr ⟨g,cap,cur,rfl,hb,(hw.2.2.2.2 g (hv g rfl) (Array.getElem?_eq_some_iff.1 hg).1).trans hg,hrest⟩
theorem OwnM.mapps {S:List Nat} {w:World} {base:Nat} {v:Value} {D:List Mp} (h:OwnM S w base v D) (hS:∀ x ∈ S,x < base):Mapps (veil S w) (veil S w).heap.size v D:=by
 obtain ⟨ps,hm,hlen,hown,hr⟩:=h
 rcases hown.2 with ⟨rfl,hn⟩ | ⟨g,cap,cur,rfl,hb,hg,hnc,hcm,_⟩
 ·have:D=[]:=List.eq_nil_of_length_eq_zero (by omega)
  subst this
  exact ⟨none,0,rfl,Nat.le_refl _,Nat.zero_le _,fun _ => rfl,fun _ _ h => by simp at h⟩
 ·have hlt:g < w.heap.size:=(Array.getElem?_eq_some_iff.1 hg).1
  refine ⟨some ⟨g,0,none⟩,cap,by rw [hlen],by omega,hcm,(by intro h;cases h),fun i d hd => ?_⟩
  obtain ⟨p,hp⟩:∃ p,ps[i]?=some p:=by
   have:=(List.getElem?_eq_some_iff.1 hd).1
   exact ⟨_,List.getElem?_eq_getElem (by omega)⟩
  obtain ⟨a0,a1⟩:=mpCells_at hp
  have e1:p.1=d.1:=by
   have h1:(ps.map (·.1))[i]?=(D.map (·.1))[i]?:=by rw [hm]
   rw [List.getElem?_map,List.getElem?_map,hp,hd] at h1
   simpa using h1
  have hgS:g ∉ S:=fun hx => by have:=hS g hx;omega
  have hi:=hr i p d hp hd
  refine ⟨⟨g,0,none⟩,p.2,rfl,by rw [veil_size];exact hlt,?_,?_,?_⟩
  ·rw [cell_veil (by rw [block_of_add];exact hgS),← e1];exact hown.cells (g:=g) rfl _ _ a0
  ·rw [cell_veil (by rw [block_of_add];exact hgS)];exact hown.cells (g:=g) rfl _ _ a1
  ·rw [veil_size]
   exact hi.reveil fun q x _ hq hx => ⟨fun h => hq (List.mem_append_left _ h),hx⟩
theorem step_app_map {P:Program} {ops:Array Oper} {o:Oper} {a:Act} {X:World} {K:Act → World → Prop} {Q:Exit → Act → World → Prop} {E:Prop} {T:TypeId} {i0:TypeInfo} (hgd:o.guard=none) (s x:Operand)
  (ho:o.op=.call { callee:=.builtin .append,args:=#[s,x],argTypes:=#[T,T] }) (ht:P.underlying T=some (.slice 61)) (hi:P.info? 61=some i0) (z:Value) (hz:i0.zero=some z) (h1:i0.size=2) (h2:i0.bytes=32) (hzs:z.cells.size=2)
  (S:List Nat) (base:Nat) (v:Value) (D:List Mp) (k:Nat) (c:Int) (sv:Value) (l:List Int) (hs:a.eval s=v) (hx:a.eval x=.slice (some ⟨k,0,none⟩) 1 1) (hown:OwnM S X base v D) (hk:Blk X k 61 #[.int .i64 c,sv]) (hsv:Ints (veil (S ++ v.ownBlock.toList) X) X.heap.size .i64 sv l)
  (hn:D.length ≤ 1000000) (hb:base ≤ X.heap.size)
  (h:∀ v' w',OwnM S w' base v' (D ++ [(c,l)]) → X.grownBy w' v.ownBlock → (∀ g,v'.ownBlock=some g → v.ownBlock=some g ∨ g=X.heap.size) → (∃ A m c,v'=.slice A m c) → K (a.put o.dst v') w') :
  if Region.wanted o (yielded ops a.tmps)=true then Oper.wp P o a X K Q else E:=by
 obtain ⟨ps,hm,hlen,ho',hr⟩:=hown
 refine step_app_blk hgd s x ho ht hi z 2 32 hz h1 h2 hzs (by omega) (by omega) base v ps.length (mpCells ps) k #[.int .i64 c,sv] hs hx ho' hk rfl ?_ (by omega) hb ?_
 ·intro u hu
  obtain ⟨A,cc,e,_⟩:=hsv
  simp at hu
  rcases hu with rfl | rfl
  ·rfl
  ·rw [e];rfl
 ·intro v' w' p q r sl
  refine h v' w' ⟨ps ++ [(c,sv)],by simp [hm],by simp [hlen],by rw [mpCells_snoc];simpa using p,?_⟩ q r sl
  have key:∀ sv l,Ints (veil (S ++ v.ownBlock.toList) X) X.heap.size .i64 sv l → Ints (veil (S ++ v'.ownBlock.toList) w') w'.heap.size .i64 sv l:=by
   intro sv l hI
   refine Ints.more (hI.reveil fun pp xx hpb hpn hpc => ⟨?_,?_⟩) q.size
   ·intro hx
    rcases List.mem_append.1 hx with hx | hx
    ·exact hpn (List.mem_append_left _ hx)
    ·rw [Option.mem_toList] at hx
     rcases r _ hx with e | e
     ·exact hpn (List.mem_append_right _ (by rw [Option.mem_toList];exact e))
     ·omega
   ·have e:=q.block pp.block hpb (fun e => hpn (List.mem_append_right _ (by rw [Option.mem_toList];exact e.symm)))
    unfold World.cell? at hpc ⊢
    rw [e];exact hpc
  intro i p d hp hd
  by_cases hil:i < ps.length
  ·rw [List.getElem?_append_left hil] at hp
   rw [List.getElem?_append_left (by omega)] at hd
   exact key _ _ (hr i p d hp hd)
  ·have hi2:i=ps.length:=by
    have:=(List.getElem?_eq_some_iff.1 hp).1
    simp at this;omega
   subst hi2
   rw [List.getElem?_append_right (Nat.le_refl _)] at hp
   rw [List.getElem?_append_right (by omega),hlen] at hd
   simp at hp hd
   subst hp;subst hd
   exact key _ _ hsv
end Go.Proofs.YtjafpikjpipbkaaGreatDoor
namespace Go.Proofs.YtjafpikjpipbkaaGreatDoor
open Go.RowKit ND
def poolL:List Int:=[0xad,0xb7,0x301,0x308,0x323,0x345,0x375,0x3b1,0x3b2,0x3b3,0x430,0x5d0,0x5f3,0x628,0x629,0x660,0x6f0,0x94d,0x1e00,0x1e01,0x1e02,0x1e03,0x1e04,0x200c,0x200d,0x30fb,0x4e00,0x1f600]
theorem pool_scal:∀ c ∈ poolL,scalarB c=true:=by decide
theorem pool_any (w:World):Calls Tryz.prog 19 #[] w fun e w' => e=.returned (.slice (some ⟨w.heap.size,0,none⟩) 28 28) ∧ w'=w.alloc (.cells (poolL.map (Value.int .i64)).toArray 3):=by
 go_enter Tryz.func19,Tryz.ntmps19
 go_wp2_with fail
 go_ret
 exact ⟨rfl,rfl⟩
theorem Src.lt {w:World} {g:Nat} {v:Value} {n:Nat} (h:Src w g v n):g < w.heap.size:=by
 obtain ⟨i,_,hb⟩:=h;exact hb.lt
theorem Src.alloc {w:World} {g:Nat} {v:Value} {n:Nat} (h:Src w g v n) (o:Obj):Src (w.alloc o) g v n:=by
 obtain ⟨i,hi,hb⟩:=h;exact ⟨i,hi,hb.alloc o⟩
theorem Src.grown {w w':World} {g:Nat} {v:Value} {n:Nat} {row:Option Nat} (h:Src w g v n) (hg:w.grownBy w' row) (hr:some g ≠ row):Src w' g v n:=by
 obtain ⟨i,hi,hb⟩:=h;exact ⟨i,hi,hb.grown hg hr⟩
def RetPoint (w:World) (g:Nat) (v:Value) (n:Nat) (e:Ending) (w':World):Prop :=
 ∃ r:Int,e=.returned (.int .i64 r) ∧ scalarB r=true ∧ Src w' g v n ∧ w.grownBy w' (some g)
theorem point_src (w:World) (g:Nat) (v:Value) (xs:List Int) (hv:Ints w g .i64 v xs) (hs:Src w g v xs.length) :
  Calls Tryz.prog 27 #[.pointer (some ⟨g,0,none⟩)] w (RetPoint w g v xs.length):=by
 have hlt:=hs.lt
 go_enter Tryz.func27,Tryz.ntmps27
 go_wp2_with fail
 refine (pool_any _).mono ?_
 rintro e w1 ⟨rfl,rfl⟩
 have hs1:=hs.alloc (.cells (poolL.map (Value.int .i64)).toArray 3)
 have hg1:=grown_alloc w (.cells (poolL.map (Value.int .i64)).toArray 3) (some g)
 have hv1:=hv.grown hg1 hlt
 have hcells:=cells_new w (poolL.map (Value.int .i64)) 3
 have hlt1:=hs1.lt
 have hsz:w.heap.size < (w.alloc (.cells (poolL.map (Value.int .i64)).toArray 3)).heap.size:=by simp
 generalize w.alloc (.cells (poolL.map (Value.int .i64)).toArray 3)=w1 at *
 go_wp2_with fail
 refine (next_src w1 g v xs 8 hv1 hs1 (by decide) (by decide)).mono ?_
 rintro e w2 ⟨r,rfl,hr0,hr1,hs2,hg2⟩
 have hv2:=hv1.grown hg2 hlt1
 have hG2:=grown_trans hg1 hg2
 have hc2:r=0 ∨ r=1 ∨ r=2 ∨ r=3 ∨ r=4 ∨ (5 ≤ r ∧ (r == 0)=false ∧ (r == 1)=false ∧ (r == 2)=false ∧ (r == 3)=false ∧ (r == 4)=false):=by
  have:r=0 ∨ r=1 ∨ r=2 ∨ r=3 ∨ r=4 ∨ 5 ≤ r:=by omega
  rcases this with h | h | h | h | h | h
  ·exact .inl h
  ·exact .inr (.inl h)
  ·exact .inr (.inr (.inl h))
  ·exact .inr (.inr (.inr (.inl h)))
  ·exact .inr (.inr (.inr (.inr (.inl h))))
  ·exact .inr (.inr (.inr (.inr (.inr ⟨h,beq_eq_false_iff_ne.2 (by omega),beq_eq_false_iff_ne.2 (by omega),beq_eq_false_iff_ne.2 (by omega),beq_eq_false_iff_ne.2 (by omega),beq_eq_false_iff_ne.2 (by omega)⟩))))
 rcases hc2 with rfl | rfl | rfl | rfl | rfl | ⟨h5,q0,q1,q2,q3,q4⟩
 ·go_wp2_with fail
  refine (next_src w2 g v xs 12 hv2 hs2 (by decide) (by decide)).mono ?_
  rintro e w3 ⟨s,rfl,hs0,hs1',hs3,hg3⟩
  have hG3:=grown_trans hG2 hg3
  have h12:s=0 ∨ s=1 ∨ s=2 ∨ s=3 ∨ s=4 ∨ s=5 ∨ s=6 ∨ s=7 ∨ s=8 ∨ s=9 ∨ s=10 ∨ s=11:=by omega
  clear hs0 hs1' hg3 hv2 hs2 hG2 hv1 hs1 hg1 hv hs hcells
  rcases h12 with rfl | rfl | rfl | rfl | rfl | rfl | rfl | rfl | rfl | rfl | rfl | rfl
  all_goals
   go_wp2_with fail
   go_ret
   exact ⟨_,rfl,by first | decide +kernel | kernel_rfl | rfl,hs3,hG3⟩
 ·go_wp2_with fail
  refine (next_src w2 g v xs 12 hv2 hs2 (by decide) (by decide)).mono ?_
  rintro e w3 ⟨s,rfl,hs0,hs1',hs3,hg3⟩
  have hG3:=grown_trans hG2 hg3
  have h12:s=0 ∨ s=1 ∨ s=2 ∨ s=3 ∨ s=4 ∨ s=5 ∨ s=6 ∨ s=7 ∨ s=8 ∨ s=9 ∨ s=10 ∨ s=11:=by omega
  clear hs0 hs1' hg3 hv2 hs2 hG2 hv1 hs1 hg1 hv hs hcells
  rcases h12 with rfl | rfl | rfl | rfl | rfl | rfl | rfl | rfl | rfl | rfl | rfl | rfl
  all_goals
   go_wp2_with fail
   go_ret
   exact ⟨_,rfl,by first | decide +kernel | kernel_rfl | rfl,hs3,hG3⟩
 ·go_wp2_with fail
  refine (next_src w2 g v xs 12 hv2 hs2 (by decide) (by decide)).mono ?_
  rintro e w3 ⟨s,rfl,hs0,hs1',hs3,hg3⟩
  have hG3:=grown_trans hG2 hg3
  have h12:s=0 ∨ s=1 ∨ s=2 ∨ s=3 ∨ s=4 ∨ s=5 ∨ s=6 ∨ s=7 ∨ s=8 ∨ s=9 ∨ s=10 ∨ s=11:=by omega
  clear hs0 hs1' hg3 hv2 hs2 hG2 hv1 hs1 hg1 hv hs hcells
  rcases h12 with rfl | rfl | rfl | rfl | rfl | rfl | rfl | rfl | rfl | rfl | rfl | rfl
  all_goals
   go_wp2_with fail
   go_ret
   exact ⟨_,rfl,by first | decide +kernel | kernel_rfl | rfl,hs3,hG3⟩
 ·go_wp2_with fail
  refine (next_src w2 g v xs 60 hv2 hs2 (by decide) (by decide)).mono ?_
  rintro e w3 ⟨s,rfl,hs0,hs1',hs3,hg3⟩
  have hG3:=grown_trans hG2 hg3
  go_wp2_with fail
  go_ret
  exact ⟨_,rfl,(scalarB_iff _).2 (by omega),hs3,hG3⟩
 ·go_wp2_with fail
  have hg':=grown_alloc w2 (.cells #[.int .i64 4352,.int .i64 4449,.int .i64 4520,.int .i64 46] 3) (some g)
  refine (next_src _ g v xs 4 (hv2.grown hg' hs2.lt) (hs2.alloc _) (by decide) (by decide)).mono ?_
  rintro e w3 ⟨s,rfl,hs0,hs1',hs3,hg3⟩
  have hG3:=grown_trans hG2 (grown_trans hg' hg3)
  have hk:=cell_kept w2.heap.size (cells_new w2 [.int .i64 4352,.int .i64 4449,.int .i64 4520,.int .i64 46] 3) hg3 (by simp) (by have:=hs2.lt;omega)
  have k0:=hk 0 _ rfl
  have k1:=hk 1 _ rfl
  have k2:=hk 2 _ rfl
  have k3:=hk 3 _ rfl
  clear hk hg' hg3
  have h4:s=0 ∨ s=1 ∨ s=2 ∨ s=3:=by omega
  clear hs0 hs1'
  rcases h4 with rfl | rfl | rfl | rfl
  all_goals
   go_wp2_with fail
   go_ret
   exact ⟨_,rfl,by decide,hs3,hG3⟩
 ·go_wp2_with fail
  refine (next_src w2 g v xs 28 hv2 hs2 (by decide) (by decide)).mono ?_
  rintro e w3 ⟨s,rfl,hs0,hs1',hs3,hg3⟩
  have hG3:=grown_trans hG2 hg3
  have hk:=cell_kept w.heap.size hcells (grown_trans hg2 hg3) hsz (by omega)
  obtain ⟨m,rfl⟩:=Int.eq_ofNat_of_zero_le hs0
  have hm:m < 28:=by omega
  obtain ⟨x,hx,hxm⟩:=get_of (xs:=poolL) (k:=m) hm
  have k0:=hk m (.int .i64 x) (by rw [List.getElem?_map,hx];rfl)
  have hsx:=Lib.hid (pool_scal x hxm)
  clear hk hx hxm hcells hg3
  go_wp2_with fail
  go_ret
  exact ⟨_,rfl,hsx.out,hs3,hG3⟩
end Go.Proofs.YtjafpikjpipbkaaGreatDoor
namespace Go.Proofs.YtjafpikjpipbkaaGreatDoor
open Go.RowKit ND
def StRow (w:World) (sb k:Nat) (st:List Int):Prop:=∃ cs,Blk w sb 3 cs ∧ ∀ j x,k ≤ j → st[j]?=some x → cs[j]?=some (.int .i64 x)
theorem Tryz.infoMap:(Tryz.prog.info? 61).map (fun i => (i.zero,i.size,i.bytes))=some (some (.agg #[.int .i64 0,.slice none 0 0]),2,32):=by kernel_rfl
theorem Ints.veil_own {S:List Nat} {w:World} {base:Nat} {e:TypeId} {k:IntKind} {v:Value} {xs:List Int} (h:w.ownsRow base e 1 v xs.length (xs.map (Value.int k))) (hS:∀ x ∈ S,x < base):Ints (veil S w) (veil S w).heap.size k v xs:=by
 obtain ⟨A,c,hv,h1,h2,h3,h4⟩:=Ints.of_own h
 refine ⟨A,c,hv,h1,h2,h3,fun i x hi => ?_⟩
 obtain ⟨ad,rfl,hb,c0⟩:=h4 i x hi
 have hob:base ≤ ad.block:=by
  rcases h.2 with ⟨hv',_⟩ | ⟨g,cap,cur,hv',hbg,_⟩
  ·rw [hv] at hv';cases hv'
  ·rw [hv] at hv';cases hv';exact hbg
 have hn:ad.block ∉ S:=fun hx => by have:=hS _ hx;omega
 exact ⟨ad,rfl,by rw [veil_size];exact hb,by rw [cell_veil (by rw [block_of_add];exact hn)];exact c0⟩
theorem own_ne {W:World} {base g:Nat} {t e:TypeId} {size n:Nat} {v:Value} {xs:List Value} {cs:Array Value} (h:W.ownsRow base e size v n xs) (hb:Blk W g t cs) (hne:t ≠ e):v.ownBlock ≠ some g:=by
 rcases h.2 with ⟨rfl,_⟩ | ⟨g',cap,cur,rfl,_,hg,_⟩
 ·intro h;cases h
 ·intro he
  simp only [Value.ownBlock,Option.some.injEq] at he
  subst he
  rw [hb] at hg
  cases hg
  exact hne rfl
theorem own_new (w:World) (e:TypeId) (ys:List Int) (hl:ys.length ≤ 1000000) :
  (w.alloc (.cells (ys.map (Value.int .i64)).toArray e)).ownsRow w.heap.size e 1 (.slice (some ⟨w.heap.size,0,none⟩) ys.length ys.length) ys.length (ys.map (Value.int .i64)) :=
 ⟨by simp,.inr ⟨w.heap.size,ys.length,(ys.map (Value.int .i64)).toArray,rfl,Nat.le_refl _,heap_alloc_new w _,Nat.le_refl _,by unfold maxLen;omega,by simp,by simp [List.take_of_length_le]⟩⟩
def XAt (W:World) (x B:Nat) (c:Int) (sv:Value) (l:List Int):Prop :=
 Blk W x 61 #[.int .i64 c,sv] ∧ W.ownsRow B 3 1 sv l.length (l.map (Value.int .i64))
theorem XAt.grown {W W':World} {x B g:Nat} {c:Int} {sv:Value} {l:List Int} (h:XAt W x B c sv l) (hg:W.grownBy W' (some g)) (hx:g ≠ x) (hB:g < B):XAt W' x B c sv l :=
 ⟨h.1.grown hg (by intro e;injection e with e;exact hx e.symm),own_grown h.2 hg hB⟩
theorem onlyIn.far {S:List Nat} {a w w':World} {row:Option Nat} (h:onlyIn S a w) (hg:w.grownBy w' row) (hr:∀ x,row=some x → a.heap.size ≤ x):onlyIn S a w' :=
 ⟨hg.os.trans h.1,hg.tape.trans h.2.1,hg.output.trans h.2.2.1,Nat.le_trans h.2.2.2.1 hg.size,fun k hk hl => (hg.block k (Nat.lt_of_lt_of_le hl h.2.2.2.1) (fun e => by have:=hr k e.symm;omega)).trans (h.2.2.2.2 k hk hl)⟩
theorem XAt.put1 {W:World} {x B:Nat} {c:Int} {sv sv':Value} {l:List Int} (hb:Blk W x 61 #[.int .i64 c,sv]) (ho:W.ownsRow B 3 1 sv' l.length (l.map (Value.int .i64))):XAt (W.setCell ⟨x,1,none⟩ sv') x B c sv' l :=
 ⟨by simpa using hb.put 1 sv',ho.kept (grown_setCell (grown_refl W (some x)) 1 sv') (.inr (own_ne ho hb (by decide)))⟩
structure MSt (w:World) (g b sb n:Nat) (v c0 c1 c2 c3 c4 c6 c7 c9 c10 c11:Value) (k:Nat) (v5 v8:Value) (S:List Sp) (M:List Mp) (st:List Int) (wr:World):Prop where
 blk:Blk wr b 26 #[c0,c1,c2,c3,c4,v5,c6,c7,v8,c9,c10,c11]
 sp:Spans (veil ([g,b,sb] ++ v8.ownBlock.toList) wr) wr.heap.size v5 S
 om:OwnM [g,b,sb] wr (w.heap.size + 1) v8 M
 src:Src wr g v n
 oi:onlyIn [g,b,sb] w wr
 pool:Blk wr w.heap.size 3 (poolL.map (Value.int .i64)).toArray
 row:StRow wr sb k st
section
variable {w:World} {g b sb n:Nat} {v c0 c1 c2 c3 c4 c6 c7 c9 c10 c11:Value} {k:Nat} {v5 v8:Value} {S:List Sp} {M:List Mp} {st:List Int} {wr w':World}
theorem MSt.own (h:MSt w g b sb n v c0 c1 c2 c3 c4 c6 c7 c9 c10 c11 k v5 v8 S M st wr):∀ q,v8.ownBlock=some q → w.heap.size + 1 ≤ q ∧ q < wr.heap.size:=fun q hq => by
 obtain ⟨ps,_,_,ho,_⟩:=h.om
 exact ho.lt q hq
theorem MSt.only (h:MSt w g b sb n v c0 c1 c2 c3 c4 c6 c7 c9 c10 c11 k v5 v8 S M st wr) (hgb:g < b) (hbs:b < sb) (hsb:sb < w.heap.size) (ho:onlyIn [g] wr w') (hs:Src w' g v n) :
  MSt w g b sb n v c0 c1 c2 c3 c4 c6 c7 c9 c10 c11 k v5 v8 S M st w':=by
 have ho3:onlyIn [g,b,sb] wr w':=ho.more fun x hx => by simp at hx ⊢;exact .inl hx
 have hown:=h.own
 refine ⟨ho.blk h.blk (by simp;omega),?_,h.om.kept ho3 (fun q hq hx => by have:=hown q hq;simp at hx;omega),hs,h.oi.trans ho3,ho.blk h.pool (by simp;omega),?_⟩
 ·exact (h.sp.reveil (onlyIn_reveil ho3 fun x hx => List.mem_append_left _ hx)).more ho.2.2.2.1
 ·obtain ⟨cs,h1,h2⟩:=h.row
  exact ⟨cs,ho.blk h1 (by simp;omega),h2⟩
theorem MSt.add (h:MSt w g b sb n v c0 c1 c2 c3 c4 c6 c7 c9 c10 c11 k v5 v8 S M st wr) (hgb:g < b) (hbs:b < sb) (hsb:sb < w.heap.size) {c x:Int} {e:Ending}
  (ret:RetAdd wr.drew b 5 26 #[c0,c1,c2,c3,c4,v5,c6,c7,v8,c9,c10,c11] v5 S c c x e w') :
  ∃ v5' S',e=.returned (.tuple #[]) ∧ MSt w g b sb n v c0 c1 c2 c3 c4 c6 c7 c9 c10 c11 k v5' v8 S' M st w' ∧ (x ≤ 0 → S'=S) ∧ (0 < x → S'=S ++ [(c,c,x)]):=by
 obtain ⟨v5',rfl,hb5,hg0,hz5,hp5⟩:=ret
 have hg5:=undrew hg0
 have ho5:onlyIn [g,b,sb] wr w':=onlyIn.of_grown hg5 (by simp)
 have hsz:=h.oi.2.2.2.1
 have hown:=h.own
 have hP5:=h.pool.grown hg5 (by intro e;injection e;omega)
 have hT5:StRow w' sb k st:=by
  obtain ⟨cs,h1,h2⟩:=h.row
  exact ⟨cs,h1.grown hg5 (by intro e;injection e;omega),h2⟩
 have hs5:Src w' g v n:=by
  obtain ⟨i,h1,h2⟩:=h.src
  exact ⟨i,h1,h2.grown hg5 (by intro e;injection e;omega)⟩
 have hM5:=h.om.kept ho5 (fun q hq hx => by have:=hown q hq;simp at hx;omega)
 by_cases h0:x ≤ 0
 ·refine ⟨v5',S,rfl,⟨by simpa using hb5,?_,hM5,hs5,h.oi.trans ho5,hP5,hT5⟩,fun _ => rfl,fun h => absurd h (by omega)⟩
  rw [hz5 h0]
  exact (h.sp.reveil (onlyIn_reveil ho5 fun x hx => List.mem_append_left _ hx)).more hg5.size
 ·refine ⟨v5',S ++ [(c,c,x)],rfl,⟨by simpa using hb5,?_,hM5,hs5,h.oi.trans ho5,hP5,hT5⟩,fun h => absurd h h0,fun _ => rfl⟩
  have h':=hp5 (by omega) ([g,b,sb] ++ v8.ownBlock.toList) (fun q hq => by
   show q < wr.heap.size
   rcases List.mem_append.1 hq with hq | hq
   ·simp at hq;omega
   ·rw [Option.mem_toList] at hq;exact (hown q hq).2)
  rw [veil_size] at h'
  exact h'
theorem MSt.up (h:MSt w g b sb n v c0 c1 c2 c3 c4 c6 c7 c9 c10 c11 k v5 v8 S M st wr) {st':List Int} (hst:∀ j x,k + 1 ≤ j → st'[j]?=some x → st[j]?=some x):MSt w g b sb n v c0 c1 c2 c3 c4 c6 c7 c9 c10 c11 (k + 1) v5 v8 S M st' wr :=
 ⟨h.blk,h.sp,h.om,h.src,h.oi,h.pool,by
  obtain ⟨cs,h1,h2⟩:=h.row
  exact ⟨cs,h1,fun j x hj hx => h2 j x (by omega) (hst j x hj hx)⟩⟩
theorem MSt.append (h:MSt w g b sb n v c0 c1 c2 c3 c4 c6 c7 c9 c10 c11 k v5 v8 S M st wr) (hgb:g < b) (hbs:b < sb) (hsb:sb < w.heap.size) {X:World} {v8':Value} {M':List Mp}
  (ho:onlyIn [] wr X) (hg:X.grownBy w' v8.ownBlock) (hr:∀ q,v8'.ownBlock=some q → v8.ownBlock=some q ∨ q=X.heap.size) (hM:OwnM [g,b,sb] w' (w.heap.size + 1) v8' M') :
  MSt w g b sb n v c0 c1 c2 c3 c4 c6 c7 c9 c10 c11 k v5 v8' S M' st (w'.setCell ⟨b,8,none⟩ v8'):=by
 have hown:=h.own
 have hsz:=h.oi.2.2.2.1
 have hnot:∀ q,q < w.heap.size + 1 → some q ≠ v8.ownBlock:=fun q hq e => by have:=hown q e.symm;omega
 have hbX:Blk X b 26 #[c0,c1,c2,c3,c4,v5,c6,c7,v8,c9,c10,c11]:=ho.blk h.blk (by simp)
 have ho3:onlyIn [g,b,sb] wr X:=ho.more (by simp)
 have hset:onlyIn [g,b,sb] w' (w'.setCell ⟨b,8,none⟩ v8'):=onlyIn.of_grown (grown_setCell (grown_refl w' (some b)) 8 v8') (by simp)
 have hgs:w'.grownBy (w'.setCell ⟨b,8,none⟩ v8') (some b):=grown_setCell (grown_refl w' (some b)) 8 v8'
 have hXs:wr.heap.size ≤ X.heap.size:=ho.2.2.2.1
 refine ⟨?_,?_,?_,?_,?_,?_,?_⟩
 ·simpa using (hbX.grown hg (hnot b (by omega))).put 8 v8'
 ·exact (((((h.sp.reveil (onlyIn_reveil ho3 fun x hx => List.mem_append_left _ hx)).more hXs).reveil (grown_reveil (v':=v8') hg hr)).more hg.size).reveil (onlyIn_reveil hset fun x hx => List.mem_append_left _ hx)).more hset.2.2.2.1
 ·exact hM.kept hset (fun q hq hx => by
   rcases hr q hq with e | e
   ·have:=hown q e;simp at hx;omega
   ·simp at hx;omega)
 ·obtain ⟨i,h1,h2⟩:=h.src
  exact ⟨i,h1,((ho.blk h2 (by simp)).grown hg (hnot g (by omega))).far (by simp;omega) _⟩
 ·have oX:=h.oi.trans ho3
  refine onlyIn.trans ⟨hg.os.trans oX.1,hg.tape.trans oX.2.1,hg.output.trans oX.2.2.1,Nat.le_trans oX.2.2.2.1 hg.size,fun q hq hl => (hg.block q (by have:=oX.2.2.2.1;omega) (hnot q (by omega))).trans (oX.2.2.2.2 q hq hl)⟩ hset
 ·exact ((ho.blk h.pool (by simp)).grown hg (hnot _ (by omega))).far (by simp;omega) _
 ·obtain ⟨cs,h1,h2⟩:=h.row
  exact ⟨cs,((ho.blk h1 (by simp)).grown hg (hnot _ (by omega))).far (by simp;omega) _,h2⟩
theorem MSt.status (h:MSt w g b sb n v c0 c1 c2 c3 c4 c6 c7 c9 c10 c11 k v5 v8 S M st wr) (hgb:g < b) (hbs:b < sb) (hsb:sb < w.heap.size) (x:Int) :
  MSt w g b sb n v c0 c1 c2 c3 c4 c6 c7 c9 c10 c11 k v5 v8 S M (st.set k x) (wr.setCell ⟨sb,k,none⟩ (.int .i64 x)):=by
 have ho:onlyIn [g,b,sb] wr (wr.setCell ⟨sb,k,none⟩ (.int .i64 x)):=onlyIn.of_grown (grown_setCell (grown_refl wr (some sb)) k _) (by simp)
 have hown:=h.own
 refine ⟨h.blk.far (by simp;omega) _,(h.sp.reveil (onlyIn_reveil ho fun x hx => List.mem_append_left _ hx)).more ho.2.2.2.1,h.om.kept ho (fun q hq hx => by have:=hown q hq;simp at hx;omega),?_,h.oi.trans ho,h.pool.far (by simp;omega) _,?_⟩
 ·obtain ⟨i,h1,h2⟩:=h.src
  exact ⟨i,h1,h2.far (by simp;omega) _⟩
 ·obtain ⟨cs,h1,h2⟩:=h.row
  refine ⟨_,h1.put k _,fun j y hj hy => ?_⟩
  rw [Array.getElem?_setIfInBounds]
  by_cases hjk:k=j
  ·subst hjk
   rw [List.getElem?_set] at hy
   simp only [if_true] at hy
   split at hy
   ·cases hy
    have:=h2 k _ (Nat.le_refl _) (List.getElem?_eq_getElem (by assumption))
    have:=(Array.getElem?_eq_some_iff.1 this).1
    simp [this]
   ·cases hy
  ·rw [if_neg hjk]
   exact h2 j y hj (by rw [List.getElem?_set_ne hjk] at hy;exact hy)
end
end Go.Proofs.YtjafpikjpipbkaaGreatDoor
namespace Go.Proofs.YtjafpikjpipbkaaGreatDoor
open Go.RowKit ND
theorem find_len {l:List Mp} {c:Int} (h:∀ m ∈ l,m.2.length ≤ 1000):(findL l c).length ≤ 1000:=by
 by_cases hf:findL l c=[]
 ·rw [hf];simp
 ·exact h _ (findL_mem hf)
theorem copied_any (v:Value) (ys:List Int) (w:World) (hv:Ints w w.heap.size .i64 v ys) (hl:ys.length ≤ 1000) :
  Calls Tryz.prog 78 #[v] w (RetSeq w ys):=by
 obtain ⟨i0,hi,hz0,hz1,hz2⟩:=info_parts Tryz.infoInt'
 have HV:=Lib.hid hv;clear hv
 go_enter Tryz.func78,Tryz.ntmps78
 go_wp2_with (at_builtin
              refine wpList_append_ints (by rfl) (.const (.slice none 0 0)) (.tmp 3) rfl Tryz.underlying22 hi hz0 hz1 hz2 w.heap.size w.heap.size (.slice none 0 0) [] v ys rfl (World.ownsRow_nil _ _ _ _) rfl HV.out (by simp;omega) (Nat.le_refl _) ?_
              intro v1 w1 hown1 hg1 hn1)
 go_ret
 exact ⟨_,rfl,Ints.of_own (by simpa using hown1),fun h => hn1 h (by trivial),(Below.refl _ _).grown hg1 (Nat.le_refl _) (by simp [Value.ownBlock])⟩
end Go.Proofs.YtjafpikjpipbkaaGreatDoor
