/-
  Merged texts: lemmas and walks that the last text of this claim leans on.
-/
import Derived.Test.YtjafpikjpipbkaaGreatDoorMgTS12
import Derived.Test.YtjafpikjpipbkaaGreatDoorMgTS9
import Derived.Deep.LoopGhost
import Derived.Test.YtjafpikjpipbkaaGreatDoorMgTS10
import Derived.Test.YtjafpikjpipbkaaGreatDoorMgTS5
import Derived.ArgAppend
import Derived.Test.YtjafpikjpipbkaaGreatDoorMgTS8
import Derived.Test.YtjafpikjpipbkaaGreatDoorMgTS4
import Derived.Test.YtjafpikjpipbkaaGreatDoorMgTS11
import Derived.WalkMore
set_option maxRecDepth 100000
set_option maxHeartbeats 40000000
namespace Go.Proofs.YtjafpikjpipbkaaGreatDoor
open Go.RowKit ND
theorem secP_kind (T:Tab) (c:Int):secP T c=((kindZ c == 2) || (kindZ c == 3) || (compL T).any (fun e => e.1.2 == c)):=by
 obtain ⟨_,k2,k3,_⟩:=kind_inv c
 unfold secP
 have e2:decide (4449 ≤ c ∧ c ≤ 4469)=(kindZ c == 2):=by rw [Bool.eq_iff_iff,decide_eq_true_eq,beq_iff_eq];exact k2.symm
 have e3:decide (4520 ≤ c ∧ c ≤ 4546)=(kindZ c == 3):=by rw [Bool.eq_iff_iff,decide_eq_true_eq,beq_iff_eq];exact k3.symm
 rw [e2,e3]
theorem second_any (T:Tab) (mb:Nat) (c:Int) (w:World) (hq:OwnsQ w mb (compL T)):Calls Tryz.prog 137 #[.map (some mb),.int .i64 c] w fun e w' => e=.returned (.bool (secP T c)) ∧ Below w.heap.size w w':=by
 have HK:=Lib.hid (kind_any c w)
 have hsec:=secP_kind T c
 obtain ⟨R,hR⟩:∃ R,R=secP T c:=⟨_,rfl⟩
 rw [← hR] at hsec ⊢
 clear hR
 by_cases h2:kindZ c=2
 ·have x2:(kindZ c == 2)=true:=beq_iff_eq.2 h2
  have HS:Hid (R=true):=Lib.hid (by rw [hsec,x2];rfl)
  generalize kindZ c=kc at *
  clear h2 hsec hq
  go_enter Tryz.func137,Tryz.ntmps137
  go_wp2_with fail
  refine HK.out.mono ?_
  rintro e w2 ⟨rfl,rfl⟩
  go_wp2_with fail
  go_ret
  rw [HS.out]
  exact ⟨rfl,Below.refl _ _⟩
 by_cases h3:kindZ c=3
 ·have x2:(kindZ c == 2)=false:=beq_eq_false_iff_ne.2 h2
  have x3:(kindZ c == 3)=true:=beq_iff_eq.2 h3
  have HS:Hid (R=true):=Lib.hid (by rw [hsec,x2,x3];rfl)
  generalize kindZ c=kc at *
  clear h2 h3 hsec hq
  go_enter Tryz.func137,Tryz.ntmps137
  go_wp2_with fail
  refine HK.out.mono ?_
  rintro e w2 ⟨rfl,rfl⟩
  go_wp2_with fail
  go_ret
  rw [HS.out]
  exact ⟨rfl,Below.refl _ _⟩
 have x2:(kindZ c == 2)=false:=beq_eq_false_iff_ne.2 h2
 have x3:(kindZ c == 3)=false:=beq_eq_false_iff_ne.2 h3
 have HS:Hid (R=(compL T).any (fun e => e.1.2 == c)):=Lib.hid (by rw [hsec,x2,x3];rfl)
 generalize kindZ c=kc at *
 clear h2 h3 hsec
 obtain ⟨w1,hrg,hit,hb1,hsz1⟩:=hq.range Tryz.underlying134 (fun p => (p.2 == c)=false)
 have HIT:=Lib.hid hit
 have HB1:=Lib.hid hb1
 obtain ⟨rb,hrb⟩:∃ rb,rb=w.heap.size:=⟨_,rfl⟩
 rw [← hrb] at hrg HIT
 have HRB:=Lib.hid hrb
 clear hit hb1 hq hrb
 go_enter Tryz.func137,Tryz.ntmps137
 go_wp2_with fail
 refine HK.out.mono ?_
 rintro e w2 ⟨rfl,rfl⟩
 go_wp2_with fail
 clear hrg
 go_loopg [] (compL T).length (fun gm wr => Hid (IterQ (fun p => (p.2 == c)=false) wr mb rb (compL T) gm) ∧ Hid (Below w.heap.size w wr))
 case atStart => exact ⟨HIT,HB1⟩
 case round =>
  obtain ⟨HI,HB⟩:=hrel
  clear HIT HB1
  rcases HI.out.next (P:=Tryz.prog) 0 with ⟨h0,hn,hall⟩ | ⟨q,x,w3,hm,hn,hen,hnx,hg⟩
  ·have hn':∀ ty,(Instr.next (.pointer (some ⟨rb,0,none⟩)) false ty).run Tryz.prog wr=.ok (.tuple #[.bool false]) wr:=fun _ => hn
   have HF:Hid (R=false):=Lib.hid (by
    rw [HS.out,List.any_eq_false]
    intro y hy
    have h:=hall y hy
    simp only [h]
    simp)
   clear hn hall h0
   go_wp2_with fail
   go_ret
   rw [HF.out]
   exact ⟨rfl,HB.out⟩
  ·have hn':∀ ty,(Instr.next (.pointer (some ⟨rb,0,none⟩)) false ty).run Tryz.prog wr=.ok (.tuple #[.bool true,.agg #[.int .i64 q.1,.int .i64 q.2],.int .i64 x]) w3:=fun _ => hn
   have hen':(Instr.entry (.pointer (some ⟨rb,0,none⟩))).run Tryz.prog w3=.ok (.tuple #[.agg #[.int .i64 q.1,.int .i64 q.2],.int .i64 x]) w3:=hen
   have HB3:Hid (Below w.heap.size w w3):=Lib.hid (below_of_grown HB.out hg (by rw [HRB.out];exact Nat.le_refl _) HB.out.size)
   have HM:=Lib.hid hm
   have HNX:=Lib.hid hnx
   clear hn hen hm hnx hg
   cases hq2:(q.2 == c)
   ·obtain ⟨m',hlt,hi'⟩:=HNX.out hq2
    have HI':=Lib.hid (hi'.below ((Below.refl _ _).alloc (Nat.le_refl _) (.cells #[.int .i64 q.1,.int .i64 q.2] 155)))
    have HB4:=Lib.hid (HB3.out.alloc HB3.out.size (.cells #[.int .i64 q.1,.int .i64 q.2] 155))
    clear hi' HNX
    go_wp2_with fail
    go_roundg m'
    case measure => omega
    case rel => exact ⟨HI',HB4⟩
   ·have HF:Hid (R=true):=Lib.hid (by
     rw [HS.out,List.any_eq_true]
     exact ⟨(q,x),HM.out,hq2⟩)
    have HB4:=Lib.hid (HB3.out.alloc HB3.out.size (.cells #[.int .i64 q.1,.int .i64 q.2] 155))
    go_wp2_with fail
    go_ret
    rw [HF.out]
    exact ⟨rfl,HB4.out⟩
theorem Second_any (t:Tv) (T:Tab) (c:Int) (w:World) (ht:TabR w w.heap.size t T) (hg:Glob w) (hck:T.check=0) :
  Calls Tryz.prog 86 #[t.val,.int .i64 c] w fun e w' => e=.returned (.bool (secP T c)) ∧ Below w.heap.size w w':=by
 have HB0:Hid (Below w.heap.size w (w.alloc (.cells t.cells 26))):=Lib.hid ((Below.refl _ _).alloc (Nat.le_refl _) _)
 have HT:Hid (Tbl (w.alloc (.cells t.cells 26)) w.heap.size t T):=Lib.hid ⟨Blk.new _ _ _,ht.later HB0.out⟩
 have HC:=Lib.hid (check_table t T _ HT.out.2 (hg.later HB0.out))
 rw [hck] at HC
 have HCO:=Lib.hid (fun W (h:TabR W W.heap.size t T) => collect_any t T W h hck)
 clear ht hg hck
 go_enter Tryz.func86,Tryz.ntmps86
 go_upto_region 1 with fail
 generalize w.alloc (.cells t.cells 26)=w1 at *
 obtain ⟨x0,x1,x2,x3,x4,x5,x6,x7,x8,x9,x10,x11⟩:=HT.out.1.tab
 go_wp2_with fail
 refine HC.out.mono ?_
 rintro e w2 ⟨rfl,b2⟩
 have HT2:=Lib.hid (HT.out.later b2)
 have HB2:=Lib.hid (below_next HB0.out b2)
 clear x0 x1 x2 x3 x4 x5 x6 x7 x8 x9 x10 x11 b2
 obtain ⟨x0,x1,x2,x3,x4,x5,x6,x7,x8,x9,x10,x11⟩:=HT2.out.1.tab
 go_wp2_with fail
 refine (HCO.out _ HT2.out.2).mono ?_
 rintro e w3 ⟨mb,rfl,_,hq,b3⟩
 have HB3:=Lib.hid (below_next HB2.out b3)
 have HQ:=Lib.hid (second_any T mb c w3 hq)
 clear x0 x1 x2 x3 x4 x5 x6 x7 x8 x9 x10 x11 b3 hq
 go_wp2_with fail
 refine HQ.out.mono ?_
 rintro e w4 ⟨rfl,b4⟩
 go_wp2_with fail
 go_ret
 exact ⟨rfl,below_next HB3.out b4⟩
end Go.Proofs.YtjafpikjpipbkaaGreatDoor
namespace Go.Proofs.YtjafpikjpipbkaaGreatDoor
open Go.RowKit ND
theorem row_le' {w:World} {base base' size n:Nat} {e:TypeId} {v:Value} {xs:List Value} (h:w.ownsRow base e size v n xs) (hb:base' ≤ base):w.ownsRow base' e size v n xs :=
 ⟨h.1,h.2.imp id fun ⟨g,cap,cur,hv,h1,h2⟩ => ⟨g,cap,cur,hv,Nat.le_trans hb h1,h2⟩⟩
def RetSeqO (w:World) (ys:List Int) (e:Ending) (w':World):Prop :=
 ∃ v,e=.returned v ∧ w'.ownsRow w.heap.size 3 1 v ys.length (ys.map (Value.int .i64)) ∧ (ys=[] → v=.slice none 0 0) ∧ Below w.heap.size w w'
theorem copiedO_any (v:Value) (ys:List Int) (w:World) (hv:Ints w w.heap.size .i64 v ys) (hl:ys.length ≤ 1000) :
  Calls Tryz.prog 78 #[v] w (RetSeqO w ys):=by
 obtain ⟨i0,hi,hz0,hz1,hz2⟩:=info_parts Tryz.infoInt'
 have HV:=Lib.hid hv;clear hv
 go_enter Tryz.func78,Tryz.ntmps78
 go_wp2_with (at_builtin
              refine wpList_append_ints (by rfl) (.const (.slice none 0 0)) (.tmp 3) rfl Tryz.underlying22 hi hz0 hz1 hz2 w.heap.size w.heap.size (.slice none 0 0) [] v ys rfl (World.ownsRow_nil _ _ _ _) rfl HV.out (by simp;omega) (Nat.le_refl _) ?_
              intro v1 w1 hown1 hg1 hn1)
 go_ret
 exact ⟨_,rfl,(by simpa using hown1),fun h => hn1 h (by trivial),(Below.refl _ _).grown hg1 (Nat.le_refl _) (by simp [Value.ownBlock])⟩
theorem decompO_any (t:Tv) (T:Tab) (c:Int) (w:World) (ht:TabR w w.heap.size t T) (hs:sortM T.decomps) (hne:∀ m ∈ T.decomps,m.2 ≠ [] ∧ m.2.length ≤ 1000) (hlen:T.decomps.length ≤ 256) :
  Calls Tryz.prog 169 #[t.val,.int .i64 c] w (RetSeqO w (findL T.decomps c)):=by
 have HP:=Lib.hid (fun W (h:Mapps W W.heap.size t.c9 T.decomps) => find_any t.c9 T.decomps c W h hs (fun m hm => (hne m hm).1) hlen)
 have HS:=Lib.hid (find_len (c:=c) (fun m hm => (hne m hm).2))
 have hr:=ht.r9
 have HR:=Lib.hid (fun o:Obj => hr.later ((Below.refl _ _).alloc (Nat.le_refl _) o))
 clear hr ht hs hlen hne
 go_enter Tryz.func169,Tryz.ntmps169
 go_wp2_with fail
 refine (HP.out _ (HR.out _)).mono ?_
 rintro e w1 ⟨v,rfl,hv,hn,b1⟩
 go_wp2_with fail
 refine (copiedO_any v _ w1 hv HS.out).mono ?_
 rintro e w2 ⟨v',rfl,hv',hn',b2⟩
 go_wp2_with fail
 go_ret
 have b0:Below w.heap.size w (w.alloc (.cells t.cells 26)):=(Below.refl _ _).alloc (Nat.le_refl _) _
 exact ⟨_,rfl,row_le' hv' (Nat.le_trans b0.size b1.size),hn',below_next b0 (below_next b1 b2)⟩
end Go.Proofs.YtjafpikjpipbkaaGreatDoor
namespace Go.Proofs.YtjafpikjpipbkaaGreatDoor
open Go.RowKit
def ownS (v:Value):List Nat:=match v.ownBlock with | some g => [g] | none => []
def Gr (w:World) (v:Value) (w':World) (v':Value):Prop:=onlyIn (ownS v) w w' ∧ (v'.ownBlock=v.ownBlock ∨ ∀ g,v'.ownBlock=some g → w.heap.size ≤ g)
theorem Gr.refl (w:World) (v:Value):Gr w v w v:=⟨onlyIn.refl _ _,.inl rfl⟩
theorem mem_ownS {v:Value} {k:Nat}:k ∈ ownS v ↔ v.ownBlock=some k:=by
 unfold ownS
 cases v.ownBlock with
 | none => simp
 | some g => simp [eq_comm]
theorem Gr.trans {a b c:World} {u v x:Value} (h:Gr a u b v) (k:Gr b v c x):Gr a u c x:=by
 refine ⟨?_,?_⟩
 ·obtain ⟨⟨h1,h2,h3,h4,h5⟩,h6⟩:=h
  obtain ⟨⟨k1,k2,k3,k4,k5⟩,_⟩:=k
  refine ⟨k1.trans h1,k2.trans h2,k3.trans h3,Nat.le_trans h4 k4,fun q hq hl => ?_⟩
  rw [k5 q ?_ (by omega)]
  ·exact h5 q hq hl
  ·rw [mem_ownS]
   intro he
   rcases h6 with h6 | h6
   ·rw [h6] at he;exact hq (mem_ownS.2 he)
   ·have:=h6 q he;omega
 ·rcases k.2 with k2 | k2
  ·rcases h.2 with h2 | h2
   ·exact .inl (k2.trans h2)
   ·exact .inr fun g hg => h2 g (k2 ▸ hg)
  ·exact .inr fun g hg => Nat.le_trans h.1.2.2.2.1 (k2 g hg)
theorem Gr.of_below {w w':World} {v:Value} (h:Below w.heap.size w w'):Gr w v w' v:=⟨onlyIn.of_below h,.inl rfl⟩
theorem Gr.below {w w':World} {u v:Value} {B:Nat} (h:Gr w u w' v) (hB:∀ g,u.ownBlock=some g → B ≤ g) (hs:B ≤ w.heap.size):Below B w w' :=
 h.1.below (fun x hx => hB x (mem_ownS.1 hx)) hs
theorem own_base {w:World} {base:Nat} {e:TypeId} {size n:Nat} {v:Value} {xs:List Value} (h:w.ownsRow base e size v n xs):∀ g,v.ownBlock=some g → base ≤ g ∧ g < w.heap.size:=by
 intro g hg
 rcases h.2 with ⟨rfl,_⟩ | ⟨g',cap,cur,rfl,h1,h2,_⟩
 ·cases hg
 ·simp only [Value.ownBlock,Option.some.injEq] at hg
  subst hg
  refine ⟨h1,?_⟩
  cases hl:decide (g' < w.heap.size) with
  | true => simpa using hl
  | false => rw [decide_eq_false_iff_not] at hl;rw [Array.getElem?_eq_none (by omega)] at h2;cases h2
theorem Gr.blk {w w':World} {u v:Value} {b:Nat} {t:TypeId} {cs:Array Value} (h:Gr w u w' v) (hb:Blk w b t cs) (hn:u.ownBlock ≠ some b):Blk w' b t cs:=h.1.blk hb fun hx => hn (mem_ownS.1 hx)
theorem append_stays {P:Program} {w:World} {t ty e:TypeId} {i:TypeInfo} (ht:P.underlying t=some (.slice e)) (hi:P.info? e=some i) (hz:i.zero=some (.int .i64 0)) (hs:i.size=1) (hby:i.bytes=8)
  {base:Nat} {v:Value} {n:Nat} {xs:List Value} (hown:w.ownsRow base e 1 v n xs) {ad:Addr} {m c:Nat} {news:List Value} (hl:news.length=m) (hnews:∀ j u,news[j]?=some u → w.cell? (ad.add j)=some u) (h1:∀ u ∈ news,u.oneCell'=true)
  (h63:n + m ≤ 1000000) {v':Value} {w':World} (hr:(Builtin.append_ #[t,t] ty #[v,.slice (some ad) m c]).run P w=.ok v' w'):v'.ownBlock=v.ownBlock ∨ ∀ g,v'.ownBlock=some g → w.heap.size ≤ g:=by
 have h63':n + m ≤ maxLen:=by unfold maxLen;omega
 rcases hown.2 with ⟨rfl,rfl⟩ | ⟨g,cap,cur,rfl,hbg,hg,hnc,hcm,hcs,htake⟩
 ·have hx:xs=[]:=List.eq_nil_of_length_eq_zero (by simpa using hown.1)
  subst hx
  obtain ⟨v2,w2,e2,ho2,_⟩:=run_append_own (P:=P) w w.heap.size t ty e i (.int .i64 0) 1 8 ht hi hz hs hby rfl (by omega) (.slice none 0 0) 0 [] (World.ownsRow_nil _ _ _ _) ad m c news (by omega) hnews h1 h63' (by omega) (Nat.le_refl _)
  rw [hr] at e2;cases e2
  exact .inr fun g hg => (own_base ho2 g hg).1
 ·by_cases hroom:n + m ≤ cap
  ·have e2:=run_append_room (P:=P) w t ty e i ht hi g n cap cur hg ad m c news (by rw [hs];omega) hnews h1 hroom (by rw [hs,hcs];omega)
   rw [hr] at e2;cases e2
   exact .inl rfl
  ·obtain ⟨v2,w2,e2,ho2,_⟩:=run_append_arg_grows (P:=P) w t ty e i (.int .i64 0) 1 8 ht hi hz hs hby rfl (by omega) ⟨g,0,none⟩ n cap xs hown.1 (hown.cells (g:=g) rfl) ad m c news (by omega) hnews (by omega) h63' (by omega)
   rw [hr] at e2;cases e2
   exact .inr fun q hq => (own_base ho2 q hq).1
theorem wpList_append_gr {P:Program} {ops:Array Oper} {rest:List Oper} {o:Oper} {a:Act} {w:World} {Q:Exit → Act → World → Prop} {T e:TypeId} {i0:TypeInfo} (hw:Region.wanted o (yielded ops a.tmps)=true) (s x:Operand)
  (ho:o.op=.call { callee:=.builtin .append,args:=#[s,x],argTypes:=#[T,T] }) (ht:P.underlying T=some (.slice e)) (hi:P.info? e=some i0) (hz:i0.zero=some (.int .i64 0)) (h1:i0.size=1) (h2:i0.bytes=8)
  (B base:Nat) (v:Value) (acc:List Int) (u:Value) (ys:List Int) (hs:a.eval s=v) (hown:w.ownsRow base e 1 v acc.length (acc.map (Value.int .i64))) (hx:a.eval x=u) (hu:Ints w B .i64 u ys) (hl:acc.length + ys.length ≤ 1000000) (hb:base ≤ w.heap.size)
  (h:∀ v' w',w'.ownsRow base e 1 v' (acc ++ ys).length ((acc ++ ys).map (Value.int .i64)) → Gr w v w' v' → wpList P ops Q rest (a.put o.dst v') w'):wpList P ops Q (o :: rest) a w:=by
 refine wpList_step fun K hK => ?_
 rw [if_pos hw]
 obtain ⟨A,c,rfl,hc1,hc2,hA,hcell⟩:=hu
 cases A with
 | none =>
   obtain rfl:c=0:=hA rfl
   obtain rfl:ys=[]:=List.eq_nil_of_length_eq_zero (by omega)
   have hr:=run_append_none (P:=P) (ty:=o.type) ht hi hown
   have h3:=hK _ _ (h v w (by simpa using hown) (Gr.refl _ _))
   unfold Oper.wp execOp
   simp only [ho,resolve,invoke,builtin,Sem.run_bind,Sem.run_pure,Result.andThen_ok,List.map_toArray,List.map_cons,List.map_nil,hs,hx,List.length_nil,hr]
   exact h3
 | some ad =>
   have hnews:∀ (j:Nat) (q:Value),(ys.map (Value.int .i64))[j]?=some q → w.cell? (ad.add j)=some q:=by
    intro j q hq
    rw [List.getElem?_map] at hq
    cases hy:ys[j]? with
    | none => rw [hy] at hq;cases hq
    | some y =>
      rw [hy] at hq;cases hq
      obtain ⟨ad',e1,_,e2⟩:=hcell j y hy
      cases e1;exact e2
   have hone:∀ q ∈ ys.map (Value.int .i64),q.oneCell'=true:=by
    intro q hq
    obtain ⟨y,_,rfl⟩:=List.mem_map.1 hq
    rfl
   obtain ⟨v',w',hr,ho',hg',_⟩:=run_append_own (P:=P) w base T o.type e i0 (.int .i64 0) 1 8 ht hi hz h1 h2 rfl (by omega) v acc.length _ hown ad ys.length c (ys.map (Value.int .i64)) (by simp) hnews hone (by unfold maxLen;omega) (by omega) hb
   have hst:=append_stays (P:=P) (ty:=o.type) ht hi hz h1 h2 hown (c:=c) (m:=ys.length) (by simp) hnews hone hl hr
   have h3:=hK _ _ (h v' w' (by simpa using ho') ⟨onlyIn.of_own hg' fun g hg => mem_ownS.2 hg,hst⟩)
   unfold Oper.wp execOp
   simp only [ho,resolve,invoke,builtin,Sem.run_bind,Sem.run_pure,Result.andThen_ok,List.map_toArray,List.map_cons,List.map_nil,hs,hx,hr]
   exact h3
end Go.Proofs.YtjafpikjpipbkaaGreatDoor
namespace Go.Proofs.YtjafpikjpipbkaaGreatDoor
open Go.RowKit ND
def expG (T:Tab) (f:Nat) (c:Int):List Int:=if sylB c=true then hangD c else expF T.decomps f c
theorem expG_full (T:Tab) (c:Int):expG T T.decomps.length c=expandL T c:=rfl
theorem expG_len {T:Tab} (hD:DecOk T) {f:Nat} {c:Int} (h:fin T.decomps f c=true) (hf:f ≤ T.decomps.length):(expG T f c).length ≤ 18:=by
 unfold expG
 split
 ·have:=hangD_len c;omega
 ·rw [← (fin_up h _ hf).2];exact hD.le c
def RetGr (w:World) (base:Nat) (v:Value) (ys:List Int) (e:Ending) (w':World):Prop :=
 ∃ v',e=.returned v' ∧ w'.ownsRow base 3 1 v' ys.length (ys.map (Value.int .i64)) ∧ Gr w v w' v'
theorem TabR.grown {w w':World} {base:Nat} {t:Tv} {T:Tab} {u v:Value} {e:TypeId} {size n:Nat} {xs:List Value} (ht:TabR w base t T) (ho:w.ownsRow base e size u n xs) (hB:base ≤ w.heap.size) (hg:Gr w u w' v):TabR w' base t T :=
 ht.below (hg.below (fun g h => (own_base ho g h).1) hB)
theorem expand_leaf (t:Tv) (T:Tab) (hD:DecOk T) (f:Nat) (c:Int) (w:World) (base:Nat) (v:Value) (acc:List Int) (ht:TabR w base t T) (hB:base ≤ w.heap.size) (ho:w.ownsRow base 3 1 v acc.length (acc.map (Value.int .i64))) (h:sylB c=true ∨ findL T.decomps c=[]) (hl:acc.length ≤ 200000) :
  Calls Tryz.prog 134 #[t.val,v,.int .i64 c] w (RetGr w base v (acc ++ expG T f c)):=by
 obtain ⟨A,c0,rfl,_⟩:=id (Ints.of_own ho)
 obtain ⟨i0,hi,hz0,hz1,hz2⟩:=info_parts Tryz.infoInt'
 have HB0:Hid (Below w.heap.size w (w.alloc (.cells t.cells 26))):=Lib.hid ((Below.refl _ _).alloc (Nat.le_refl _) _)
 have HT:Hid (Tbl (w.alloc (.cells t.cells 26)) w.heap.size t T):=Lib.hid ⟨Blk.new _ _ _,(ht.more hB).later HB0.out⟩
 have HO:=Lib.hid (own_later ho HB0.out)
 have HG:=Lib.hid (Gr.of_below (v:=.slice A acc.length c0) HB0.out)
 have HH:=Lib.hid (fun W => hdec_any c W)
 have HDC:=Lib.hid (fun W (h:TabR W W.heap.size t T) => decompO_any t T c W h hD.srt hD.ne hD.len)
 have hl2:(hangD c).length ≤ 3:=hangD_len c
 have HD:=Lib.hid hD
 clear ht ho hD
 cases hs:sylB c
 ·have hn:findL T.decomps c=[]:=by
   rcases h with h | h
   ·rw [hs] at h;cases h
   ·exact h
  have he:expG T f c=[c]:=by unfold expG;rw [if_neg (by simp [hs]),expF_none hn]
  have HN:=Lib.hid (hangD_none hs)
  have HE:=Lib.hid hn
  rw [he]
  clear h hs hn he hl2
  have heq:=fun (w:World) (a:Option Addr) (n c:Nat) => Lib.run_eql_slice_nil (P:=Tryz.prog) w 22 3 a n c 0 0 Tryz.underlying22
  go_enter Tryz.func134,Tryz.ntmps134
  go_upto_region 1 with fail
  generalize w.alloc (.cells t.cells 26)=w1 at *
  obtain ⟨x0,x1,x2,x3,x4,x5,x6,x7,x8,x9,x10,x11⟩:=HT.out.1.tab
  obtain ⟨tb,htb⟩:∃ tb,w.heap.size=tb:=⟨_,rfl⟩
  have hz:w.heap.size ≤ w1.heap.size:=HB0.out.size
  simp only [htb]
  rw [htb] at HT
  go_upto_region 4 with (go_at_call 168;refine (HH.out _).mono ?_;rintro e w2 ⟨u,rfl,hu,hun,b2⟩;obtain rfl:=hun HN.out;clear hu hun)
  clear x0 x1 x2 x3 x4 x5 x6 x7 x8 x9 x10 x11
  have HT2:=Lib.hid (HT.out.later b2)
  have HO2:=Lib.hid (own_later HO.out b2)
  have HG2:=Lib.hid (HG.out.trans (Gr.of_below b2))
  have hz2':=b2.size
  clear HT HO HG b2
  obtain ⟨x0,x1,x2,x3,x4,x5,x6,x7,x8,x9,x10,x11⟩:=HT2.out.1.tab
  go_upto_region 6 with (go_at_call 169;refine (HDC.out _ HT2.out.2).mono ?_;rintro e w3 ⟨u3,rfl,hu3,hun3,b3⟩;obtain rfl:=hun3 HE.out;clear hu3 hun3)
  clear x0 x1 x2 x3 x4 x5 x6 x7 x8 x9 x10 x11
  have HO3:=Lib.hid (own_later HO2.out b3)
  have HG3:=Lib.hid ((HG2.out.trans (Gr.of_below b3)).trans (Gr.of_below (v:=.slice A acc.length c0) ((Below.refl w3.heap.size w3).alloc (Nat.le_refl _) (.cells #[.int .i64 c] 3))))
  have hz3:=b3.size
  clear HT2 HO2 HG2 b3
  go_wp2_with (at_builtin;refine wpList_append_gr (by rfl) (.tmp 23) (.tmp 25) rfl Tryz.underlying22 hi hz0 hz1 hz2 (w3.heap.size + 1) base (.slice A acc.length c0) acc (.slice (some ⟨w3.heap.size,0,none⟩) 1 1) [c] rfl (HO3.out.alloc _) rfl (by have h:=Ints.of_own (own_new w3 3 [c] (by simp));simpa using h) (by simp;omega) (by simp;omega) ?_;intro v6 w6 ho6 hg6)
  go_ret
  exact ⟨v6,rfl,ho6,HG3.out.trans hg6⟩
 ·have hne:=hangD_ne hs
  have he:expG T f c=hangD c:=by unfold expG;rw [if_pos hs]
  rw [he]
  have HN:=Lib.hid hne
  clear h hs he hne
  generalize hangD c=hd at *
  go_enter Tryz.func134,Tryz.ntmps134
  go_upto_region 1 with fail
  generalize w.alloc (.cells t.cells 26)=w1 at *
  obtain ⟨x0,x1,x2,x3,x4,x5,x6,x7,x8,x9,x10,x11⟩:=HT.out.1.tab
  have hz:w.heap.size ≤ w1.heap.size:=HB0.out.size
  go_upto_region 3 with (go_at_call 168;refine (HH.out _).mono ?_;rintro e w2 ⟨u,rfl,hu,hun,b2⟩;obtain ⟨ad,cu,rfl,_⟩:=hu.some_ HN.out;have HU:=Lib.hid hu;clear hu hun)
  clear x0 x1 x2 x3 x4 x5 x6 x7 x8 x9 x10 x11
  have HO2:=Lib.hid (own_later HO.out b2)
  have HG2:=Lib.hid (HG.out.trans (Gr.of_below b2))
  have hz2':=b2.size
  clear HT HO HG b2
  go_wp2_with (at_builtin;refine wpList_append_gr (by rfl) (.tmp 15) (.tmp 16) rfl Tryz.underlying22 hi hz0 hz1 hz2 w2.heap.size base (.slice A acc.length c0) acc (.slice (some ad) hd.length cu) hd rfl HO2.out rfl HU.out (by omega) (by omega) ?_;intro v6 w6 ho6 hg6)
  go_ret
  exact ⟨v6,rfl,ho6,HG2.out.trans hg6⟩
theorem exp_step {g:Int → List Int} {acc ys:List Int} {k:Nat} {x:Int} (h:ys[k]?=some x):acc ++ (ys.take (k + 1)).flatMap g=(acc ++ (ys.take k).flatMap g) ++ g x:=by
 obtain ⟨h1,e⟩:=List.getElem?_eq_some_iff.1 h
 rw [List.take_succ_eq_append_getElem h1,List.flatMap_append,e];simp
theorem exp_len {g:Int → List Int}:∀ (ys:List Int) (k:Nat),(∀ x ∈ ys,(g x).length ≤ 18) → ((ys.take k).flatMap g).length ≤ 18 * k:=by
 intro ys
 induction ys with
 | nil => intro k _;simp
 | cons y r ih =>
   intro k h
   cases k with
   | zero => simp
   | succ k =>
     have h1:=ih k fun x hx => h x (List.mem_cons_of_mem _ hx)
     have h2:=h y List.mem_cons_self
     rw [List.take_succ_cons,List.flatMap_cons,List.length_append];omega
theorem expand_any (t:Tv) (T:Tab) (hD:DecOk T):∀ (f:Nat) (c:Int) (w:World) (base:Nat) (v:Value) (acc:List Int),f ≤ T.decomps.length → TabR w base t T → base ≤ w.heap.size → w.ownsRow base 3 1 v acc.length (acc.map (Value.int .i64)) → fin T.decomps f c=true → acc.length + 40 * f ≤ 150000 →
  Calls Tryz.prog 134 #[t.val,v,.int .i64 c] w (RetGr w base v (acc ++ expG T f c)):=by
 intro f
 induction f with
 | zero =>
   intro c w base v acc hf ht hB ho hfin hl
   rw [fin_zero,decide_eq_true_eq] at hfin
   exact expand_leaf t T hD 0 c w base v acc ht hB ho (.inr hfin) (by omega)
 | succ f ih =>
   intro c w base v acc hf ht hB ho hfin hl
   by_cases hleaf:sylB c=true ∨ findL T.decomps c=[]
   ·exact expand_leaf t T hD (f + 1) c w base v acc ht hB ho hleaf (by omega)
   have hs:sylB c=false:=by cases h:sylB c with | false => rfl | true => exact absurd (.inl h) hleaf
   have hn:findL T.decomps c ≠ []:=fun h => hleaf (.inr h)
   have he:expG T (f + 1) c=(findL T.decomps c).flatMap (expG T f):=by
    unfold expG
    rw [if_neg (by simp [hs]),expF_some hn]
    refine flatMap_same fun x hx => ?_
    rw [if_neg (by rw [(hD.el _ (findL_mem hn) x hx).1];simp)]
   rw [fin_succ hn,List.all_eq_true] at hfin
   have h2:=hD.two _ (findL_mem hn)
   simp only at h2
   have h18:∀ x ∈ findL T.decomps c,(expG T f x).length ≤ 18:=fun x hx => expG_len hD (hfin x hx) (by omega)
   have HIH:Hid (∀ x ∈ findL T.decomps c,∀ (W:World) (u:Value) (a:List Int),TabR W base t T → base ≤ W.heap.size → W.ownsRow base 3 1 u a.length (a.map (Value.int .i64)) → a.length + 40 * f ≤ 150000 → Calls Tryz.prog 134 #[t.val,u,.int .i64 x] W (RetGr W base u (a ++ expG T f x))):=Lib.hid fun x hx W u a q1 q2 q3 q4 => ih x W base u a (by omega) q1 q2 q3 (hfin x hx) q4
   rw [he]
   have HN:=Lib.hid hn
   have HHN:=Lib.hid (hangD_none hs)
   obtain ⟨A,c0,rfl,_⟩:=id (Ints.of_own ho)
   have HDC:=Lib.hid (fun W (h:TabR W W.heap.size t T) => decompO_any t T c W h hD.srt hD.ne hD.len)
   have H18:=Lib.hid (fun k => exp_len (g:=expG T f) (findL T.decomps c) k h18)
   generalize findL T.decomps c=ys at *
   generalize expG T f=g at *
   have HB0:Hid (Below w.heap.size w (w.alloc (.cells t.cells 26))):=Lib.hid ((Below.refl _ _).alloc (Nat.le_refl _) _)
   have HT:Hid (Tbl (w.alloc (.cells t.cells 26)) w.heap.size t T):=Lib.hid ⟨Blk.new _ _ _,(ht.more hB).later HB0.out⟩
   have HTB:Hid (TabR (w.alloc (.cells t.cells 26)) base t T):=Lib.hid (ht.below (HB0.out.mono hB))
   have HO:=Lib.hid (own_later ho HB0.out)
   have HG:=Lib.hid (Gr.of_below (v:=.slice A acc.length c0) HB0.out)
   have HV:=Lib.hid (fun g h => (own_base ho g h).2)
   have HH:=Lib.hid (fun W => hdec_any c W)
   clear ht ho hD hleaf hs hn he hfin h18 ih hf
   have heq:=fun (w:World) (a:Option Addr) (n c:Nat) => Lib.run_eql_slice_nil (P:=Tryz.prog) w 22 3 a n c 0 0 Tryz.underlying22
   go_enter Tryz.func134,Tryz.ntmps134
   go_upto_region 1 with fail
   generalize w.alloc (.cells t.cells 26)=w1 at *
   obtain ⟨x0,x1,x2,x3,x4,x5,x6,x7,x8,x9,x10,x11⟩:=HT.out.1.tab
   obtain ⟨tb,htb⟩:∃ tb,w.heap.size=tb:=⟨_,rfl⟩
   have hz:w.heap.size ≤ w1.heap.size:=HB0.out.size
   simp only [htb]
   rw [htb] at HT HV
   go_upto_region 4 with (go_at_call 168;refine (HH.out _).mono ?_;rintro e w2 ⟨u,rfl,hu,hun,b2⟩;obtain rfl:=hun HHN.out;clear hu hun)
   clear x0 x1 x2 x3 x4 x5 x6 x7 x8 x9 x10 x11
   have HT2:=Lib.hid (HT.out.later b2)
   have HTB2:=Lib.hid (HTB.out.below (b2.mono (by omega)))
   have HO2:=Lib.hid (own_later HO.out b2)
   have HG2:=Lib.hid (HG.out.trans (Gr.of_below b2))
   have hz2:=b2.size
   clear HT HO HG HTB b2
   obtain ⟨x0,x1,x2,x3,x4,x5,x6,x7,x8,x9,x10,x11⟩:=HT2.out.1.tab
   go_upto_region 7 with (go_at_call 169;refine (HDC.out _ HT2.out.2).mono ?_;rintro e w3 ⟨u3,rfl,hu3,hun3,b3⟩;obtain ⟨ad,cu,rfl,_⟩:=(Ints.of_own hu3).some_ HN.out;have HU:=Lib.hid (Ints.of_own hu3);have HUB:=Lib.hid (fun g h => (own_base hu3 g h).1);clear hu3 hun3)
   clear x0 x1 x2 x3 x4 x5 x6 x7 x8 x9 x10 x11
   have HT3:=Lib.hid (HT2.out.later b3)
   have HTB3:=Lib.hid (HTB2.out.below (b3.mono (by omega)))
   have HO3:=Lib.hid (own_later HO2.out b3)
   have HG3:=Lib.hid (HG2.out.trans (Gr.of_below b3))
   have hz3:=b3.size
   clear HT2 HO2 HG2 HTB2 b3
   go_wp2_with fail
   go_loopw [29,1] (fun si so wr => ∃ (k:Nat) (vo:Value),k ≤ ys.length ∧ si=.int .i64 k ∧ vo=so ∧ Hid (wr.ownsRow base 3 1 vo (acc ++ (ys.take k).flatMap g).length ((acc ++ (ys.take k).flatMap g).map (Value.int .i64))) ∧ Hid (Gr w3 (.slice A acc.length c0) wr vo)) (fun si _ _ => ys.length - (intOf si).toNat)
   case atStart => exact ⟨0,_,by omega,rfl,rfl,Lib.hid (by simpa using HO3.out),Lib.hid (Gr.refl _ _)⟩
   case round =>
    obtain ⟨k,so,hk,rfl,rfl,HOr,HGr⟩:=hrel
    by_cases hlt:k < ys.length
    ·obtain ⟨x,hxk,hxm⟩:=get_of hlt
     have HX:=Lib.hid hxk
     have hsz:=HGr.out.1.2.2.2.1
     have e1:wr.cell? (ad.add k)=some (.int .i64 x):=by
      obtain ⟨_,_,he,_,_,_,hcell⟩:=HU.out
      obtain ⟨ad',e2,hb,hc⟩:=hcell k x hxk
      rw [e2] at he
      cases he
      rw [← hc]
      have hnm:ad.block ∉ ownS (.slice A acc.length c0):=fun hm => by
       have h1:=HV.out _ (mem_ownS.1 hm)
       have h2:=HUB.out _ rfl
       omega
      exact World.cell?_of_block (by rw [block_of_add];exact HGr.out.1.2.2.2.2 _ hnm hb)
     have k0:(0:Int) ≤ (k:Int):=by omega
     have k1:(k:Int) < (ys.length:Int):=by omega
     have HBw:Hid (Blk wr tb 26 #[t.c0,t.c1,t.c2,t.c3,t.c4,t.c5,t.c6,t.c7,t.c8,t.c9,t.c10,t.c11]):=Lib.hid (HGr.out.blk HT3.out.1 (fun h => by have:=HV.out _ h;omega))
     obtain ⟨x0,x1,x2,x3,x4,x5,x6,x7,x8,x9,x10,x11⟩:=HBw.out.tab
     have h18:=H18.out k
     have HCx:=Lib.hid (HIH.out x hxm wr so _ (HTB3.out.grown HO3.out (by omega) HGr.out) (by omega) HOr.out (by simp only [List.length_append];omega))
     have HN2:=Lib.hid (exp_step (g:=g) (acc:=acc) HX.out)
     clear hxk hxm
     go_wp2_with (go_at_call 134;refine HCx.out.mono ?_;rintro e w5 ⟨v5,rfl,ho5,hg5⟩)
     go_roundw
     case rel => exact ⟨k + 1,v5,by omega,by go_num,rfl,Lib.hid (by rw [HN2.out];exact ho5),Lib.hid (HGr.out.trans hg5)⟩
     case measure => simp [intOf];omega
    ·go_wp2_with fail
     go_ret
     refine ⟨so,rfl,?_,HG3.out.trans HGr.out⟩
     have:=HOr.out
     rwa [List.take_of_length_le (by omega)] at this
end Go.Proofs.YtjafpikjpipbkaaGreatDoor
namespace Go.Proofs.YtjafpikjpipbkaaGreatDoor
open Go.RowKit ND
theorem full7_any (t:Tv) (T:Tab) (hD:DecOk T) (c:Int) (w:World) (ht:TabR w w.heap.size t T) :
  Calls Tryz.prog 136 #[t.val,.int .i64 c] w (RetRow w (expandL T c)):=by
 have HB0:Hid (Below w.heap.size w (w.alloc (.cells t.cells 26))):=Lib.hid ((Below.refl _ _).alloc (Nat.le_refl _) _)
 have HT:Hid (Tbl (w.alloc (.cells t.cells 26)) w.heap.size t T):=Lib.hid ⟨Blk.new _ _ _,ht.later HB0.out⟩
 clear ht
 have HE:=Lib.hid (fun W (h:Below (w.alloc (.cells t.cells 26)).heap.size (w.alloc (.cells t.cells 26)) W) => expand_any t T hD T.decomps.length c W (w.alloc (.cells t.cells 26)).heap.size (.slice none 0 0) [] (Nat.le_refl _) (HT.out.2.below h) h.size (World.ownsRow_nil _ _ _ _) (hD.fin c) (by have:=hD.len;simp;omega))
 go_enter Tryz.func136,Tryz.ntmps136
 go_upto_region 1 with fail
 generalize w.alloc (.cells t.cells 26)=w1 at *
 obtain ⟨x0,x1,x2,x3,x4,x5,x6,x7,x8,x9,x10,x11⟩:=HT.out.1.tab
 go_wp2_with (go_at_call 134;refine (HE.out _ (Below.refl _ _)).mono ?_;rintro e w5 ⟨v5,rfl,ho5,hg5⟩)
 go_ret
 have hz:=HB0.out.size
 rw [expG_full] at ho5
 exact ⟨v5,rfl,row_le ho5 hz,below_next HB0.out (hg5.below (fun g h => by cases h) (Nat.le_refl _))⟩
def oneL (T:Tab) (c:Int):List Int:=if scalarB c=true ∧ T.check=0 then expandL T c else []
theorem one7_any (t:Tv) (T:Tab) (c:Int) (w:World) (ht:TabR w w.heap.size t T) (hg:Glob w) :
  Calls Tryz.prog 85 #[t.val,.int .i64 c] w (RetRow w (oneL T c)):=by
 have HB0:Hid (Below w.heap.size w (w.alloc (.cells t.cells 26))):=Lib.hid ((Below.refl _ _).alloc (Nat.le_refl _) _)
 have HT:Hid (Tbl (w.alloc (.cells t.cells 26)) w.heap.size t T):=Lib.hid ⟨Blk.new _ _ _,ht.later HB0.out⟩
 have HG:=Lib.hid (hg.later HB0.out)
 clear ht hg
 have HL:=Lib.hid (length_any c)
 have HK:=Lib.hid (fun W (h:Below (w.alloc (.cells t.cells 26)).heap.size (w.alloc (.cells t.cells 26)) W) => check_table t T W (HT.out.later h).2 (HG.out.later h))
 cases hs:scalarB c
 ·have he:oneL T c=[]:=by unfold oneL;rw [if_neg (by simp [hs])]
  rw [lenC_zero.2 hs] at HL
  rw [he]
  clear hs he HK
  go_enter Tryz.func85,Tryz.ntmps85
  go_upto_region 1 with fail
  generalize w.alloc (.cells t.cells 26)=w1 at *
  obtain ⟨x0,x1,x2,x3,x4,x5,x6,x7,x8,x9,x10,x11⟩:=HT.out.1.tab
  go_wp2_with (go_at_call 43;refine (HL.out _).mono ?_;rintro e w2 ⟨rfl,rfl⟩)
  go_ret
  exact ⟨_,rfl,World.ownsRow_nil _ _ _ _,HB0.out⟩
 ·have hl:(((lenC c:Nat):Int) == 0)=false:=by
   have:lenC c ≠ 0:=fun h => by rw [lenC_zero,hs] at h;cases h
   simpa using this
  generalize lenC c=lc at *
  by_cases hck:T.check=0
  ·have he:oneL T c=expandL T c:=by unfold oneL;rw [if_pos ⟨hs,hck⟩]
   have HF:=Lib.hid (fun W (h:Below (w.alloc (.cells t.cells 26)).heap.size (w.alloc (.cells t.cells 26)) W) => full7_any t T (decOk_of hck) c W (HT.out.later h).2)
   rw [hck] at HK
   rw [he]
   clear he hck hs
   go_enter Tryz.func85,Tryz.ntmps85
   go_upto_region 1 with fail
   generalize w.alloc (.cells t.cells 26)=w1 at *
   obtain ⟨x0,x1,x2,x3,x4,x5,x6,x7,x8,x9,x10,x11⟩:=HT.out.1.tab
   go_upto_region 3 with (first | (go_at_call 43;refine (HL.out _).mono ?_;rintro e w2 ⟨rfl,rfl⟩) | (go_at_call 29;refine (HK.out _ (Below.refl _ _)).mono ?_;rintro e w3 ⟨rfl,b3⟩))
   clear x0 x1 x2 x3 x4 x5 x6 x7 x8 x9 x10 x11
   obtain ⟨x0,x1,x2,x3,x4,x5,x6,x7,x8,x9,x10,x11⟩:=(HT.out.later b3).1.tab
   go_wp2_with (go_at_call 136;refine (HF.out _ b3).mono ?_;rintro e w4 ⟨u,rfl,ho,b4⟩)
   go_ret
   exact ⟨u,rfl,row_le ho (by have:=HB0.out.size;have:=b3.size;omega),below_next (below_next HB0.out b3) b4⟩
  ·have he:oneL T c=[]:=by unfold oneL;rw [if_neg (fun h => hck h.2)]
   have hcb:(T.check != 0)=true:=by simpa using hck
   rw [he]
   clear he hck hs
   generalize T.check=ck at *
   go_enter Tryz.func85,Tryz.ntmps85
   go_upto_region 1 with fail
   generalize w.alloc (.cells t.cells 26)=w1 at *
   obtain ⟨x0,x1,x2,x3,x4,x5,x6,x7,x8,x9,x10,x11⟩:=HT.out.1.tab
   go_wp2_with (first | (go_at_call 43;refine (HL.out _).mono ?_;rintro e w2 ⟨rfl,rfl⟩) | (go_at_call 29;refine (HK.out _ (Below.refl _ _)).mono ?_;rintro e w3 ⟨rfl,b3⟩))
   go_ret
   exact ⟨_,rfl,World.ownsRow_nil _ _ _ _,(below_next HB0.out b3)⟩
end Go.Proofs.YtjafpikjpipbkaaGreatDoor
namespace Go.Proofs.YtjafpikjpipbkaaGreatDoor
open Go.RowKit ND
def bndR (T:Tab) (c:Int):Bool:=match oneL T c with
 | [] => false
 | d :: _ => (T.classOf d == 0) && !secP T d
theorem bndR_scal {T:Tab} {c:Int} (h1:scalarB c=true) (h2:T.check=0):bndR T c=bndB T c:=by
 unfold bndR bndB oneL
 rw [if_pos ⟨h1,h2⟩]
 cases expandL T c <;> rfl
theorem boundary_any (t:Tv) (T:Tab) (c:Int) (w:World) (ht:TabR w w.heap.size t T) (hg:Glob w) (hck:T.check=0) :
  Calls Tryz.prog 44 #[t.val,.int .i64 c] w fun e w' => e=.returned (.bool (bndR T c)) ∧ Below w.heap.size w w':=by
 have HB0:Hid (Below w.heap.size w (w.alloc (.cells t.cells 26))):=Lib.hid ((Below.refl _ _).alloc (Nat.le_refl _) _)
 have HT:Hid (Tbl (w.alloc (.cells t.cells 26)) w.heap.size t T):=Lib.hid ⟨Blk.new _ _ _,ht.later HB0.out⟩
 have HO:=Lib.hid (one7_any t T c _ HT.out.2 (hg.later HB0.out))
 have HG0:=Lib.hid (fun W (h:Below w.heap.size w W) => hg.later h)
 have HCL:=Lib.hid (fun d W (h:TabR W W.heap.size t T) => class_any t T d 0 1114111 W h (shape_of hck).c1.1 (shape_of hck).c1.2.1)
 have HSE:=Lib.hid (fun d W (h:TabR W W.heap.size t T) (hg:Glob W) => Second_any t T d W h hg hck)
 clear ht hg hck
 obtain ⟨R,hR⟩:∃ R,R=bndR T c:=⟨_,rfl⟩
 have HR:=Lib.hid hR
 unfold bndR at HR
 rw [← hR]
 clear hR
 obtain ⟨l0,hl0⟩:∃ l0,l0=oneL T c:=⟨_,rfl⟩
 rw [← hl0] at HO HR
 clear hl0
 go_enter Tryz.func44,Tryz.ntmps44
 go_upto_region 1 with fail
 generalize w.alloc (.cells t.cells 26)=w1 at *
 obtain ⟨x0,x1,x2,x3,x4,x5,x6,x7,x8,x9,x10,x11⟩:=HT.out.1.tab
 go_upto_region 2 with (go_at_call 85;refine HO.out.mono ?_;rintro e w2 ⟨u2,rfl,ho2,b2⟩;obtain ⟨A2,c2,rfl,_⟩:=id (Ints.of_own ho2);have HOW:=Lib.hid ho2;clear ho2)
 clear x0 x1 x2 x3 x4 x5 x6 x7 x8 x9 x10 x11
 have HT2:=Lib.hid (HT.out.later b2)
 have HB2:=Lib.hid (below_next HB0.out b2)
 clear b2 HT HO
 obtain ⟨x0,x1,x2,x3,x4,x5,x6,x7,x8,x9,x10,x11⟩:=HT2.out.1.tabG
 cases l0 with
 | nil =>
   refine wp_region_quiet_below (by kernel_rfl) (by kernel_rfl) ?_
   repeat (go_big_quiet_step (fail))
   refine wpQuiet_nil ?_
   rintro _ ⟨⟨dq,osq⟩,rfl⟩
   have bq:=below_regrown w2 dq osq
   clear x0 x1 x2 x3 x4 x5 x6 x7 x8 x9 x10 x11
   go_wp2_with fail
   go_ret
   rw [HR.out]
   exact ⟨rfl,below_next HB2.out bq⟩
 | cons d ds =>
   have hpos:0 < (d :: ds).length:=by simp
   obtain ⟨gb,cap,hsh,_,_⟩:=HOW.out.form hpos
   cases hsh
   have e0:=cell_regrown ((HOW.out.cellAt 0 (by simp)).trans (by rfl:((d :: ds).map (Value.int .i64))[0]?=some (.int .i64 d)))
   obtain ⟨n,hn⟩:∃ n,n=(d :: ds).length:=⟨_,rfl⟩
   have hn0:(0:Int) < (n:Int):=by omega
   have hn1:0 < n:=by omega
   simp only [← hn]
   clear hn hpos
   have HR2:Hid (R=((T.classOf d == 0) && !secP T d)):=Lib.hid HR.out
   clear HR
   obtain ⟨fd,hfd⟩:∃ fd,fd=T.classOf d:=⟨_,rfl⟩
   rw [← hfd] at HR2
   have HC:Hid (∀ V,Below w2.heap.size w2 V → Calls Tryz.prog 82 #[.agg #[t.c0,t.c1,t.c2,t.c3,t.c4,t.c5,t.c6,t.c7,t.c8,t.c9,t.c10,t.c11],.int .i64 d] V fun e V' => e=.returned (.int .i64 fd) ∧ Below V.heap.size V V'):=Lib.hid fun V hV => by rw [hfd];exact HCL.out d V (HT2.out.later hV).2
   obtain ⟨sd,hsd⟩:∃ sd,sd=secP T d:=⟨_,rfl⟩
   rw [← hsd] at HR2
   have HS:Hid (∀ V,Below w2.heap.size w2 V → Calls Tryz.prog 86 #[.agg #[t.c0,t.c1,t.c2,t.c3,t.c4,t.c5,t.c6,t.c7,t.c8,t.c9,t.c10,t.c11],.int .i64 d] V fun e V' => e=.returned (.bool sd) ∧ Below V.heap.size V V'):=Lib.hid fun V hV => by rw [hsd];exact HSE.out d V (HT2.out.later hV).2 (HG0.out V (HB2.out.trans (hV.mono HB2.out.size)))
   by_cases h0:fd=0
   ·have z0:(fd == 0)=true:=beq_iff_eq.2 h0
    clear h0 hfd hsd
    refine wp_region_quiet_below (by kernel_rfl) (by kernel_rfl) ?_
    repeat (go_big_quiet_step (first | (go_at_call 82;with_reducible exact quiet_t HC.out) | (go_at_call 86;with_reducible exact quiet_t HS.out)))
    refine wpQuiet_nil ?_
    rintro _ ⟨⟨dq,osq⟩,rfl⟩
    have bq:=below_regrown w2 dq osq
    clear x0 x1 x2 x3 x4 x5 x6 x7 x8 x9 x10 x11
    go_wp2_with fail
    go_ret
    rw [HR2.out]
    exact ⟨by rw [z0];rfl,below_next HB2.out bq⟩
   ·have z0:(fd == 0)=false:=beq_eq_false_iff_ne.2 h0
    clear h0 hfd hsd
    refine wp_region_quiet_below (by kernel_rfl) (by kernel_rfl) ?_
    repeat (go_big_quiet_step (first | (go_at_call 82;with_reducible exact quiet_t HC.out) | (go_at_call 86;with_reducible exact quiet_t HS.out)))
    refine wpQuiet_nil ?_
    rintro _ ⟨⟨dq,osq⟩,rfl⟩
    have bq:=below_regrown w2 dq osq
    clear x0 x1 x2 x3 x4 x5 x6 x7 x8 x9 x10 x11
    go_wp2_with fail
    go_ret
    rw [HR2.out]
    exact ⟨by rw [z0];rfl,below_next HB2.out bq⟩
end Go.Proofs.YtjafpikjpipbkaaGreatDoor
namespace Go.Proofs.YtjafpikjpipbkaaGreatDoor
open Go.RowKit ND
theorem joining_any (t:Tv) (T:Tab) (c lo hi:Int) (w:World) (ht:TabR w w.heap.size t T) (hs:okS lo hi (-1) T.joining=true) (hlen:T.joining.length ≤ 256) :
  Calls Tryz.prog 202 #[t.val,.int .i64 c] w fun e w' => e=.returned (.int .i64 (T.joiningOf c)) ∧ Below w.heap.size w w':=by
 have HP:=Lib.hid (fun W (h:Spans W W.heap.size t.c2 T.joining) => value_any t.c2 T.joining c lo hi W h hs hlen)
 have hr:=ht.r2
 have HR:=Lib.hid (fun o:Obj => hr.later ((Below.refl _ _).alloc (Nat.le_refl _) o))
 clear hr ht hs hlen
 go_enter Tryz.func202,Tryz.ntmps202
 go_wp2_with fail
 refine (HP.out _ (HR.out _)).mono ?_
 rintro e w1 ⟨rfl,b1⟩
 go_wp2_with fail
 go_ret
 exact ⟨rfl,below_next ((Below.refl _ _).alloc (Nat.le_refl _) _) b1⟩
end Go.Proofs.YtjafpikjpipbkaaGreatDoor
namespace Go.Proofs.YtjafpikjpipbkaaGreatDoor
open Go.RowKit ND
theorem next_any (t:Tv) (T:Tab) (v:Value) (xs:List Int) (i b:Int) (w:World) (ht:TabR w w.heap.size t T) (hck:T.check=0) (hv:Ints w w.heap.size .i64 v xs) (hb:b=1 ∨ b=-1) (h0:0 ≤ i) (h1:i < (xs.length:Int)) :
  Calls Tryz.prog 179 #[t.val,v,.int .i64 i,.int .i64 b] w fun e w' => e=.returned (.int .i64 (nextR T.joiningOf xs i b)) ∧ Below w.heap.size w w':=by
 have HB0:Hid (Below w.heap.size w (w.alloc (.cells t.cells 26))):=Lib.hid ((Below.refl _ _).alloc (Nat.le_refl _) _)
 have HT:Hid (Tbl (w.alloc (.cells t.cells 26)) w.heap.size t T):=Lib.hid ⟨Blk.new _ _ _,ht.later HB0.out⟩
 have hv1:=hv.later HB0.out
 obtain ⟨A,c,rfl,hc1,hc2,_,hcell⟩:=hv1
 have HC:=Lib.hid hcell
 have hl:xs.length ≤ 9223372036854775807:=by unfold maxLen at hc2;omega
 have HJ:=Lib.hid (fun d W (h:TabR W W.heap.size t T) => joining_any t T d 0 1114111 W h (shape_of hck).c2.1 (shape_of hck).c2.2.1)
 clear ht hv hcell hc1 hc2 hck
 obtain ⟨f,hf⟩:∃ f,f=T.joiningOf:=⟨_,rfl⟩
 rw [← hf] at HJ ⊢
 obtain ⟨R,hR⟩:∃ R,nextF f xs b (xs.length + 2) (i + b)=R:=⟨_,rfl⟩
 have HR:=Lib.hid hR
 unfold nextR
 rw [hR]
 clear hR hf
 go_enter Tryz.func179,Tryz.ntmps179
 go_upto_region 1 with fail
 generalize w.alloc (.cells t.cells 26)=w1 at *
 have hib:-9223372036854775808 ≤ i + b ∧ i + b ≤ 9223372036854775807:=by omega
 go_step3
 go_wp2_with fail
 go_step3
 go_wp2_with fail
 go_loopw [2,9] (fun ii ff wr => ∃ (j:Int) (n:Nat),ii=.int .i64 j ∧ ff=.int .i64 (-1) ∧ -1 ≤ j ∧ j ≤ (xs.length:Int) ∧ (b=1 → (xs.length:Int) - j < n) ∧ (b=-1 → j + 1 < n) ∧ Hid (nextF f xs b n j=R) ∧ Below w1.heap.size w1 wr) (fun ii _ _ => (if b=1 then (xs.length:Int) - intOf ii else intOf ii + 1).toNat)
 case atStart => exact ⟨_,_,rfl,rfl,by omega,by omega,by omega,by omega,HR,Below.refl _ _⟩
 case round =>
  obtain ⟨j,n,rfl,rfl,hj0,hj1,hn1,hn2,HN,hbel⟩:=hrel
  have HB:=Lib.hid (below_next HB0.out hbel)
  by_cases hin:0 ≤ j ∧ j < (xs.length:Int)
  ·obtain ⟨hi0,hi1⟩:=hin
   obtain ⟨k,rfl⟩:∃ k:Nat,j=(k:Int):=⟨j.toNat,by omega⟩
   have hlt:k < xs.length:=by omega
   obtain ⟨x,hxk,_⟩:=get_of hlt
   obtain ⟨ad,rfl,hb1,hce⟩:=HC.out k x hxk
   have hce2:=cell_regrown ((hbel.cell (p:=ad.add k) (by rw [block_of_add];exact hb1)).trans hce)
   have HD:=Lib.hid (getD_of hxk)
   have y1:decide ((0:Int) ≤ (k:Int))=true:=decide_eq_true hi0
   have y2:decide ((k:Int) < (xs.length:Int))=true:=decide_eq_true hi1
   clear hce hxk hb1
   obtain ⟨m,rfl⟩:∃ m,n=m + 1:=⟨n - 1,by omega⟩
   have HT2:=Lib.hid (HT.out.later hbel)
   have HV:Hid (∀ V,Below wr.heap.size wr V → Calls Tryz.prog 202 #[.agg #[t.c0,t.c1,t.c2,t.c3,t.c4,t.c5,t.c6,t.c7,t.c8,t.c9,t.c10,t.c11],.int .i64 x] V fun e V' => e=.returned (.int .i64 (f x)) ∧ Below V.heap.size V V'):=Lib.hid fun V hV => HJ.out x V (HT2.out.later hV).2
   obtain ⟨x0,x1,x2,x3,x4,x5,x6,x7,x8,x9,x10,x11⟩:=HT2.out.1.tabG
   go_upto_region 5 with fail
   refine wp_region_quiet_below (by kernel_rfl) (by kernel_rfl) ?_
   repeat (go_big_quiet_step ((go_at_call 202;with_reducible exact quiet_t HV.out)))
   refine wpQuiet_nil ?_
   rintro _ ⟨⟨dq,osq⟩,rfl⟩
   have bq:=below_regrown wr dq osq
   clear x0 x1 x2 x3 x4 x5 x6 x7 x8 x9 x10 x11 hce2
   have hbel2:Below w1.heap.size w1 (Go.Sort.grow (redrawn wr dq) osq):=below_next hbel bq
   generalize Go.Sort.grow (redrawn wr dq) osq=w3 at *
   have HE:Hid (nextF f xs b (m + 1) (k:Int)=if f x=5 then nextF f xs b m ((k:Int) + b) else (k:Int)):=Lib.hid (by
    conv => lhs;unfold nextF
    rw [if_pos ⟨hi0,hi1⟩,Int.toNat_natCast,HD.out])
   by_cases hj5:f x=5
   ·have y3:(f x == 5)=true:=beq_iff_eq.2 hj5
    have HN2:Hid (nextF f xs b m ((k:Int) + b)=R):=Lib.hid (by rw [← HN.out,HE.out,if_pos hj5])
    have hjb:-1 ≤ (k:Int) + b ∧ (k:Int) + b ≤ (xs.length:Int):=by omega
    have hkb:-9223372036854775808 ≤ (k:Int) + b ∧ (k:Int) + b ≤ 9223372036854775807:=by omega
    go_wp2_with fail
    go_roundw
    case rel => exact ⟨(k:Int) + b,m,rfl,rfl,hjb.1,hjb.2,by omega,by omega,HN2,hbel2⟩
    case measure =>
     rcases hb with rfl | rfl
     ·simp [intOf];omega
     ·simp [intOf];omega
   ·have y3:(f x == 5)=false:=beq_eq_false_iff_ne.2 hj5
    have HN2:Hid ((k:Int)=R):=Lib.hid (by rw [← HN.out,HE.out,if_neg hj5])
    have HB2:=Lib.hid (below_next HB0.out hbel2)
    go_wp2_with fail
    rw [Exit.noGoto_ret]
    go_ret
    exact ⟨by rw [HN2.out];rfl,HB2.out⟩
  ·obtain ⟨m,rfl⟩:∃ m,n=m + 1:=⟨n - 1,by omega⟩
   have HN2:Hid ((-1:Int)=R):=Lib.hid (by
    rw [← HN.out]
    unfold nextF
    rw [if_neg hin])
   have hd:decide ((0:Int) ≤ j)=false ∨ (decide ((0:Int) ≤ j)=true ∧ decide (j < (xs.length:Int))=false):=by
    by_cases h:0 ≤ j
    ·exact .inr ⟨decide_eq_true h,decide_eq_false (by omega)⟩
    ·exact .inl (decide_eq_false h)
   rcases hd with y1 | ⟨y1,y2⟩
   all_goals
    go_wp2_with fail
    first
     | (rw [Exit.noGoto_ret];go_ret)
     | go_ret
    exact ⟨by rw [← HN2.out];rfl,HB.out⟩
end Go.Proofs.YtjafpikjpipbkaaGreatDoor
