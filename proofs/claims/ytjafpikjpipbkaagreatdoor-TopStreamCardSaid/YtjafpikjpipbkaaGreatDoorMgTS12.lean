/-
  Merged texts: lemmas and walks that the last text of this claim leans on.
-/
import Derived.Test.YtjafpikjpipbkaaGreatDoorMgTS11
import Derived.Test.YtjafpikjpipbkaaGreatDoorMgTS3
import Derived.Test.YtjafpikjpipbkaaGreatDoorMgTS6
import Derived.Maps.RangeRun
import Derived.Test.YtjafpikjpipbkaaGreatDoorMgTS7
import Derived.Test.YtjafpikjpipbkaaGreatDoorMgTS9
import Derived.Test.YtjafpikjpipbkaaGreatDoorMgTS8
import Derived.Test.YtjafpikjpipbkaaGreatDoorMgTS4
import Derived.Test.YtjafpikjpipbkaaGreatDoorMgTS10
import Derived.IntWalk
set_option maxRecDepth 100000
set_option maxHeartbeats 40000000
namespace Go.Proofs.YtjafpikjpipbkaaGreatDoor
open Go.RowKit ND
def hcomp (a b:Int):Option Int :=
 if (4352 ≤ a ∧ a ≤ 4370) ∧ 4449 ≤ b ∧ b ≤ 4469 then some (44032 + ((a - 4352) * 21 + b - 4449) * 28)
 else if (44032 ≤ a ∧ a ≤ 55203 ∧ (a - 44032) % 28=0) ∧ 4520 ≤ b ∧ b ≤ 4546 then some (a + b - 4519) else none
def compL (T:Tab):List ((Int × Int) × Int):=(T.decomps.filter (fun m => T.comp m.1)).map fun m => ((m.2.getD 0 0,m.2.getD 1 0),m.1)
def lookP:List ((Int × Int) × Int) → Int × Int → Option Int
 | [],_ => none
 | e :: r,p => if e.1=p then some e.2 else lookP r p
def pairP (T:Tab) (a b:Int):Option Int:=match hcomp a b with
 | some x => some x
 | none => lookP (compL T) (a,b)
def secP (T:Tab) (c:Int):Bool:=decide (4449 ≤ c ∧ c ≤ 4469) || decide (4520 ≤ c ∧ c ≤ 4546) || (compL T).any (fun e => e.1.2 == c)
theorem lookP_some {l:List ((Int × Int) × Int)} {p:Int × Int} {x:Int} (h:lookP l p=some x):(p,x) ∈ l:=by
 induction l with
 | nil => cases h
 | cons e r ih =>
   unfold lookP at h
   split at h
   ·rename_i he
    cases h
    rw [← he]
    exact List.mem_cons_self
   ·exact List.mem_cons_of_mem _ (ih h)
theorem pairP_sec {T:Tab} {c:Int} (h:secP T c=false) (a:Int):pairP T a c=none:=by
 unfold secP at h
 simp only [Bool.or_eq_false_iff,decide_eq_false_iff_not] at h
 unfold pairP
 have h1:hcomp a c=none:=by
  unfold hcomp
  rw [if_neg (by omega),if_neg (by omega)]
 rw [h1]
 simp only
 cases hl:lookP (compL T) (a,c) with
 | none => rfl
 | some x =>
   exfalso
   have h2:=List.any_eq_false.1 h.2 _ (lookP_some hl)
   simp at h2
section
variable (f:Int → Int) (pr:Int → Int → Option Int)
def blockedB (o:List Int) (i:Nat) (c:Int):Bool :=
 if i + 1 < o.length then (f (o.getLastD 0) == 0) || decide (f c ≤ f (o.getLastD 0)) else false
def appF (s:List Int × Option Nat) (c:Int):List Int × Option Nat:=(s.1 ++ [c],if f c=0 then some s.1.length else s.2)
def stepF (s:List Int × Option Nat) (c:Int):List Int × Option Nat :=
 match s.2 with
 | none => appF f s c
 | some i => if blockedB f s.1 i c=true then appF f s c else
   match pr (s.1.getD i 0) c with
   | some x => (s.1.set i x,some i)
   | none => appF f s c
def formL (l:List Int):List Int:=(l.foldl (stepF f pr) ([],none)).1
variable {f pr}
theorem stepF_none {o:List Int} {c:Int}:stepF f pr (o,none) c=appF f (o,none) c:=rfl
theorem stepF_blocked {o:List Int} {i:Nat} {c:Int} (h:blockedB f o i c=true):stepF f pr (o,some i) c=appF f (o,some i) c:=by
 unfold stepF;simp only;rw [if_pos h]
theorem stepF_pair {o:List Int} {i:Nat} {c x:Int} (h:blockedB f o i c=false) (hp:pr (o.getD i 0) c=some x):stepF f pr (o,some i) c=(o.set i x,some i):=by
 unfold stepF;simp only;rw [if_neg (by simp [h]),hp]
theorem stepF_no {o:List Int} {i:Nat} {c:Int} (h:blockedB f o i c=false) (hp:pr (o.getD i 0) c=none):stepF f pr (o,some i) c=appF f (o,some i) c:=by
 unfold stepF;simp only;rw [if_neg (by simp [h]),hp]
theorem stepF_cut {s:List Int × Option Nat} {c:Int} (h0:f c=0) (hn:∀ a,pr a c=none):stepF f pr s c=(s.1 ++ [c],some s.1.length):=by
 obtain ⟨o,s⟩:=s
 cases s with
 | none => rw [stepF_none];unfold appF;rw [if_pos h0]
 | some i =>
   cases hb:blockedB f o i c
   ·rw [stepF_no hb (hn _)];unfold appF;rw [if_pos h0]
   ·rw [stepF_blocked hb];unfold appF;rw [if_pos h0]
def shiftF (o:List Int) (s:List Int × Option Nat):List Int × Option Nat:=(o ++ s.1,s.2.map (o.length + ·))
theorem blocked_shift {o p:List Int} {i:Nat} {c:Int} (hi:i < p.length):blockedB f (o ++ p) (o.length + i) c=blockedB f p i c:=by
 have hp:p ≠ []:=by rintro rfl;simp at hi
 unfold blockedB
 rw [List.length_append]
 have e:(o ++ p).getLastD 0=p.getLastD 0:=by
  rw [List.getLastD_eq_getLast?,List.getLastD_eq_getLast?,List.getLast?_append]
  cases h:p.getLast? with
  | none => exact absurd (List.getLast?_eq_none_iff.1 h) hp
  | some x => rfl
 rw [e]
 by_cases h:i + 1 < p.length
 ·rw [if_pos (by omega),if_pos h]
 ·rw [if_neg (by omega),if_neg h]
theorem stepF_shift {o p:List Int} {i:Nat} {c:Int} (hi:i < p.length) :
  stepF f pr (shiftF o (p,some i)) c=shiftF o (stepF f pr (p,some i) c) ∧ ∃ q j,stepF f pr (p,some i) c=(q,some j) ∧ j < q.length:=by
 have hs:shiftF o (p,some i)=(o ++ p,some (o.length + i)):=rfl
 have ha:appF f (o ++ p,some (o.length + i)) c=shiftF o (appF f (p,some i) c) ∧ ∃ q j,appF f (p,some i) c=(q,some j) ∧ j < q.length:=by
  unfold appF shiftF
  simp only
  by_cases h0:f c=0
  ·simp only [h0,if_true]
   exact ⟨by simp,_,_,rfl,by simp⟩
  ·simp only [h0,if_false]
   exact ⟨by simp,_,_,rfl,by simp;omega⟩
 rw [hs]
 cases hb:blockedB f p i c
 ·have hb':blockedB f (o ++ p) (o.length + i) c=false:=by rw [blocked_shift hi];exact hb
  have hg:(o ++ p).getD (o.length + i) 0=p.getD i 0:=by
   rw [List.getD_eq_getElem?_getD,List.getD_eq_getElem?_getD,List.getElem?_append_right (by omega),show o.length + i - o.length=i by omega]
  cases hp:pr (p.getD i 0) c with
  | none =>
    rw [stepF_no hb' (by rw [hg];exact hp),stepF_no hb hp]
    exact ha
  | some x =>
    rw [stepF_pair hb' (by rw [hg];exact hp),stepF_pair hb hp]
    refine ⟨?_,_,_,rfl,by simpa using hi⟩
    unfold shiftF
    simp only [Option.map_some,Prod.mk.injEq,and_true]
    rw [List.set_append_right _ _ (by omega),show o.length + i - o.length=i by omega]
 ·have hb':blockedB f (o ++ p) (o.length + i) c=true:=by rw [blocked_shift hi];exact hb
  rw [stepF_blocked hb',stepF_blocked hb]
  exact ha
theorem fold_shift {o:List Int}:∀ (l p:List Int) (i:Nat),i < p.length → l.foldl (stepF f pr) (shiftF o (p,some i))=shiftF o (l.foldl (stepF f pr) (p,some i))
 | [],_,_,_ => rfl
 | c :: r,p,i,hi => by
   obtain ⟨h1,q,j,h2,h3⟩:=stepF_shift (f:=f) (pr:=pr) (o:=o) (c:=c) hi
   rw [List.foldl_cons,List.foldl_cons,h1,h2]
   exact fold_shift r q j h3
theorem formL_cut {a b:List Int} {c:Int} (h0:f c=0) (hn:∀ x,pr x c=none):formL f pr (a ++ c :: b)=formL f pr a ++ formL f pr (c :: b):=by
 unfold formL
 rw [List.foldl_append,List.foldl_cons,List.foldl_cons,stepF_cut h0 hn,stepF_cut h0 hn]
 generalize a.foldl (stepF f pr) ([],none)=s
 have h:=fold_shift (f:=f) (pr:=pr) (o:=s.1) b [c] 0 (by simp)
 have e:shiftF s.1 ([c],some 0)=(s.1 ++ [c],some s.1.length):=rfl
 rw [e] at h
 rw [h]
 rfl
def StOk (s:List Int × Option Nat):Prop:=∀ i,s.2=some i → i < s.1.length
theorem stOk_step {s:List Int × Option Nat} (c:Int) (h:StOk s):StOk (stepF f pr s c):=by
 obtain ⟨o,st⟩:=s
 have ha:StOk (appF f (o,st) c):=by
  intro i hi
  unfold appF at hi ⊢
  simp only at hi ⊢
  split at hi
  ·cases hi;simp
  ·have:=h i hi;simp at this ⊢;omega
 cases st with
 | none => exact ha
 | some i =>
   cases hb:blockedB f o i c
   ·cases hp:pr (o.getD i 0) c with
    | none => rw [stepF_no hb hp];exact ha
    | some x => rw [stepF_pair hb hp];intro j hj;have:=h j hj;simpa using this
   ·rw [stepF_blocked hb];exact ha
theorem step_len {s:List Int × Option Nat} (c:Int):(stepF f pr s c).1.length ≤ s.1.length + 1:=by
 obtain ⟨o,st⟩:=s
 have ha:(appF f (o,st) c).1.length ≤ o.length + 1:=by unfold appF;simp
 cases st with
 | none => exact ha
 | some i =>
   cases hb:blockedB f o i c
   ·cases hp:pr (o.getD i 0) c with
    | none => rw [stepF_no hb hp];exact ha
    | some x => rw [stepF_pair hb hp];simp
   ·rw [stepF_blocked hb];exact ha
theorem fold_len:∀ (l:List Int) (s:List Int × Option Nat),(l.foldl (stepF f pr) s).1.length ≤ s.1.length + l.length
 | [],s => by simp
 | c :: r,s => by
   have h1:=fold_len r (stepF f pr s c)
   have h2:=step_len (f:=f) (pr:=pr) (s:=s) c
   rw [List.foldl_cons,List.length_cons]
   omega
theorem formL_len (l:List Int):(formL f pr l).length ≤ l.length:=by
 have:=fold_len (f:=f) (pr:=pr) l ([],none)
 simpa [formL] using this
theorem formL_all {P:Int → Prop} (hp:∀ a c x,pr a c=some x → P x):∀ (l:List Int) (s:List Int × Option Nat),(∀ x ∈ l,P x) → (∀ x ∈ s.1,P x) → ∀ x ∈ (l.foldl (stepF f pr) s).1,P x
 | [],_,_,hs => hs
 | c :: r,s,hl,hs => by
   rw [List.foldl_cons]
   refine formL_all hp r _ (fun x hx => hl x (List.mem_cons_of_mem _ hx)) ?_
   have ha:∀ x ∈ (appF f s c).1,P x:=by
    intro x hx
    unfold appF at hx
    simp only [List.mem_append,List.mem_singleton] at hx
    rcases hx with hx | rfl
    ·exact hs x hx
    ·exact hl _ List.mem_cons_self
   obtain ⟨o,st⟩:=s
   cases st with
   | none => exact ha
   | some i =>
     cases hb:blockedB f o i c
     ·cases hq:pr (o.getD i 0) c with
      | none => rw [stepF_no hb hq];exact ha
      | some y =>
        rw [stepF_pair hb hq]
        intro x hx
        rcases List.mem_or_eq_of_mem_set hx with hx | rfl
        ·exact hs x hx
        ·exact hp _ _ _ hq
     ·rw [stepF_blocked hb];exact ha
end
def nfcP (T:Tab) (l:List Int):List Int:=formL T.classOf (pairP T) (nfdL T l)
theorem nfcP_len {T:Tab} (l:List Int):(nfcP T l).length ≤ (flatD T l).length:=by
 rw [← nfdL_length];exact formL_len _
def bndB (T:Tab) (c:Int):Bool:=match expandL T c with
 | [] => false
 | d :: _ => (T.classOf d == 0) && !secP T d
theorem nfcP_cut {T:Tab} (hT:T.check=0) {a b:List Int} {c:Int} (hc:bndB T c=true):nfcP T (a ++ c :: b)=nfcP T a ++ nfcP T (c :: b):=by
 have hf:∀ x,0 ≤ T.classOf x:=fun x => (cls_range hT x).1
 unfold bndB at hc
 cases he:expandL T c with
 | nil => rw [he] at hc;cases hc
 | cons d ds =>
   rw [he] at hc
   simp only [Bool.and_eq_true,beq_iff_eq,Bool.not_eq_true'] at hc
   obtain ⟨h0,hs⟩:=hc
   have e1:flatD T (a ++ c :: b)=flatD T a ++ d :: (ds ++ flatD T b):=by rw [flatD_app,flatD_cons,he];rfl
   have e2:flatD T (c :: b)=[] ++ d :: (ds ++ flatD T b):=by rw [flatD_cons,he];rfl
   unfold nfcP nfdL
   rw [e1,e2,can_app hf h0,can_app hf h0,show can T.classOf []=[] from rfl,List.nil_append]
   exact formL_cut h0 (pairP_sec hs)
def StrInv (T:Tab) (p acc held:List Int):Prop:=∀ y,nfcP T (p ++ y)=acc ++ nfcP T (held ++ y)
theorem StrInv.start (T:Tab):StrInv T [] [] []:=fun _ => rfl
theorem StrInv.hold {T:Tab} {p acc held:List Int} {c:Int} (h:StrInv T p acc held):StrInv T (p ++ [c]) acc (held ++ [c]):=fun y => by
 rw [List.append_assoc,List.append_assoc];exact h _
theorem StrInv.flush {T:Tab} (hT:T.check=0) {p acc held:List Int} {c:Int} (h:StrInv T p acc held) (hc:bndB T c=true):StrInv T (p ++ [c]) (acc ++ nfcP T held) [c]:=fun y => by
 rw [List.append_assoc,h,List.append_assoc]
 show acc ++ nfcP T (held ++ c :: y)=_
 rw [nfcP_cut hT hc];rfl
theorem StrInv.done {T:Tab} {p acc held:List Int} (h:StrInv T p acc held):nfcP T p=acc ++ nfcP T held:=by
 have:=h []
 simpa using this
def lowP (c:Int):Prop:=¬ (65 ≤ c ∧ c ≤ 90)
theorem low_exp {T:Tab} (h:Made T):∀ (n:Nat) (c x:Int),lowP c → x ∈ expF T.decomps n c → lowP x:=by
 intro n
 induction n with
 | zero => intro c x hc hx;simp [expF] at hx;rw [hx];exact hc
 | succ n ih =>
   intro c x hc hx
   by_cases h0:findL T.decomps c=[]
   ·rw [expF_none h0] at hx;simp at hx;rw [hx];exact hc
   ·rw [expF_some h0,List.mem_flatMap] at hx
    obtain ⟨d,hd,hx⟩:=hx
    refine ih d x ?_ hx
    obtain ⟨a,r,e1,e2,e3⟩:=h.dec.form _ (findL_mem h0)
    simp only at e1 e2
    have hr:=h.dec.rng _ (findL_mem h0)
    simp only at hr
    rw [e1] at hd
    unfold lowP
    rcases List.mem_cons.1 hd with rfl | hd
    ·omega
    ·rcases e3 with rfl | ⟨b,rfl,e3⟩
     ·cases hd
     ·simp at hd;omega
theorem low_nfc {T:Tab} (h:Made T) {l:List Int} (hl:∀ x ∈ l,lowP x):∀ x ∈ nfcP T l,lowP x:=by
 refine formL_all ?_ (nfdL T l) ([],none) ?_ (by simp)
 ·intro a c x hx
  unfold pairP at hx
  cases hh:hcomp a c with
  | some y =>
    rw [hh] at hx
    cases hx
    unfold hcomp at hh
    unfold lowP
    split at hh
    ·cases hh;omega
    ·split at hh
     ·cases hh;omega
     ·cases hh
  | none =>
    rw [hh] at hx
    have hm:=lookP_some hx
    unfold compL at hm
    obtain ⟨m,hm,e⟩:=List.mem_map.1 hm
    have h1:=h.dec.rng m (List.mem_filter.1 hm).1
    simp only [Prod.mk.injEq] at e
    unfold lowP
    omega
 ·intro x hx
  rw [nfdL_mem] at hx
  unfold flatD at hx
  obtain ⟨c,hc,hx⟩:=List.mem_flatMap.1 hx
  cases hs:sylB c
  ·rw [expandL_not hs] at hx
   exact low_exp h _ _ _ (hl c hc) hx
  ·rw [expandL_syl hs] at hx
   have:=(jamoB_iff x).1 (hangD_jamo hx).1
   unfold lowP
   omega
end Go.Proofs.YtjafpikjpipbkaaGreatDoor
namespace Go.Proofs.YtjafpikjpipbkaaGreatDoor
open Go.RowKit Go.ChangeMaps
section
variable {P:Program} {K E:TypeId} {i:TypeInfo}
theorem run_findAskingQ (hK:P.underlying K=some (.array 2 E)) (hE:P.underlying E=some (.int .i64)) (hi:P.info? E=some i) (hp:P.plainKey E=true) (hc:P.cellsOf E=1) (w:World) (p:Int × Int):∀ (es:List MapEntry) (qs:List ((Int × Int) × Int)) (n:Nat),es.map (fun e => (e.key,e.val))=qs.map (fun q => (pairV q.1,Value.int .i64 q.2)) →
  (lookP qs p=none → (Instr.findAsking K (pairV p) es n).run P w=.ok none w) ∧ (∀ x,lookP qs p=some x → ∃ j,(Instr.findAsking K (pairV p) es n).run P w=.ok (some (j,.int .i64 x)) w):=by
 intro es
 induction es with
 | nil =>
   intro qs n h
   obtain rfl:qs=[]:=by cases qs with
    | nil => rfl
    | cons a r => cases h
   exact ⟨fun _ => rfl,fun x h => by cases h⟩
 | cons e es ih =>
   intro qs n h
   cases qs with
   | nil => cases h
   | cons q qs =>
     simp only [List.map_cons,List.cons.injEq,Prod.mk.injEq] at h
     obtain ⟨⟨hk,hv⟩,hr⟩:=h
     obtain ⟨ih1,ih2⟩:=ih qs (n + 1) hr
     have he:=run_equal_pair hK hE hi hp hc w p q.1
     by_cases hpq:p=q.1
     ·have hl:lookP (q :: qs) p=some q.2:=by unfold lookP;rw [if_pos hpq.symm]
      refine ⟨fun hn => (by rw [hl] at hn;cases hn),fun x hx => ⟨n,?_⟩⟩
      rw [hl] at hx
      cases hx
      unfold Instr.findAsking
      rw [hk]
      simp only [Sem.run_bind,he,Result.andThen_ok,decide_eq_true hpq,if_true,hv,Sem.run_pure]
     ·have hl:lookP (q :: qs) p=lookP qs p:=by
       show (if q.1=p then some q.2 else lookP qs p)=_
       rw [if_neg (fun h => hpq h.symm)]
      have hstep:(Instr.findAsking K (pairV p) (e :: es) n).run P w=(Instr.findAsking K (pairV p) es (n + 1)).run P w:=by
       rw [Instr.findAsking.eq_def]
       simp only [hk,Sem.run_bind,he,Result.andThen_ok,decide_eq_false hpq,Bool.false_eq_true,if_false]
      rw [hstep,hl]
      exact ⟨ih1,ih2⟩
theorem run_findKeyQ (hK:P.underlying K=some (.array 2 E)) (hE:P.underlying E=some (.int .i64)) (hi:P.info? E=some i) (hp:P.plainKey E=true) (hc:P.cellsOf E=1) (w:World) (p:Int × Int) (es:List MapEntry) (qs:List ((Int × Int) × Int)) (h:es.map (fun e => (e.key,e.val))=qs.map (fun q => (pairV q.1,Value.int .i64 q.2))) :
  (lookP qs p=none → (Instr.findKey K (pairV p) es).run P w=.ok none w) ∧ (∀ x,lookP qs p=some x → ∃ j,(Instr.findKey K (pairV p) es).run P w=.ok (some (j,.int .i64 x)) w):=by
 have hf:=run_findAskingQ hK hE hi hp hc w p es qs 0 h
 cases es with
 | nil =>
   obtain rfl:qs=[]:=by cases qs with
    | nil => rfl
    | cons a r => cases h
   refine ⟨fun _ => ?_,fun x h => by cases h⟩
   simp [Instr.findKey,run_underlying hK,Instr.findNow]
 | cons e es =>
   have hn:Instr.findNow (.array 2 E) (pairV p) (e :: es) 0=none:=by
    unfold Instr.findNow Instr.sameNow
    rfl
   have he:(Instr.findKey K (pairV p) (e :: es)).run P w=(Instr.findAsking K (pairV p) (e :: es) 0).run P w:=by
    simp only [Instr.findKey,Sem.run_bind,run_underlying hK,Result.andThen_ok,hn]
   rw [he]
   exact hf
def OwnsQ (w:World) (b:Nat) (qs:List ((Int × Int) × Int)):Prop:=∃ es clock,w.heap[b]?=some (.map es clock) ∧ es.toList.map (fun e => (e.key,e.val))=qs.map (fun q => (pairV q.1,Value.int .i64 q.2)) ∧ (∀ e ∈ es.toList,e.born < clock) ∧ (es.toList.map (·.born)).Nodup
theorem OwnsQ.lt {w:World} {b:Nat} {qs:List ((Int × Int) × Int)} (h:OwnsQ w b qs):b < w.heap.size:=by
 obtain ⟨es,c,h,_⟩:=h;exact (Array.getElem?_eq_some_iff.1 h).1
theorem OwnsQ.below {w w':World} {b B:Nat} {qs:List ((Int × Int) × Int)} (h:OwnsQ w b qs) (hb:Below B w w') (hl:b < B):OwnsQ w' b qs:=by
 obtain ⟨es,c,h,r⟩:=h;exact ⟨es,c,(hb.block b hl).trans h,r⟩
theorem OwnsQ.later {w w':World} {b:Nat} {qs:List ((Int × Int) × Int)} (h:OwnsQ w b qs) (hb:Below w.heap.size w w'):OwnsQ w' b qs:=h.below hb h.lt
theorem OwnsQ.new (w:World):OwnsQ (w.alloc (.map #[] 0)) w.heap.size []:=⟨#[],0,heap_alloc_new w _,rfl,by simp,by simp⟩
theorem OwnsQ.lookup {M:TypeId} {w:World} {b:Nat} {qs:List ((Int × Int) × Int)} (h:OwnsQ w b qs) {B:TypeId} (hM:P.underlying M=some (.map K B)) (hz:∀ w,(zeroValue B).run P w=.ok (.int .i64 0) w)
  (hK:P.underlying K=some (.array 2 E)) (hE:P.underlying E=some (.int .i64)) (hi:P.info? E=some i) (hp:P.plainKey E=true) (hc:P.cellsOf E=1) (p:Int × Int) :
  (Instr.lookup M (.map (some b)) (pairV p) true).run P w=.ok (.tuple #[.int .i64 ((lookP qs p).getD 0),.bool (lookP qs p).isSome]) w:=by
 obtain ⟨es,clock,hb,hk,_⟩:=h
 obtain ⟨h1,h2⟩:=run_findKeyQ hK hE hi hp hc w p es.toList qs hk
 cases hm:lookP qs p with
 | none => simp [Instr.lookup,run_underlying hM,MapKept.run_getObj_map hb,run_checkKey_pair hK hE hi hp hc,h1 hm,Result.andThen,hz]
 | some x =>
   obtain ⟨j,hj⟩:=h2 x hm
   simp [Instr.lookup,run_underlying hM,MapKept.run_getObj_map hb,run_checkKey_pair hK hE hi hp hc,hj,Result.andThen]
theorem OwnsQ.update {M:TypeId} {w:World} {b:Nat} {qs:List ((Int × Int) × Int)} (h:OwnsQ w b qs) {B:TypeId} (hM:P.underlying M=some (.map K B))
  (hK:P.underlying K=some (.array 2 E)) (hE:P.underlying E=some (.int .i64)) (hi:P.info? E=some i) (hp:P.plainKey E=true) (hc:P.cellsOf E=1) (p:Int × Int) (x:Int) (hm:lookP qs p=none) :
  ∃ w',(Instr.mapUpdate M (.map (some b)) (pairV p) (.int .i64 x)).run P w=.ok () w' ∧ OwnsQ w' b (qs ++ [(p,x)]) ∧ w.grownBy w' (some b):=by
 obtain ⟨es,clock,hb,hk,hbo,hnd⟩:=h
 obtain ⟨h1,_⟩:=run_findKeyQ hK hE hi hp hc w p es.toList qs hk
 have hl:=(Array.getElem?_eq_some_iff.1 hb).1
 refine ⟨setBlock w b (.map (es.push ⟨pairV p,.int .i64 x,clock⟩) (clock + 1)),?_,⟨es.push ⟨pairV p,.int .i64 x,clock⟩,clock + 1,?_,?_,?_,?_⟩,?_⟩
 ·simp [Instr.mapUpdate,run_underlying hM,MapKept.run_getObj_map hb,run_checkKey_pair hK hE hi hp hc,h1 hm,MapKept.run_setObj_map _ hb,Result.andThen,setBlock]
 ·simp [setBlock,hl]
 ·simp [hk]
 ·intro e he
  simp only [Array.toList_push,List.mem_append,List.mem_singleton] at he
  rcases he with he | rfl
  ·have:=hbo e he;omega
  ·exact Nat.lt_succ_self _
 ·simp only [Array.toList_push,List.map_append,List.map_cons,List.map_nil]
  rw [List.nodup_append]
  refine ⟨hnd,by simp,fun x hx y hy e => ?_⟩
  simp only [List.mem_singleton] at hy
  obtain ⟨z,hz,rfl⟩:=List.mem_map.1 hx
  have:=hbo z hz
  omega
 ·refine ⟨rfl,rfl,rfl,by simp [setBlock],fun k hk hne => ?_⟩
  have:k ≠ b:=fun e => hne (by rw [e])
  simp [setBlock,Ne.symm this]
end
end Go.Proofs.YtjafpikjpipbkaaGreatDoor
namespace Go.Proofs.YtjafpikjpipbkaaGreatDoor
open Go.RowKit Go.ChangeMaps
def IterQ (D:Int × Int → Prop) (w:World) (b r:Nat) (qs:List ((Int × Int) × Int)) (m:Nat):Prop :=
 ∃ es clock seen c0,w.heap[b]?=some (.map es clock) ∧ es.toList.map (fun e => (e.key,e.val))=qs.map (fun q => (pairV q.1,Value.int .i64 q.2)) ∧ (∀ e ∈ es.toList,e.born < clock) ∧ (es.toList.map (·.born)).Nodup ∧
  w.heap[r]?=some (.mapIter (some b) clock seen c0) ∧ clock ≤ c0 ∧ (∀ e ∈ es.toList,seen.contains e.born=true → ∃ q,e.key=pairV q ∧ D q) ∧ (leftOf es seen).size=m
theorem born_inj {l:List MapEntry} (h:(l.map (·.born)).Nodup) {a b:MapEntry} (ha:a ∈ l) (hb:b ∈ l) (e:a.born=b.born):a=b:=by
 induction l with
 | nil => cases ha
 | cons c r ih =>
   rw [List.map_cons,List.nodup_cons] at h
   rcases List.mem_cons.1 ha with h1 | h1
   ·rcases List.mem_cons.1 hb with h2 | h2
    ·rw [h1,h2]
    ·exact absurd (by rw [← h1,e];exact List.mem_map.2 ⟨b,h2,rfl⟩) h.1
   ·rcases List.mem_cons.1 hb with h2 | h2
    ·exact absurd (by rw [← h2,← e];exact List.mem_map.2 ⟨a,h1,rfl⟩) h.1
    ·exact ih h.2 h1 h2
theorem pairV_inj {p q:Int × Int} (h:pairV p=pairV q):p=q:=by
 obtain ⟨a,b⟩:=p
 obtain ⟨c,d⟩:=q
 unfold pairV at h
 simp at h
 rw [h.1,h.2]
theorem IterQ.lt {D:Int × Int → Prop} {w:World} {b r m:Nat} {qs:List ((Int × Int) × Int)} (h:IterQ D w b r qs m):b < w.heap.size ∧ r < w.heap.size:=by
 obtain ⟨es,clock,seen,c0,h1,_,_,_,h2,_⟩:=h
 exact ⟨(Array.getElem?_eq_some_iff.1 h1).1,(Array.getElem?_eq_some_iff.1 h2).1⟩
theorem IterQ.below {D:Int × Int → Prop} {w w':World} {b r m:Nat} {qs:List ((Int × Int) × Int)} (h:IterQ D w b r qs m) (hb:Below w.heap.size w w'):IterQ D w' b r qs m:=by
 obtain ⟨hb1,hr1⟩:=h.lt
 obtain ⟨es,clock,seen,c0,h1,h3,h4,h5,h2,h6⟩:=h
 exact ⟨es,clock,seen,c0,(hb.block b hb1).trans h1,h3,h4,h5,(hb.block r hr1).trans h2,h6⟩
section
variable {P:Program}
theorem OwnsQ.range {M K B:TypeId} {w:World} {b:Nat} {qs:List ((Int × Int) × Int)} (h:OwnsQ w b qs) (hM:P.underlying M=some (.map K B)) (D:Int × Int → Prop) :
  ∃ w',(Instr.range M (.map (some b))).run P w=.ok (.pointer (some ⟨w.heap.size,0,none⟩)) w' ∧ IterQ D w' b w.heap.size qs qs.length ∧ Below w.heap.size w w' ∧ w'.heap.size=w.heap.size + 1:=by
 have hl:=h.lt
 obtain ⟨es,clock,hb,hk,hbo,hnd⟩:=h
 refine ⟨w.alloc (.mapIter (some b) clock #[] clock),?_,⟨es,clock,#[],clock,?_,hk,hbo,hnd,heap_alloc_new w _,Nat.le_refl _,fun e _ h => by simp at h,?_⟩,(Below.refl _ _).alloc (Nat.le_refl _) _,by simp⟩
 ·simp [Instr.range,run_underlying hM,MapKept.run_getObj_map hb,Result.andThen]
 ·rw [Below.heap_alloc _ _ _ hl];exact hb
 ·have e:leftOf es #[]=es:=by unfold leftOf;simp
  rw [e]
  have h1:=congrArg List.length hk
  simpa using h1
theorem IterQ.next {D:Int × Int → Prop} {w:World} {b r m:Nat} {qs:List ((Int × Int) × Int)} (h:IterQ D w b r qs m) (ty:TypeId) :
  (m=0 ∧ (Instr.next (.pointer (some ⟨r,0,none⟩)) false ty).run P w=.ok (.tuple #[.bool false]) w ∧ ∀ q ∈ qs,D q.1) ∨
  ∃ q x w',(q,x) ∈ qs ∧ (Instr.next (.pointer (some ⟨r,0,none⟩)) false ty).run P w=.ok (.tuple #[.bool true,pairV q,.int .i64 x]) w' ∧ (Instr.entry (.pointer (some ⟨r,0,none⟩))).run P w'=.ok (.tuple #[pairV q,.int .i64 x]) w' ∧ (D q → ∃ m',m' < m ∧ IterQ D w' b r qs m') ∧ w.grownBy w' (some r):=by
 obtain ⟨hlb,hlr⟩:=h.lt
 obtain ⟨es,clock,seen,c0,hb,hk,hbo,hnd,hr,hc,hd,hm⟩:=h
 have hmem:∀ e ∈ es.toList,∃ q ∈ qs,e.key=pairV q.1 ∧ e.val=.int .i64 q.2:=fun e he => by
  have h1:(e.key,e.val) ∈ es.toList.map (fun e => (e.key,e.val)):=List.mem_map.2 ⟨e,he,rfl⟩
  rw [hk] at h1
  obtain ⟨q,hq,e1⟩:=List.mem_map.1 h1
  simp only [Prod.mk.injEq] at e1
  exact ⟨q,hq,e1.1.symm,e1.2.symm⟩
 have hbr:b ≠ r:=by
  rintro rfl
  rw [hb] at hr
  cases hr
 rcases run_next_at (P:=P) w ty r b clock c0 seen es clock hr hb hbo hc with ⟨h0,hrun⟩ | ⟨e,he,w1,hw1,hrun⟩
 ·left
  refine ⟨by omega,hrun,fun q hq => ?_⟩
  have h1:(pairV q.1,Value.int .i64 q.2) ∈ qs.map (fun q => (pairV q.1,Value.int .i64 q.2)):=List.mem_map.2 ⟨q,hq,rfl⟩
  rw [← hk] at h1
  obtain ⟨e,he,e1⟩:=List.mem_map.1 h1
  simp only [Prod.mk.injEq] at e1
  have h2:seen.contains e.born=true:=by
   cases hs:seen.contains e.born
   ·exfalso
    have:e ∈ (leftOf es seen).toList:=by
     unfold leftOf
     rw [Array.toList_filter,List.mem_filter]
     exact ⟨he,by rw [hs];rfl⟩
    have h3:(leftOf es seen)=#[]:=Array.eq_empty_of_size_eq_zero h0
    rw [h3] at this
    cases this
   ·rfl
  obtain ⟨q',hq',hD⟩:=hd e he h2
  rw [e1.1] at hq'
  rw [pairV_inj hq']
  exact hD
 ·right
  have he':e ∈ es.toList:=by unfold leftOf at he;simp at he;simpa using he.1
  have hns:seen.contains e.born=false:=by unfold leftOf at he;simp at he;simpa using he.2
  obtain ⟨q,hq,hk1,hv1⟩:=hmem e he'
  have hb1:w1.heap[b]?=some (.map es clock):=by rcases hw1 with rfl | rfl <;> exact hb
  have hsz:w1.heap.size=w.heap.size:=by rcases hw1 with rfl | rfl <;> rfl
  have hb2:(setBlock w1 r (.mapIter (some b) clock (seen.push e.born) clock)).heap[b]?=some (.map es clock):=by
   simp [setBlock,Ne.symm hbr,hb1]
  have hr2:(setBlock w1 r (.mapIter (some b) clock (seen.push e.born) clock)).heap[r]?=some (.mapIter (some b) clock (seen.push e.born) clock):=by
   simp [setBlock,hsz,hlr]
  refine ⟨q.1,q.2,_,by simpa using hq,by rw [hrun,hk1,hv1],?_,fun hD => ⟨_,?_,es,clock,seen.push e.born,clock,hb2,hk,hbo,hnd,hr2,Nat.le_refl _,?_,rfl⟩,?_⟩
  ·have:=run_entry_at (P:=P) _ r b clock seen es clock e hr2 hb2 he' hnd
   rw [this,hk1,hv1]
  ·rw [← hm]
   unfold leftOf
   have hsub:∀ l:List MapEntry,(l.filter (fun x => !(seen.push e.born).contains x.born)).length ≤ (l.filter (fun x => !seen.contains x.born)).length ∧ (e ∈ l → (l.filter (fun x => !(seen.push e.born).contains x.born)).length < (l.filter (fun x => !seen.contains x.born)).length):=by
    intro l
    induction l with
    | nil => exact ⟨Nat.le_refl _,fun h => by cases h⟩
    | cons a l ih =>
      have ha:(seen.push e.born).contains a.born=(seen.contains a.born || (a.born == e.born)):=by
       rw [Bool.eq_iff_iff];simp
      simp only [List.filter_cons,ha]
      by_cases h1:seen.contains a.born=true
      ·have h2:a ≠ e:=fun hh => by rw [hh,hns] at h1;cases h1
       simp only [h1,Bool.true_or,Bool.not_true,Bool.false_eq_true,if_false]
       exact ⟨ih.1,fun hm => ih.2 ((List.mem_cons.1 hm).resolve_left (fun hh => h2 hh.symm))⟩
      ·have h1':seen.contains a.born=false:=by simpa using h1
       simp only [h1',Bool.false_or,Bool.not_false,if_true]
       by_cases h2:(a.born == e.born)=true
       ·simp only [h2,Bool.not_true,Bool.false_eq_true,if_false,List.length_cons]
        exact ⟨by omega,fun _ => by omega⟩
       ·have h2':(a.born == e.born)=false:=by simpa using h2
        have h3:e ≠ a:=fun hh => by rw [hh] at h2';simp at h2'
        simp only [h2',Bool.not_false,if_true,List.length_cons]
        exact ⟨by omega,fun hm => by have:=ih.2 ((List.mem_cons.1 hm).resolve_left h3);omega⟩
   have h1:=(hsub es.toList).2 he'
   rw [← Array.toList_filter,← Array.toList_filter,Array.length_toList,Array.length_toList] at h1
   exact h1
  ·intro e2 he2 hs2
   by_cases hs3:seen.contains e2.born=true
   ·exact hd e2 he2 hs3
   ·have h4:e2.born=e.born:=by
     have:(seen.push e.born).contains e2.born=(seen.contains e2.born || (e2.born == e.born)):=by
      rw [Bool.eq_iff_iff];simp
     rw [this] at hs2
     have hs4:seen.contains e2.born=false:=by simpa using hs3
     rw [hs4,Bool.false_or] at hs2
     exact beq_iff_eq.1 hs2
    have h5:e2=e:=by
     exact born_inj hnd he2 he' h4
    exact ⟨q.1,by rw [h5,hk1],hD⟩
  ·rcases hw1 with rfl | rfl
   ·exact ⟨rfl,rfl,rfl,by simp [setBlock],fun k hk hne => by
     have:k ≠ r:=fun e => hne (by rw [e])
     simp [setBlock,Ne.symm this]⟩
   ·exact ⟨rfl,rfl,rfl,by simp [setBlock],fun k hk hne => by
     have:k ≠ r:=fun e => hne (by rw [e])
     simp [setBlock,Ne.symm this];rfl⟩
end
end Go.Proofs.YtjafpikjpipbkaaGreatDoor
namespace Go.Proofs.YtjafpikjpipbkaaGreatDoor
open Go.RowKit ND
def compTo (T:Tab) (j:Nat):List ((Int × Int) × Int):=((T.decomps.take j).filter (fun m => T.comp m.1)).map fun m => ((m.2.getD 0 0,m.2.getD 1 0),m.1)
theorem compTo_all (T:Tab):compTo T T.decomps.length=compL T:=by unfold compTo compL;rw [List.take_length]
theorem compTo_no {T:Tab} {j:Nat} {m:Mp} (hx:T.decomps[j]?=some m) (h:T.comp m.1=false):compTo T (j + 1)=compTo T j:=by
 unfold compTo;rw [take_snoc' hx,List.filter_append,List.map_append];simp [h]
theorem compTo_yes {T:Tab} {j:Nat} {m:Mp} (hx:T.decomps[j]?=some m) (h:T.comp m.1=true):compTo T (j + 1)=compTo T j ++ [((m.2.getD 0 0,m.2.getD 1 0),m.1)]:=by
 unfold compTo;rw [take_snoc' hx,List.filter_append,List.map_append];simp [h]
theorem compTo_new {T:Tab} (hk:T.check=0) (hs:sortM T.decomps) {j:Nat} {m:Mp} {a b:Int} (hx:T.decomps[j]?=some m) (h:T.comp m.1=true) (hm:m.2=[a,b]):lookP (compTo T j) (a,b)=none:=by
 cases hl:lookP (compTo T j) (a,b) with
 | none => rfl
 | some x =>
   exfalso
   have h1:=lookP_some hl
   unfold compTo at h1
   obtain ⟨m2,hm2,e⟩:=List.mem_map.1 h1
   obtain ⟨hm3,hc⟩:=List.mem_filter.1 hm2
   simp only [Prod.mk.injEq] at e
   have hmem:m2 ∈ T.decomps:=List.mem_of_mem_take hm3
   obtain ⟨a2,b2,hab⟩:=comp_form (T:=T) (c:=m2.1) hc
   rw [find_of_mem hs hmem] at hab
   have e2:m2.2=m.2:=by
    rw [hab] at e ⊢
    rw [hm]
    simp at e
    rw [e.1.1,e.1.2]
   have hn:T.pairs.Nodup:=by
    have:=(rules_of hk).2.2.2.2.2.2.2.1
    unfold Tab.rule8 at this
    exact of_decide_eq_true this
   have h2:=hn.sublist (pairsTo_sub T (j + 1))
   rw [pairsTo_yes hx h,List.nodup_append] at h2
   exact h2.2.2 m2.2 (by unfold pairsTo;exact List.mem_map.2 ⟨m2,hm2,rfl⟩) m.2 (List.mem_singleton.2 rfl) e2
def RetMapQ (w:World) (qs:List ((Int × Int) × Int)) (e:Ending) (w':World):Prop:=∃ b,e=.returned (.map (some b)) ∧ w.heap.size ≤ b ∧ OwnsQ w' b qs ∧ Below w.heap.size w w'
theorem collect_any (t:Tv) (T:Tab) (w:World) (ht:TabR w w.heap.size t T) (hck:T.check=0) :
  Calls Tryz.prog 81 #[t.val] w (RetMapQ w (compL T)):=by
 obtain ⟨tc,htc⟩:∃ tc,tc=t.cells:=⟨_,rfl⟩
 have hsh:=shape_of hck
 have hs:=keysB_sort hsh.kd
 have HCO:=Lib.hid (fun c tg sv W (h:TabR W W.heap.size t T) h2 h3 => composable_any t T hsh (sized_of hck).nd T.decomps.length c tg sv W h h2 h3 ((Ends.of hsh.ld (rules_of hck).2.2.2.2.2.1) c).1)
 have HT:=Lib.hid (fun W (h:Below w.heap.size w W) => ht.later h)
 have hmp:=ht.r9
 obtain ⟨A0,A1,A2,A3,A4,A5,A6,A7,A8,A9,A10,A11,k0,k1,k2,k3,k4,k5,k6,k7,k8,k9,k10,k11,rfl⟩:=ht.shape
 have HTC:=Lib.hid htc
 obtain ⟨B,cq,hB,_,_,_,hcell2⟩:=hmp
 cases hB
 have HM:=Lib.hid hcell2
 have HFK:=Lib.hid (fun i m (h:T.decomps[i]?=some m) => (findL_at (fun k a hk ha => hs k i a m hk ha h) h rfl:findL T.decomps m.1=m.2))
 have HNEW:=Lib.hid (fun j m a b (hx:T.decomps[j]?=some m) h1 h2 => compTo_new (a:=a) (b:=b) hck hs hx h1 h2)
 have HALL:=Lib.hid (compTo_all T)
 have hlen:=hsh.ld
 have hmm:=@run_makeMap Tryz.prog
 obtain ⟨i0,hi,_,_,_⟩:=info_parts Tryz.infoInt'
 clear ht htc hcell2 hs hsh hck
 go_enter Tryz.func81,Tryz.ntmps81
 go_wp2_with fail
 clear hmm
 go_loopw [10] (fun i wr => ∃ (j:Nat),j ≤ T.decomps.length ∧ i=.int .i64 j ∧ Below w.heap.size w wr ∧ Hid (Blk wr w.heap.size 26 tc) ∧ Hid (OwnsQ wr (w.heap.size + 1) (compTo T j))) (fun i _ => T.decomps.length - (intOf i).toNat)
 case atStart =>
  refine ⟨0,by omega,rfl,((Below.refl _ _).alloc (Nat.le_refl _) _).alloc (by simp) _,Lib.hid (by rw [HTC.out];exact (Blk.new _ _ _).alloc _),Lib.hid ?_⟩
  have h:=OwnsQ.new (w.alloc (.cells tc 26))
  rw [show (w.alloc (.cells tc 26)).heap.size=w.heap.size + 1 by simp,HTC.out] at h
  exact h
 case round =>
  obtain ⟨j,hj,rfl,hbel,HB,HO⟩:=hrel
  by_cases hjl:j < T.decomps.length
  ·obtain ⟨⟨cc,tg⟩,hxj,_⟩:=get_el hjl
   obtain ⟨aj,sv,rfl,ha,d0,d1,hto⟩:=HM.out j _ hxj
   simp only at d0 d1 hto
   have hto':=(hto.below hbel).more hbel.size
   obtain ⟨A',c',rfl,he1,he2,_,hcl⟩:=id hto
   obtain ⟨e0,e1⟩:=map_cells hbel ha d0 d1
   have HX:=Lib.hid hxj
   have hfk:=HFK.out j _ hxj
   simp only at hfk
   have hbelw:=hbel.alloc hbel.size (.cells #[.int .i64 cc,.slice A' tg.length c'] 61)
   have HB':=Lib.hid (HB.out.alloc (.cells #[.int .i64 cc,.slice A' tg.length c'] 61))
   obtain ⟨x0,x1,x2,x3,x4,x5,x6,x7,x8,x9,x10,x11⟩:=(show Blk _ _ _ #[_,_,_,_,_,_,_,_,_,_,_,_] from by have h:=HB'.out;rw [HTC.out] at h;exact h).tab
   have HCA:=Lib.hid (HCO.out cc tg _ _ (HT.out _ hbelw) (hto'.later ((Below.refl _ _).alloc (Nat.le_refl _) (.cells #[.int .i64 cc,.slice A' tg.length c'] 61))) hfk)
   have HCL:=Lib.hid hcl
   have HFD:=Lib.hid hfk
   have hOb:=HO.out.lt
   clear d0 d1 hxj hto hto' hcl hfk HB
   have r0:(0:Int) ≤ (j:Int):=by omega
   have r1:(j:Int) < (T.decomps.length:Int):=by omega
   have HO':=Lib.hid (HO.out.later ((Below.refl _ _).alloc (Nat.le_refl _) (.cells #[.int .i64 cc,.slice A' tg.length c'] 61)))
   cases hco:T.compF T.decomps.length cc
   ·rw [hco] at HCA
    have HN:Hid (compTo T (j + 1)=compTo T j):=Lib.hid (compTo_no HX.out hco)
    clear hco
    go_wp2_with fail
    refine HCA.out.mono ?_
    rintro e w2 ⟨rfl,b2⟩
    have HB2:=Lib.hid (HB'.out.later b2)
    have HO2:=Lib.hid (HO'.out.later b2)
    clear x0 x1 x2 x3 x4 x5 x6 x7 x8 x9 x10 x11 e0 e1 HB'
    go_wp2_with fail
    go_roundw
    case rel => exact ⟨j + 1,by omega,by go_num,below_next hbelw b2,HB2,Lib.hid (by rw [HN.out];exact HO2.out)⟩
    case measure => simp [intOf];omega
   ·rw [hco] at HCA
    obtain ⟨a,b,hab⟩:=comp_form (T:=T) (c:=cc) hco
    rw [HFD.out] at hab
    obtain ⟨ad,hA',had,h0⟩:=HCL.out 0 a (by rw [hab];rfl)
    subst hA'
    obtain ⟨_,hA',_,h1⟩:=HCL.out 1 b (by rw [hab];rfl)
    cases hA'
    have hl2:tg.length=2:=by rw [hab];rfl
    have l0:(0:Int) < (tg.length:Int):=by omega
    have l1:(1:Int) < (tg.length:Int):=by omega
    have l0':0 < tg.length:=by omega
    have l1':1 < tg.length:=by omega
    have HN:Hid (compTo T (j + 1)=compTo T j ++ [((a,b),cc)]):=Lib.hid (by rw [compTo_yes HX.out hco,hab];rfl)
    have HL0:=Lib.hid (HNEW.out j _ a b HX.out hco hab)
    have HD:=Lib.hid (And.intro h0 (show w.cell? { block:=ad.block,off:=ad.off + 1,spot:=none }=some (.int .i64 b) from h1))
    clear hco HCL h0 h1 hab hl2
    go_wp2_with fail
    refine HCA.out.mono ?_
    rintro e w2 ⟨rfl,b2⟩
    have hbel2:=below_next hbelw b2
    have HB2:=Lib.hid (HB'.out.later b2)
    have HO2:=Lib.hid (HO'.out.later b2)
    have m0:=((Blk.new wr 61 #[.int .i64 cc,.slice (some ad) tg.length c']).later b2).at_ (i:=0) (u:=.int .i64 cc) rfl
    have m1:=((Blk.new wr 61 #[.int .i64 cc,.slice (some ad) tg.length c']).later b2).at_ (i:=1) (u:=.slice (some ad) tg.length c') rfl
    have a0:w2.cell? ad=some (.int .i64 a):=(hbel2.cell (p:=ad) had).trans HD.out.1
    have b0:=(hbel2.cell (p:={ block:=ad.block,off:=ad.off + 1,spot:=none }) had).trans HD.out.2
    have HO6:Hid (OwnsQ w2.drew (w.heap.size + 1) (compTo T j)):=Lib.hid (HO2.out.later (Below.refl _ _).drew)
    obtain ⟨w7,hup,hO7,hg7⟩:=HO6.out.update Tryz.underlying134 Tryz.underlying155 Tryz.underlying3 hi (by kernel_rfl) (by kernel_rfl) (a,b) cc HL0.out
    have hup':(Instr.mapUpdate 134 (.map (some (w.heap.size + 1))) (.agg #[.int .i64 a,.int .i64 b]) (.int .i64 cc)).run Tryz.prog w2.drew=.ok () w7:=hup
    have HB7:Hid (Blk w7 w.heap.size 26 tc):=Lib.hid ((show Blk w2.drew _ _ _ from HB2.out).grown hg7 (by intro e;injection e with e;omega))
    have hbel7:Below w.heap.size w w7:=hbel2.drew.grown hg7 hbel2.size (fun k hk => by cases hk;omega)
    have HO7:=Lib.hid hO7
    clear x0 x1 x2 x3 x4 x5 x6 x7 x8 x9 x10 x11 e0 e1 HB' hup hg7 hO7
    go_wp2_with fail
    go_region
    all_goals
     go_wp2_with fail
     go_roundw
     case rel => exact ⟨j + 1,by omega,by go_num,hbel7,HB7,Lib.hid (by rw [HN.out];exact HO7.out)⟩
     case measure => simp [intOf];omega
  ·obtain rfl:j=T.decomps.length:=by omega
   go_wp2_with fail
   go_ret
   exact ⟨w.heap.size + 1,rfl,by omega,by rw [← HALL.out];exact HO.out,hbel⟩
end Go.Proofs.YtjafpikjpipbkaaGreatDoor
namespace Go.Proofs.YtjafpikjpipbkaaGreatDoor
open Go.RowKit ND
theorem parts_no (c:Int) (w:World) (h:sylB c=false) :
  Calls Tryz.prog 198 #[.int .i64 c] w fun e w' => e=.returned (.tuple #[.int .i64 0,.int .i64 0,.int .i64 0,.bool false]) ∧ w=w':=by
 unfold sylB at h
 rw [decide_eq_false_iff_not] at h
 rcases show c < 44032 ∨ (¬ c < 44032 ∧ 55204 ≤ c) by omega with h1 | ⟨h1,h2⟩
 ·clear h
  go_enter Tryz.func198,Tryz.ntmps198
  go_wp2
  exact bodyPost_ret (v:=.tuple #[.int .i64 0,.int .i64 0,.int .i64 0,.bool false]) (by simp [results,Tryz.results198,go_sem]) rfl ⟨rfl,rfl⟩
 ·clear h
  go_enter Tryz.func198,Tryz.ntmps198
  go_wp2
  exact bodyPost_ret (v:=.tuple #[.int .i64 0,.int .i64 0,.int .i64 0,.bool false]) (by simp [results,Tryz.results198,go_sem]) rfl ⟨rfl,rfl⟩
theorem parts_yes (c:Int) (w:World) (h:sylB c=true) :
  Calls Tryz.prog 198 #[.int .i64 c] w fun e w' => e=.returned (.tuple #[.int .i64 ((c - 44032) / 28 / 21),.int .i64 ((c - 44032) / 28 % 21),.int .i64 ((c - 44032) % 28),.bool true]) ∧ w=w':=by
 rw [sylB_iff] at h
 obtain ⟨h1,h2⟩:=h
 have h3:¬ c < 44032:=by omega
 have h4:¬ 55204 ≤ c:=by omega
 have n0:0 ≤ c - 44032:=by omega
 have n1:c - 44032 ≤ 11171:=by omega
 have q0:0 ≤ (c - 44032) / 28:=by omega
 have q1:(c - 44032) / 28 ≤ 398:=by omega
 go_enter Tryz.func198,Tryz.ntmps198
 go_wp2
 exact bodyPost_ret (v:=.tuple #[.int .i64 ((c - 44032) / 28 / 21),.int .i64 ((c - 44032) / 28 % 21),.int .i64 ((c - 44032) % 28),.bool true]) (by simp [results,Tryz.results198,go_sem]) rfl ⟨rfl,rfl⟩
theorem hdec_any (c:Int) (w:World):Calls Tryz.prog 168 #[.int .i64 c] w (RetSeq w (hangD c)):=by
 cases hs:sylB c
 ·have HP:=Lib.hid (parts_no c w hs)
  rw [hangD_none hs]
  clear hs
  go_enter Tryz.func168,Tryz.ntmps168
  go_wp2_with (go_at_call 198;refine HP.out.mono ?_;rintro e w2 ⟨rfl,rfl⟩)
  go_ret
  exact ⟨_,rfl,Ints.none_,fun _ => rfl,Below.refl _ _⟩
 ·have HP:=Lib.hid (parts_yes c w hs)
  have hb:=(sylB_iff c).1 hs
  unfold hangD
  rw [if_pos hs]
  clear hs
  obtain ⟨n,hn⟩:∃ n,c - 44032=n:=⟨_,rfl⟩
  have n0:0 ≤ n:=by omega
  have n1:n ≤ 11171:=by omega
  rw [hn] at HP ⊢
  clear hn hb
  have a0:0 ≤ n / 28 / 21:=by omega
  have a1:n / 28 / 21 ≤ 18:=by omega
  have b0:0 ≤ n / 28 % 21:=by omega
  have b1:n / 28 % 21 ≤ 20:=by omega
  have c0:0 ≤ n % 28:=by omega
  have c1:n % 28 ≤ 27:=by omega
  generalize n / 28 / 21=i at *
  generalize n / 28 % 21=j at *
  generalize n % 28=k at *
  by_cases hk:k=0
  ·rw [if_pos hk]
   subst hk
   go_enter Tryz.func168,Tryz.ntmps168
   go_wp2_with (go_at_call 198;refine HP.out.mono ?_;rintro e w2 ⟨rfl,rfl⟩)
   go_ret
   exact ⟨_,rfl,by have h:=Ints.of_own (own_new w 3 [4352 + i,4449 + j] (by simp));simpa using h,(by simp),(Below.refl _ _).alloc (Nat.le_refl _) _⟩
  ·rw [if_neg hk]
   have hb:(k == 0)=false:=by simpa using hk
   clear hk
   go_enter Tryz.func168,Tryz.ntmps168
   go_wp2_with (go_at_call 198;refine HP.out.mono ?_;rintro e w2 ⟨rfl,rfl⟩)
   go_ret
   exact ⟨_,rfl,by have h:=Ints.of_own (own_new w 3 [4352 + i,4449 + j,4519 + k] (by simp));simpa using h,(by simp),(Below.refl _ _).alloc (Nat.le_refl _) _⟩
end Go.Proofs.YtjafpikjpipbkaaGreatDoor
namespace Go.Proofs.YtjafpikjpipbkaaGreatDoor
open Go.RowKit ND
def kindZ (c:Int):Int :=
 if 4352 ≤ c ∧ c ≤ 4370 then 1 else if 4449 ≤ c ∧ c ≤ 4469 then 2 else if 4520 ≤ c ∧ c ≤ 4546 then 3
 else if ¬ (44032 ≤ c ∧ c ≤ 55203) then 0 else if (c - 44032) % 28=0 then 4 else 5
theorem kind_inv (c:Int):(kindZ c=1 ↔ 4352 ≤ c ∧ c ≤ 4370) ∧ (kindZ c=2 ↔ 4449 ≤ c ∧ c ≤ 4469) ∧ (kindZ c=3 ↔ 4520 ≤ c ∧ c ≤ 4546) ∧ (kindZ c=4 ↔ 44032 ≤ c ∧ c ≤ 55203 ∧ (c - 44032) % 28=0):=by
 unfold kindZ
 refine ⟨?_,?_,?_,?_⟩ <;> (repeat' split) <;> omega
end Go.Proofs.YtjafpikjpipbkaaGreatDoor
namespace Go.Proofs.YtjafpikjpipbkaaGreatDoor
open Go.RowKit ND
theorem kind_any (c:Int) (w:World):Calls Tryz.prog 170 #[.int .i64 c] w fun e w' => e=.returned (.int .i64 (kindZ c)) ∧ w=w':=by
 rcases show (c < 4352) ∨ (4352 ≤ c ∧ c ≤ 4370) ∨ (4370 < c ∧ c < 4449) ∨ (4449 ≤ c ∧ c ≤ 4469) ∨ (4469 < c ∧ c < 4520) ∨ (4520 ≤ c ∧ c ≤ 4546) ∨ (4546 < c ∧ c < 44032) ∨ (55203 < c) ∨ (44032 ≤ c ∧ c ≤ 55203) by omega with g1 | ⟨g1,g2⟩ | ⟨g1,g2⟩ | ⟨g1,g2⟩ | ⟨g1,g2⟩ | ⟨g1,g2⟩ | ⟨g1,g2⟩ | g1 | ⟨g1,g2⟩
 ·have e:kindZ c=0:=by unfold kindZ;repeat (first | rw [if_pos (by omega)] | rw [if_neg (by omega)])
  rw [e]
  clear e
  have hs:sylB c=false:=by unfold sylB;rw [decide_eq_false_iff_not];omega
  have HP:=Lib.hid (parts_no c w hs)
  clear hs
  go_enter Tryz.func170,Tryz.ntmps170
  go_wp2_with (go_at_call 198;refine HP.out.mono ?_;rintro e w2 ⟨rfl,rfl⟩)
  go_ret
  exact ⟨rfl,rfl⟩
 ·have e:kindZ c=1:=by unfold kindZ;repeat (first | rw [if_pos (by omega)] | rw [if_neg (by omega)])
  rw [e]
  clear e
  have hs:sylB c=false:=by unfold sylB;rw [decide_eq_false_iff_not];omega
  have HP:=Lib.hid (parts_no c w hs)
  clear hs
  go_enter Tryz.func170,Tryz.ntmps170
  go_wp2_with (go_at_call 198;refine HP.out.mono ?_;rintro e w2 ⟨rfl,rfl⟩)
  go_ret
  exact ⟨rfl,rfl⟩
 ·have e:kindZ c=0:=by unfold kindZ;repeat (first | rw [if_pos (by omega)] | rw [if_neg (by omega)])
  rw [e]
  clear e
  have hs:sylB c=false:=by unfold sylB;rw [decide_eq_false_iff_not];omega
  have HP:=Lib.hid (parts_no c w hs)
  clear hs
  go_enter Tryz.func170,Tryz.ntmps170
  go_wp2_with (go_at_call 198;refine HP.out.mono ?_;rintro e w2 ⟨rfl,rfl⟩)
  go_ret
  exact ⟨rfl,rfl⟩
 ·have e:kindZ c=2:=by unfold kindZ;repeat (first | rw [if_pos (by omega)] | rw [if_neg (by omega)])
  rw [e]
  clear e
  have hs:sylB c=false:=by unfold sylB;rw [decide_eq_false_iff_not];omega
  have HP:=Lib.hid (parts_no c w hs)
  clear hs
  go_enter Tryz.func170,Tryz.ntmps170
  go_wp2_with (go_at_call 198;refine HP.out.mono ?_;rintro e w2 ⟨rfl,rfl⟩)
  go_ret
  exact ⟨rfl,rfl⟩
 ·have e:kindZ c=0:=by unfold kindZ;repeat (first | rw [if_pos (by omega)] | rw [if_neg (by omega)])
  rw [e]
  clear e
  have hs:sylB c=false:=by unfold sylB;rw [decide_eq_false_iff_not];omega
  have HP:=Lib.hid (parts_no c w hs)
  clear hs
  go_enter Tryz.func170,Tryz.ntmps170
  go_wp2_with (go_at_call 198;refine HP.out.mono ?_;rintro e w2 ⟨rfl,rfl⟩)
  go_ret
  exact ⟨rfl,rfl⟩
 ·have e:kindZ c=3:=by unfold kindZ;repeat (first | rw [if_pos (by omega)] | rw [if_neg (by omega)])
  rw [e]
  clear e
  have hs:sylB c=false:=by unfold sylB;rw [decide_eq_false_iff_not];omega
  have HP:=Lib.hid (parts_no c w hs)
  clear hs
  go_enter Tryz.func170,Tryz.ntmps170
  go_wp2_with (go_at_call 198;refine HP.out.mono ?_;rintro e w2 ⟨rfl,rfl⟩)
  go_ret
  exact ⟨rfl,rfl⟩
 ·have e:kindZ c=0:=by unfold kindZ;repeat (first | rw [if_pos (by omega)] | rw [if_neg (by omega)])
  rw [e]
  clear e
  have hs:sylB c=false:=by unfold sylB;rw [decide_eq_false_iff_not];omega
  have HP:=Lib.hid (parts_no c w hs)
  clear hs
  go_enter Tryz.func170,Tryz.ntmps170
  go_wp2_with (go_at_call 198;refine HP.out.mono ?_;rintro e w2 ⟨rfl,rfl⟩)
  go_ret
  exact ⟨rfl,rfl⟩
 ·have e:kindZ c=0:=by unfold kindZ;repeat (first | rw [if_pos (by omega)] | rw [if_neg (by omega)])
  rw [e]
  clear e
  have hs:sylB c=false:=by unfold sylB;rw [decide_eq_false_iff_not];omega
  have HP:=Lib.hid (parts_no c w hs)
  clear hs
  go_enter Tryz.func170,Tryz.ntmps170
  go_wp2_with (go_at_call 198;refine HP.out.mono ?_;rintro e w2 ⟨rfl,rfl⟩)
  go_ret
  exact ⟨rfl,rfl⟩
 ·have hs:sylB c=true:=by rw [sylB_iff];omega
  have HP:=Lib.hid (parts_yes c w hs)
  clear hs
  obtain ⟨n,hn⟩:∃ n,n=(c - 44032) % 28:=⟨_,rfl⟩
  rw [← hn] at HP
  by_cases hz:n=0
  ·have e:kindZ c=4:=by unfold kindZ;repeat (first | rw [if_pos (by omega)] | rw [if_neg (by omega)])
   rw [e]
   clear e
   have z1:(n == 0)=true:=by simpa using hz
   clear hn hz
   go_enter Tryz.func170,Tryz.ntmps170
   go_wp2_with (go_at_call 198;refine HP.out.mono ?_;rintro e w2 ⟨rfl,rfl⟩)
   go_ret
   exact ⟨rfl,rfl⟩
  ·have e:kindZ c=5:=by unfold kindZ;repeat (first | rw [if_pos (by omega)] | rw [if_neg (by omega)])
   rw [e]
   clear e
   have z1:(n == 0)=false:=by simpa using hz
   clear hn hz
   go_enter Tryz.func170,Tryz.ntmps170
   go_wp2_with (go_at_call 198;refine HP.out.mono ?_;rintro e w2 ⟨rfl,rfl⟩)
   go_ret
   exact ⟨rfl,rfl⟩
end Go.Proofs.YtjafpikjpipbkaaGreatDoor
