/-
  Merged texts: lemmas and walks that the last text of this claim leans on.
-/
import Derived.Test.YtjafpikjpipbkaaGreatDoorMgTS1
import Derived.Test.YtjafpikjpipbkaaGreatDoorRows
import Derived.LaidMore
import Derived.OpenShut
import Derived.Deep.DeepHandedRow
import Derived.ProofKit
set_option maxRecDepth 100000
set_option maxHeartbeats 40000000
namespace ND
open Go
def expF (D:List Mp):Nat → Int → List Int
 | 0,c => [c]
 | f + 1,c => if findL D c=[] then [c] else (findL D c).flatMap (expF D f)
def sizeF (D:List Mp):Nat → Int → Nat
 | 0,c => if findL D c=[] then 1 else 19
 | f + 1,c => if findL D c=[] then 1 else min 19 ((findL D c).map (sizeF D f)).sum
def doneB (D:List Mp) (l:List Int):Bool:=l.all (fun x => decide (findL D x=[]))
def fin (D:List Mp) (f:Nat) (c:Int):Bool:=doneB D (expF D f c)
theorem expF_none {D:List Mp} {c:Int} (h:findL D c=[]) (f:Nat):expF D f c=[c]:=by
 cases f with
 | zero => rfl
 | succ f => rw [expF,if_pos h]
theorem expF_some {D:List Mp} {c:Int} (h:findL D c ≠ []) (f:Nat):expF D (f + 1) c=(findL D c).flatMap (expF D f):=by rw [expF,if_neg h]
theorem doneB_append (D:List Mp) (a b:List Int):doneB D (a ++ b)=(doneB D a && doneB D b):=by unfold doneB;rw [List.all_append]
theorem doneB_flatMap (D:List Mp) (g:Int → List Int) (l:List Int):doneB D (l.flatMap g)=l.all (fun x => doneB D (g x)):=by
 induction l with
 | nil => rfl
 | cons a r ih => rw [List.flatMap_cons,doneB_append,ih,List.all_cons]
theorem doneB_one (D:List Mp) (c:Int):doneB D [c]=decide (findL D c=[]):=by unfold doneB;simp
theorem fin_none {D:List Mp} {c:Int} (h:findL D c=[]) (f:Nat):fin D f c=true:=by
 unfold fin;rw [expF_none h,doneB_one,decide_eq_true h]
theorem fin_zero {D:List Mp} {c:Int}:fin D 0 c=decide (findL D c=[]):=by unfold fin expF;rw [doneB_one]
theorem fin_succ {D:List Mp} {c:Int} (h:findL D c ≠ []) (f:Nat):fin D (f + 1) c=(findL D c).all (fin D f):=by
 show doneB D (expF D (f + 1) c)=_
 rw [expF_some h,doneB_flatMap];rfl
theorem length_pos_ne {α:Type} {l:List α} (h:l ≠ []):0 < l.length:=List.length_pos_iff.2 h
theorem flatMap_same {g g':Int → List Int} {l:List Int} (h:∀ x ∈ l,g x=g' x):l.flatMap g=l.flatMap g':=by
 induction l with
 | nil => rfl
 | cons a r ih => rw [List.flatMap_cons,List.flatMap_cons,h a List.mem_cons_self,ih fun x hx => h x (List.mem_cons_of_mem _ hx)]
theorem expF_ne (D:List Mp):∀ (f:Nat) (c:Int),expF D f c ≠ []:=by
 intro f
 induction f with
 | zero => intro c h;cases h
 | succ f ih =>
   intro c
   by_cases h:findL D c=[]
   ·rw [expF_none h];intro h;cases h
   ·rw [expF_some h]
    cases hl:findL D c with
    | nil => exact absurd hl h
    | cons a r => rw [List.flatMap_cons];intro he;exact ih a (List.append_eq_nil_iff.1 he).1
theorem fin_more {D:List Mp}:∀ (f:Nat) (c:Int),fin D f c=true → expF D (f + 1) c=expF D f c:=by
 intro f
 induction f with
 | zero =>
   intro c h
   rw [fin_zero,decide_eq_true_eq] at h
   rw [expF_none h,expF_none h]
 | succ f ih =>
   intro c h
   by_cases hc:findL D c=[]
   ·rw [expF_none hc,expF_none hc]
   ·rw [expF_some hc,expF_some hc]
    rw [fin_succ hc] at h
    exact flatMap_same (fun x hx => ih x (List.all_eq_true.1 h x hx))
theorem fin_up {D:List Mp} {f:Nat} {c:Int} (h:fin D f c=true):∀ g,f ≤ g → fin D g c=true ∧ expF D g c=expF D f c:=by
 intro g hg
 induction g with
 | zero => obtain rfl:f=0:=by omega
           exact ⟨h,rfl⟩
 | succ g ih =>
   rcases Nat.lt_or_ge g f with hlt | hge
   ·obtain rfl:f=g + 1:=by omega
    exact ⟨h,rfl⟩
   ·obtain ⟨h1,h2⟩:=ih hge
    have h3:=fin_more g c h1
    refine ⟨?_,h3.trans h2⟩
    unfold fin at h1 ⊢
    rw [h3];exact h1
theorem sum_sizes (D:List Mp) (f:Nat) (hs:∀ c,sizeF D f c=if fin D f c=true then min 19 (expF D f c).length else 19) (l:List Int) :
  min 19 ((l.map (sizeF D f)).sum)=if l.all (fin D f)=true then min 19 (l.flatMap (expF D f)).length else if l=[] then 0 else 19:=by
 induction l with
 | nil => simp
 | cons a r ih =>
   rw [List.map_cons,List.sum_cons,List.all_cons,List.flatMap_cons,List.length_append,hs a]
   cases ha:fin D f a
   ·simp
   ·simp only [if_true,Bool.true_and]
    cases hr:r.all (fin D f)
    ·rw [hr] at ih
     simp only [Bool.false_eq_true,if_false] at ih ⊢
     by_cases hn:r=[]
     ·subst hn;simp at hr
     ·rw [if_neg hn] at ih;simp;omega
    ·rw [hr,if_pos rfl] at ih
     simp only [if_true]
     omega
theorem sizeF_eq (D:List Mp):∀ (f:Nat) (c:Int),sizeF D f c=if fin D f c=true then min 19 (expF D f c).length else 19:=by
 intro f
 induction f with
 | zero =>
   intro c
   rw [sizeF,fin_zero]
   by_cases h:findL D c=[]
   ·rw [if_pos h,if_pos (by simpa using h)];rfl
   ·rw [if_neg h,if_neg (by simpa using h)]
 | succ f ih =>
   intro c
   by_cases h:findL D c=[]
   ·rw [sizeF,if_pos h,fin_none h,if_pos rfl,expF_none h];rfl
   ·rw [sizeF,if_neg h,fin_succ h,expF_some h,sum_sizes D f ih]
    cases hA:(findL D c).all (fin D f)
    ·simp [h]
    ·simp
theorem sizeF_le {D:List Mp} {f:Nat} {c:Int}:sizeF D f c ≤ 18 ↔ fin D f c=true ∧ (expF D f c).length ≤ 18:=by
 rw [sizeF_eq]
 cases h:fin D f c
 ·simp
 ·simp;omega
def cntF (D:List Mp) (f:Nat):Nat:=D.countP (fun m => fin D f m.1)
theorem countP_strict {α:Type} {p q:α → Bool} {l:List α} (h:∀ x ∈ l,p x=true → q x=true) (he:∃ x ∈ l,q x=true ∧ p x=false):l.countP p + 1 ≤ l.countP q:=by
 induction l with
 | nil => obtain ⟨x,hx,_⟩:=he;cases hx
 | cons a r ih =>
   rw [List.countP_cons,List.countP_cons]
   have hr:∀ x ∈ r,p x=true → q x=true:=fun x hx => h x (List.mem_cons_of_mem _ hx)
   obtain ⟨x,hx,h1,h2⟩:=he
   rcases List.mem_cons.1 hx with rfl | hx
   ·rw [h1,h2]
    have:=List.countP_mono_left hr
    simp;omega
   ·have:=ih hr ⟨x,hx,h1,h2⟩
    cases hp:p a
    ·simp;split <;> omega
    ·rw [h a List.mem_cons_self hp];simp;omega
def stableAt (D:List Mp) (f:Nat):Prop:=∀ c,fin D (f + 1) c=true → fin D f c=true
theorem stable_up {D:List Mp} {f:Nat} (h:stableAt D f):∀ g,f ≤ g → stableAt D g:=by
 intro g hg
 induction g with
 | zero => obtain rfl:f=0:=by omega
           exact h
 | succ g ih =>
   rcases Nat.lt_or_ge g f with hlt | hge
   ·obtain rfl:f=g + 1:=by omega
    exact h
   ·have h1:=ih hge
    intro c hc
    by_cases hn:findL D c=[]
    ·exact fin_none hn _
    ·rw [fin_succ hn] at hc ⊢
     rw [List.all_eq_true] at hc ⊢
     exact fun x hx => h1 x (hc x hx)
theorem stable_fin {D:List Mp} {f:Nat} (h:stableAt D f) {c:Int}:∀ g,fin D g c=true → fin D f c=true:=by
 intro g
 induction g with
 | zero => intro hc;exact (fin_up hc f (Nat.zero_le _)).1
 | succ g ih =>
   intro hc
   rcases Nat.lt_or_ge g f with hlt | hge
   ·exact (fin_up hc f hlt).1
   ·exact ih (stable_up h g hge c hc)
theorem fin_key {D:List Mp} {c:Int} (h:findL D c ≠ []):∃ m ∈ D,m.1=c:=⟨_,findL_mem h,rfl⟩
theorem stable_or (D:List Mp):∀ f,(∃ g,g < f ∧ stableAt D g) ∨ f ≤ cntF D f:=by
 intro f
 induction f with
 | zero => exact .inr (Nat.zero_le _)
 | succ f ih =>
   rcases ih with ⟨g,hg,hs⟩ | ih
   ·exact .inl ⟨g,by omega,hs⟩
   ·by_cases hs:stableAt D f
    ·exact .inl ⟨f,by omega,hs⟩
    ·right
     have:∃ c,fin D (f + 1) c=true ∧ fin D f c=false:=by
      by_cases he:∃ c,fin D (f + 1) c=true ∧ fin D f c=false
      ·exact he
      ·refine absurd (fun c hc => ?_) hs
       cases hx:fin D f c
       ·exact absurd ⟨c,hc,hx⟩ he
       ·rfl
     obtain ⟨c,h1,h2⟩:=this
     have hk:findL D c ≠ []:=fun h => by rw [fin_none h] at h2;cases h2
     obtain ⟨m,hm,rfl⟩:=fin_key hk
     have:=countP_strict (p:=fun m:Mp => fin D f m.1) (q:=fun m:Mp => fin D (f + 1) m.1) (l:=D) (fun x _ hx => (fin_up hx (f + 1) (by omega)).1) ⟨m,hm,h1,h2⟩
     unfold cntF at ih ⊢
     omega
theorem fin_len {D:List Mp} {g:Nat} {c:Int} (h:fin D g c=true):fin D D.length c=true:=by
 rcases stable_or D D.length with ⟨f,hf,hs⟩ | hc
 ·exact (fin_up (stable_fin hs g h) D.length (by omega)).1
 ·by_cases hn:findL D c=[]
  ·exact fin_none hn _
  ·obtain ⟨m,hm,rfl⟩:=fin_key hn
   have he:D.countP (fun m => fin D D.length m.1)=D.length:=Nat.le_antisymm List.countP_le_length hc
   exact List.countP_eq_length.1 he m hm
def exp1 (D:List Mp) (l:List Int):List Int:=l.flatMap (fun x => if findL D x=[] then [x] else findL D x)
def fullF (D:List Mp):Nat → List Int → Option (List Int)
 | 0,_ => none
 | n + 1,l => if doneB D l=true then some l else if 18 < (exp1 D l).length then none else fullF D n (exp1 D l)
theorem flatMap_exp1 (D:List Mp) (k:Nat) (l:List Int):(exp1 D l).flatMap (expF D k)=l.flatMap (expF D (k + 1)):=by
 unfold exp1
 induction l with
 | nil => rfl
 | cons a r ih =>
   rw [List.flatMap_cons,List.flatMap_append,ih,List.flatMap_cons]
   congr 1
   by_cases h:findL D a=[]
   ·rw [if_pos h,expF_none h];simp [expF_none h]
   ·rw [if_neg h,expF_some h]
theorem flatMap_zero (D:List Mp) (l:List Int):l.flatMap (expF D 0)=l:=by
 induction l with
 | nil => rfl
 | cons a r ih => rw [List.flatMap_cons,ih];rfl
theorem flatMap_done {D:List Mp} {l:List Int} (h:doneB D l=true) (k:Nat):l.flatMap (expF D k)=l:=by
 induction l with
 | nil => rfl
 | cons a r ih =>
   unfold doneB at h ih
   rw [List.all_cons,Bool.and_eq_true,decide_eq_true_eq] at h
   rw [List.flatMap_cons,ih h.2,expF_none h.1];rfl
theorem flatMap_len (D:List Mp) (k:Nat) (l:List Int):l.length ≤ (l.flatMap (expF D k)).length:=by
 induction l with
 | nil => simp
 | cons a r ih =>
   have:=length_pos_ne (expF_ne D k a)
   rw [List.flatMap_cons,List.length_append,List.length_cons];omega
theorem fullF_of (D:List Mp):∀ (n k:Nat) (l:List Int),k < n → doneB D (l.flatMap (expF D k))=true → (l.flatMap (expF D k)).length ≤ 18 → fullF D n l=some (l.flatMap (expF D k)):=by
 intro n
 induction n with
 | zero => intro k l h;omega
 | succ n ih =>
   intro k l hk hd hl
   rw [fullF]
   by_cases h:doneB D l=true
   ·rw [if_pos h,flatMap_done h]
   ·rw [if_neg h]
    cases k with
    | zero => rw [flatMap_zero] at hd;exact absurd hd h
    | succ k =>
      rw [← flatMap_exp1] at hd hl ⊢
      have:=flatMap_len D k (exp1 D l)
      rw [if_neg (by omega)]
      exact ih k _ (by omega) hd hl
theorem fullF_some (D:List Mp):∀ (n:Nat) (l r:List Int),fullF D n l=some r → ∃ k,k < n ∧ r=l.flatMap (expF D k) ∧ doneB D r=true ∧ (l.length ≤ 18 → r.length ≤ 18):=by
 intro n
 induction n with
 | zero => intro l r h;cases h
 | succ n ih =>
   intro l r h
   rw [fullF] at h
   by_cases hd:doneB D l=true
   ·rw [if_pos hd] at h;cases h
    exact ⟨0,by omega,(flatMap_zero D l).symm,hd,id⟩
   ·rw [if_neg hd] at h
    by_cases hb:18 < (exp1 D l).length
    ·rw [if_pos hb] at h;cases h
    ·rw [if_neg hb] at h
     obtain ⟨k,hk,he,h1,h2⟩:=ih _ _ h
     exact ⟨k + 1,by omega,by rw [← flatMap_exp1];exact he,h1,fun _ => h2 (by omega)⟩
theorem full_size {D:List Mp} (hD:D.length ≤ 256) (c:Int) :
  (sizeF D (D.length + 1) c ≤ 18 ∧ fullF D 257 [c]=some (expF D D.length c) ∧ fin D D.length c=true ∧ (expF D D.length c).length ≤ 18) ∨ (¬ sizeF D (D.length + 1) c ≤ 18 ∧ fullF D 257 [c]=none):=by
 have h1:∀ k,[c].flatMap (expF D k)=expF D k c:=fun k => by simp
 by_cases h:sizeF D (D.length + 1) c ≤ 18
 ·refine .inl ⟨h,?_⟩
  obtain ⟨hf,hl⟩:=sizeF_le.1 h
  have hf':=fin_len hf
  obtain ⟨_,he⟩:=fin_up hf' (D.length + 1) (by omega)
  rw [he] at hl
  refine ⟨?_,hf',hl⟩
  have:=fullF_of D 257 D.length [c] (by omega) (by rw [h1];exact hf') (by rw [h1];exact hl)
  rw [this,h1]
 ·refine .inr ⟨h,?_⟩
  cases hr:fullF D 257 [c] with
  | none => rfl
  | some r =>
    obtain ⟨k,hk,he,hd,hl⟩:=fullF_some D 257 [c] r hr
    rw [h1] at he
    subst he
    have hf:=fin_len (g:=k) (c:=c) hd
    obtain ⟨hf1,he1⟩:=fin_up hf (D.length + 1) (by omega)
    refine absurd (sizeF_le.2 ⟨hf1,?_⟩) h
    have hk2:=hl (by simp)
    rcases Nat.le_total k (D.length + 1) with hle | hle
    ·rw [(fin_up (f:=k) hd (D.length + 1) hle).2];exact hk2
    ·rw [← (fin_up hf1 k hle).2];exact hk2
end ND
namespace ND
open Go
def blocksL:List Sp:=[(0,127,0),(4352,4370,0),(4449,4469,0),(4520,4546,0),(44032,55203,0),(55296,57343,0)]
def apartB (f t lo hi:Int):Bool:=!decide (f ≤ hi ∧ lo ≤ t)
def outB (f t:Int):Bool:=blocksL.all (fun b => apartB f t b.1 b.2.1)
theorem apart_ways (f t lo hi:Int):(apartB f t lo hi=true ∧ decide (f ≤ hi)=false) ∨ (apartB f t lo hi=true ∧ decide (f ≤ hi)=true ∧ decide (lo ≤ t)=false) ∨ (apartB f t lo hi=false ∧ decide (f ≤ hi)=true ∧ decide (lo ≤ t)=true):=by
 unfold apartB
 simp only [Bool.not_eq_true',Bool.not_eq_false',decide_eq_true_eq,decide_eq_false_iff_not]
 omega
theorem outB_res {f t c:Int} (h:outB f t=true) (h1:f ≤ c) (h2:c ≤ t):resB c=false:=by
 unfold outB blocksL apartB at h
 simp only [List.all_cons,List.all_nil,Bool.and_eq_true,Bool.not_eq_true',decide_eq_false_iff_not] at h
 rw [resB_not]
 obtain ⟨a1,a2,a3,a4,a5,a6,_⟩:=h
 omega
theorem outB_one {c:Int} (h:resB c=false):outB c c=true:=by
 rw [resB_not] at h
 unfold outB blocksL apartB
 simp only [List.all_cons,List.all_nil,Bool.and_eq_true,Bool.not_eq_true',decide_eq_false_iff_not,Bool.and_true]
 refine ⟨?_,?_,?_,?_,?_,?_⟩ <;> omega
def keyOk (p:Bool) (last c:Int):Bool:=decide (last < c ∧ c ≤ 1114111) && (!resB c || (p && nameB c))
def keysB (p:Bool):Int → List Int → Bool
 | _,[] => true
 | last,c :: r => keyOk p last c && keysB p c r
def scrG:Int → List Int → Bool
 | _,[] => true
 | last,s :: r => decide (3 ≤ s ∧ s ≤ 60 ∧ last < s) && scrG s r
def toB (x:Bool) (m:Mp):Bool:=decide (1 ≤ m.2.length ∧ m.2.length ≤ 18) && (if x then scrG 2 m.2 else m.2.all scalarB)
def mapCount:List Sp → Int
 | [] => 0
 | s :: r => (if s.2.2=3 then s.2.1 - s.1 + 1 else 0) + mapCount r
def okStat (s:Int):Bool:=decide (s=1 ∨ s=4)
def Tab.cols (T:Tab):List (List Sp × Int × Int):=[(T.category,0,8),(T.cls,1,254),(T.joining,0,5),(T.bidi,0,11),(T.script,0,60),(T.status,0,4),(T.ignorable,1,1)]
def Tab.mps (T:Tab):List (List Mp):=[T.extensions,T.maps,T.decomps,T.prototypes]
def keysOf (l:List Mp):List Int:=l.map (·.1)
def colOk (l:List Sp):Bool:=checkS l 0 1114111 && l.all (fun s => outB s.1 s.2.1)
def valsOk (c:List Sp × Int × Int):Bool:=c.1.all (fun s => decide (c.2.1 ≤ s.2.2 ∧ s.2.2 ≤ c.2.2))
def Tab.rule1 (T:Tab):Bool:=decide (T.excluded.length ≤ 256) && (T.cols.all (fun c => decide (c.1.length ≤ 256)) && T.mps.all (fun m => decide (m.length ≤ 256)))
def Tab.rule2m (T:Tab):Bool:=keysB false (-1) (keysOf T.extensions) && (keysB false (-1) (keysOf T.maps) && (keysB false (-1) (keysOf T.decomps) && keysB true (-1) (keysOf T.prototypes)))
def Tab.rule2 (T:Tab):Bool:=T.cols.all (fun c => colOk c.1) && (T.rule2m && keysB false (-1) T.excluded)
def Tab.rule3 (T:Tab):Bool:=T.cols.all valsOk
def Tab.rule4 (T:Tab):Bool:=T.extensions.all (toB true) && (T.maps.all (toB false) && (T.decomps.all (toB false) && T.prototypes.all (toB false)))
def Tab.mapOk (T:Tab) (m:Mp):Bool:=decide (T.statusOf m.1=3) && m.2.all (fun c => okStat (T.statusOf c))
def Tab.rule5 (T:Tab):Bool:=decide (mapCount T.status=(T.maps.length:Int)) && T.maps.all T.mapOk
def decEl (c:Int):Bool:=!(decide (c=46) || sylB c || jamoB c)
def decOk (m:Mp):Bool:=decide (m.2.length ≤ 2) && m.2.all decEl
def Tab.szOk (T:Tab) (m:Mp):Bool:=decide (sizeF T.decomps (T.decomps.length + 1) m.1 ≤ 18)
def Tab.rule6 (T:Tab):Bool:=T.decomps.all decOk && T.decomps.all T.szOk
def Tab.exOk (T:Tab) (c:Int):Bool:=decide (findL T.decomps c ≠ [])
def Tab.rule7 (T:Tab):Bool:=T.excluded.all T.exOk
def lastF (D:List Mp) (f:Nat) (c:Int):Int:=(expF D f c).getLastD 0
def Tab.compF (T:Tab):Nat → Int → Bool
 | 0,_ => false
 | f + 1,c => match findL T.decomps c with
   | [a,b] => !T.excB c && (decide (T.classOf c=0) && (decide (T.classOf a=0) && (decide (findL T.decomps b=[]) &&
     ((decide (findL T.decomps a=[]) || T.compF f a) && (decide (T.classOf b=0) || decide (T.classOf (lastF T.decomps f a) ≤ T.classOf b))))))
   | _ => false
def Tab.comp (T:Tab) (c:Int):Bool:=T.compF T.decomps.length c
def Tab.pairs (T:Tab):List (List Int):=(T.decomps.filter (fun m => T.comp m.1)).map (·.2)
def Tab.rule8 (T:Tab):Bool:=decide T.pairs.Nodup
def Tab.plainB (T:Tab) (c:Int):Bool:=decide (findL T.decomps c=[]) && !T.ignB c
def Tab.protoEl (T:Tab) (c:Int):Bool:=T.plainB c && (!sylB c && decide (findL T.prototypes c=[]))
def Tab.protoOk (T:Tab) (m:Mp):Bool:=T.plainB m.1 && m.2.all T.protoEl
def Tab.rule9 (T:Tab):Bool:=T.prototypes.all T.protoOk
def Tab.check (T:Tab):Int :=
 if T.rule1=false then 1 else if T.rule2=false then 2 else if T.rule3=false then 3 else if T.rule4=false then 4 else if T.rule5=false then 5
 else if T.rule6=false then 6 else if T.rule7=false then 7 else if T.rule8=false then 8 else if T.rule9=false then 9 else 0
theorem keysB_at {p:Bool} {l:List Int}:∀ {last:Int},keysB p last l=true → ∀ c ∈ l,last < c ∧ c ≤ 1114111 ∧ (resB c=false ∨ p=true ∧ nameB c=true):=by
 induction l with
 | nil => intro last _ c h;cases h
 | cons a r ih =>
   intro last h c hc
   rw [keysB,Bool.and_eq_true] at h
   obtain ⟨h1,h2⟩:=h
   unfold keyOk at h1
   simp only [Bool.and_eq_true,decide_eq_true_eq,Bool.or_eq_true,Bool.not_eq_true'] at h1
   rcases List.mem_cons.1 hc with rfl | hc
   ·exact ⟨h1.1.1,h1.1.2,h1.2⟩
   ·have:=ih h2 c hc
    exact ⟨by omega,this.2⟩
theorem keysB_sort {p:Bool} {l:List Mp}:∀ {last:Int},keysB p last (keysOf l)=true → sortM l:=by
 induction l with
 | nil => intro last _ i j a b _ h;simp at h
 | cons m r ih =>
   intro last h i j a b hij ha hb
   unfold keysOf at h
   rw [List.map_cons,keysB,Bool.and_eq_true] at h
   obtain ⟨h1,h2⟩:=h
   cases j with
   | zero => omega
   | succ j =>
     have hb':r[j]?=some b:=by simpa using hb
     cases i with
     | zero =>
       simp at ha;subst ha
       exact (keysB_at h2 b.1 (List.mem_map_of_mem (List.mem_of_getElem? hb'))).1
     | succ i => exact ih h2 i j a b (by omega) (by simpa using ha) hb'
structure Shape (T:Tab):Prop where
 len:∀ c ∈ T.cols,c.1.length ≤ 256
 lenM:∀ m ∈ T.mps,m.length ≤ 256
 lenX:T.excluded.length ≤ 256
 col:∀ c ∈ T.cols,colOk c.1=true
 kx:keysB false (-1) (keysOf T.extensions)=true
 km:keysB false (-1) (keysOf T.maps)=true
 kd:keysB false (-1) (keysOf T.decomps)=true
 kp:keysB true (-1) (keysOf T.prototypes)=true
 ke:keysB false (-1) T.excluded=true
theorem Shape.of {T:Tab} (h1:T.rule1=true) (h2:T.rule2=true):Shape T:=by
 unfold Tab.rule1 at h1
 unfold Tab.rule2 Tab.rule2m at h2
 simp only [Bool.and_eq_true,decide_eq_true_eq,List.all_eq_true] at h1 h2
 exact ⟨h1.2.1,h1.2.2,h1.1,h2.1,h2.2.1.1,h2.2.1.2.1,h2.2.1.2.2.1,h2.2.1.2.2.2,h2.2.2⟩
def GoodS (l:List Sp):Prop:=okS 0 1114111 (-1) l=true ∧ l.length ≤ 256 ∧ ∀ s ∈ l,outB s.1 s.2.1=true
section
variable {T:Tab}
theorem Shape.ok (h:Shape T) {l:List Sp} {a b:Int} (hm:(l,a,b) ∈ T.cols):GoodS l:=by
 have h1:=h.col _ hm
 unfold colOk checkS at h1
 simp only [Bool.and_eq_true,decide_eq_true_eq,List.all_eq_true] at h1
 exact ⟨h1.1.1,h1.1.2,h1.2⟩
theorem Shape.c0 (h:Shape T):GoodS T.category:=h.ok (l:=T.category) (a:=0) (b:=8) (by simp [Tab.cols])
theorem Shape.c1 (h:Shape T):GoodS T.cls:=h.ok (l:=T.cls) (a:=1) (b:=254) (by simp [Tab.cols])
theorem Shape.c2 (h:Shape T):GoodS T.joining:=h.ok (l:=T.joining) (a:=0) (b:=5) (by simp [Tab.cols])
theorem Shape.c3 (h:Shape T):GoodS T.bidi:=h.ok (l:=T.bidi) (a:=0) (b:=11) (by simp [Tab.cols])
theorem Shape.c4 (h:Shape T):GoodS T.script:=h.ok (l:=T.script) (a:=0) (b:=60) (by simp [Tab.cols])
theorem Shape.c5 (h:Shape T):GoodS T.status:=h.ok (l:=T.status) (a:=0) (b:=4) (by simp [Tab.cols])
theorem Shape.c6 (h:Shape T):GoodS T.ignorable:=h.ok (l:=T.ignorable) (a:=1) (b:=1) (by simp [Tab.cols])
theorem Shape.lm (h:Shape T):T.maps.length ≤ 256:=h.lenM _ (by simp [Tab.mps])
theorem Shape.ld (h:Shape T):T.decomps.length ≤ 256:=h.lenM _ (by simp [Tab.mps])
theorem Shape.lp (h:Shape T):T.prototypes.length ≤ 256:=h.lenM _ (by simp [Tab.mps])
end
theorem toB_iff {x:Bool} {m:Mp}:toB x m=true ↔ 1 ≤ m.2.length ∧ m.2.length ≤ 18 ∧ (if x then scrG 2 m.2 else m.2.all scalarB)=true:=by
 unfold toB
 simp only [Bool.and_eq_true,decide_eq_true_eq,and_assoc]
theorem toB_ne {x:Bool} {l:List Mp} (h:l.all (toB x)=true):∀ m ∈ l,m.2 ≠ [] ∧ m.2.length ≤ 1000:=by
 intro m hm
 have:=toB_iff.1 (List.all_eq_true.1 h m hm)
 exact ⟨fun e => by rw [e] at this;simp at this,by omega⟩
structure Sized (T:Tab):Prop where
 nx:∀ m ∈ T.extensions,m.2 ≠ [] ∧ m.2.length ≤ 1000
 nm:∀ m ∈ T.maps,m.2 ≠ [] ∧ m.2.length ≤ 1000
 nd:∀ m ∈ T.decomps,m.2 ≠ [] ∧ m.2.length ≤ 1000
 np:∀ m ∈ T.prototypes,m.2 ≠ [] ∧ m.2.length ≤ 1000
theorem Sized.of {T:Tab} (h:T.rule4=true):Sized T:=by
 unfold Tab.rule4 at h
 simp only [Bool.and_eq_true] at h
 exact ⟨toB_ne h.1,toB_ne h.2.1,toB_ne h.2.2.1,toB_ne h.2.2.2⟩
theorem value_out {l:List Sp} {c:Int} (h:∀ s ∈ l,¬(s.1 ≤ c ∧ c ≤ s.2.1)):valueL l c=0 :=
 valueL_no fun _ _ hi => h _ (List.mem_of_getElem? hi)
theorem value_res {l:List Sp} {c:Int} (h:∀ s ∈ l,outB s.1 s.2.1=true) (hr:resB c=true):valueL l c=0 :=
 value_out fun s hs ⟨h1,h2⟩ => by rw [outB_res (h s hs) h1 h2] at hr;cases hr
theorem value_range {l:List Sp} {c:Int} (h:okS 0 1114111 (-1) l=true) (hc:c < 0 ∨ 1114111 < c):valueL l c=0 :=
 valueL_no fun _ _ hi => by have:=okS_el h hi;omega
theorem lenC_zero {c:Int}:lenC c=0 ↔ scalarB c=false:=by
 unfold lenC
 cases h:scalarB c
 ·simp
 ·simp only [if_true]
  constructor
  ·intro h
   split at h
   ·cases h
   ·split at h
    ·cases h
    ·split at h <;> cases h
  ·intro h;cases h
theorem propL_ref {l:List Sp} {own c:Int} (h1:okS 0 1114111 (-1) l=true) (h2:∀ s ∈ l,outB s.1 s.2.1=true) :
  propL l own c=if resB c=true ∧ surB c=false then own else valueL l c:=by
 unfold propL
 by_cases hs:scalarB c=true
 ·have h0:lenC c ≠ 0:=fun e => by rw [lenC_zero,hs] at e;cases e
  have hu:surB c=false:=by
   rw [scalarB_iff] at hs
   unfold surB
   rw [decide_eq_false_iff_not];omega
  rw [if_neg h0]
  by_cases hr:resB c=true
  ·rw [if_pos hr,if_pos ⟨hr,hu⟩]
  ·rw [if_neg hr,if_neg (fun h => hr h.1)]
 ·have hs':scalarB c=false:=by simpa using hs
  rw [if_pos (lenC_zero.2 hs')]
  rw [scalarB_not] at hs'
  rw [if_neg]
  ·rcases hs' with h | h | h
   ·exact (value_range h1 (.inl h)).symm
   ·exact (value_range h1 (.inr h)).symm
   ·exact (value_res h2 ((resB_iff c).2 (by omega))).symm
  ·rintro ⟨h3,h4⟩
   rw [resB_iff] at h3
   unfold surB at h4
   rw [decide_eq_false_iff_not] at h4
   omega
end ND
namespace Go.Proofs.YtjafpikjpipbkaaGreatDoor
open Go.ChangeShapes Go.WideShapes Go.ChangeAt Go.Deep Go.RowKit ND
def Glob (w:World):Prop:=∃ v,w.cell? ⟨0,0,none⟩=some v ∧ Spans w w.heap.size v blocksL
theorem Glob.later {w w':World} (h:Glob w) (hb:Below w.heap.size w w'):Glob w':=by
 obtain ⟨v,hc,hs⟩:=h
 exact ⟨v,(hb.cell (World.block_lt_of_cell? _ _ hc)).trans hc,hs.later hb⟩
theorem gBlocks : Tryz.prog.globalNamed "namedesk/table.blocks" = some 0 := by kernel_rfl
theorem tBlocks:(Tryz.prog.globals[0]?).map (·.type)=some 23:=by kernel_rfl
theorem door_met (os : Os) (args : Array Value) : laidMetH Tryz.prog [("namedesk/table.blocks", Rows.laid_namedesk_table_blocks)] ((World.doorLaid Tryz.prog 400 os).forCall (fun _ _ => 0) ⟨#[], args, []⟩).memory :=
 laidMetH_of_parts3 (fuel:=8) (laidMet_of_run' 8 (by kernel_rfl) (by kernel_rfl)) (by kernel_rfl) (by kernel_rfl)
section
variable {H:Type} {enc:TypeId × Value → H} {P:Program} {W:World}
theorem spans_trod {t e ti:TypeId} {f0 f1 f2:Field} {v:Value} {y:DataW H × List MemPlace} {n:Nat} (ht:P.underlying t=some (.slice e)) (he:P.underlying e=some (.struct #[f0,f1,f2]))
  (hone:oneCellFields P #[f0,f1,f2]=true) (hC:P.cellsOf e=3) (t0:f0.type=ti) (t1:f1.type=ti) (t2:f2.type=ti) (hti:P.underlying ti=some (.int .i64)) {held:Bool}
  (h:DataW.trod enc P W 0 (fun _ => true) held n t [v]=some y) (hlt:∀ b off,MemPlace.cell b off ∈ y.2 → b < W.heap.size) :
  ∃ xs,Spans W W.heap.size v xs ∧ (∀ es sp,y.1=.slice es sp → es=xs.map (fun x => .agg [.lit (.int .i64 x.1),.lit (.int .i64 x.2.1),.lit (.int .i64 x.2.2)])) ∧ (v=.slice none 0 0 → y.1=.nil):=by
 rcases open_slice_fields ht he hone hC h with ⟨hcs,hx⟩ | ⟨a,len,cap,m,D,Pl,hcs,_,hl,hm,hmm,hx,hi⟩
 ·obtain rfl:v=.slice none 0 0:=by simpa using hcs
  subst hx
  exact ⟨[],Spans.none_,(fun es sp h => by cases h),fun _ => rfl⟩
 ·obtain rfl:v=.slice (some a) len cap:=by simpa using hcs
  have hmc:m=cap:=by simpa using hmm
  subst hmc
  subst hx
  have key:∀ i:Nat,∃ x:Int × Int × Int,i < m → W.cell? (a.add (i * 3))=some (.int .i64 x.1) ∧ W.cell? (a.add (i * 3 + 1))=some (.int .i64 x.2.1) ∧ W.cell? (a.add (i * 3 + 2))=some (.int .i64 x.2.2) ∧
    D i=.agg [.lit (.int .i64 x.1),.lit (.int .i64 x.2.1),.lit (.int .i64 x.2.2)]:=by
   intro i
   by_cases him:i < m
   ·obtain ⟨ys,k,hD,_,hlen,hj⟩:=hi i him
    obtain ⟨v0,y0,c0,g0,r0⟩:=hj 0 f0 rfl
    obtain ⟨v1,y1,c1,g1,r1⟩:=hj 1 f1 rfl
    obtain ⟨v2,y2,c2,g2,r2⟩:=hj 2 f2 rfl
    rw [t0] at r0;rw [t1] at r1;rw [t2] at r2
    obtain ⟨z0,e0,d0,w0⟩:=DataW.trod_int hti r0
    obtain ⟨z1,e1,d1,w1⟩:=DataW.trod_int hti r1
    obtain ⟨z2,e2,d2,w2⟩:=DataW.trod_int hti r2
    simp at e0 e1 e2
    subst e0 e1 e2
    refine ⟨(z0,z1,z2),fun _ => ⟨c0,c1,c2,?_⟩⟩
    match ys,hlen with
    | [u0,u1,u2],_ =>
      simp at g0 g1 g2
      subst g0 g1 g2
      subst d0 d1 d2
      rw [hD];rfl
   ·exact ⟨(0,0,0),fun h => absurd h him⟩
  let f:Nat → Int × Int × Int:=fun i => (key i).choose
  have hfs:=fun i => (key i).choose_spec
  refine ⟨(List.range len).map f,⟨some a,m,by simp,by simpa using hl,hm,(by intro h;cases h),fun i x hxi => ⟨a,rfl,?_,?_⟩⟩,?_,(by intro h;cases h)⟩
  ·have hin:i < len:=by simpa using (List.getElem?_eq_some_iff.1 hxi).1
   have hp:MemPlace.cell a.block (a.off + 0) ∈ MemPlace.row a (m * 3):=by
    unfold MemPlace.row;simp;omega
   exact hlt _ _ (List.mem_append_left _ hp)
  ·have hin:i < len:=by simpa using (List.getElem?_eq_some_iff.1 hxi).1
   have he:x=f i:=by simpa [hin] using hxi.symm
   subst he
   obtain ⟨q0,q1,q2,_⟩:=hfs i (by omega)
   exact ⟨q0,q1,q2⟩
  ·intro es sp hes
   simp only [DataW.slice.injEq] at hes
   rw [← hes.1,List.map_map]
   refine List.map_congr_left fun i hi' => ?_
   have hin:i < len:=by simpa using hi'
   exact (hfs i (by omega)).2.2.2
end
theorem glob_laid {W : World} (h : laidMetH Tryz.prog [("namedesk/table.blocks", Rows.laid_namedesk_table_blocks)] W) : Glob W := by
 rw [MakeChecks.laidMetH_plain _ _ _ (by kernel_rfl)] at h
 obtain ⟨ps,⟨g0,t0,cs0,f0,p0,q0,hg0,ht0,hv0,hd0,_,rfl⟩,_,hfr⟩:=h
 obtain rfl:=Option.some.inj (gBlocks.symm.trans hg0)
 obtain rfl:=Option.some.inj (tBlocks.symm.trans ht0)
 have hlt:∀ b off,MemPlace.cell b off ∈ p0 → b < W.heap.size:=by
  intro b off hx
  obtain ⟨⟨c,t,hb⟩,_⟩:=hfr b off (List.mem_append_left _ (List.mem_append_right _ hx))
  exact (Array.getElem?_eq_some_iff.1 hb).1
 obtain ⟨v,hcs⟩:∃ v,cs0.toList=[v]:=by
  rcases open_slice_fields Tryz.underlying23 Tryz.underlying54 (by kernel_rfl) (by kernel_rfl) hd0 with ⟨hcs,_⟩ | ⟨a,len,cap,m,D,Pl,hcs,_⟩
  ·exact ⟨_,hcs⟩
  ·exact ⟨_,hcs⟩
 rw [hcs] at hd0
 obtain ⟨xs,hxs,hes,hnil⟩:=spans_trod Tryz.underlying23 Tryz.underlying54 (by kernel_rfl) (by kernel_rfl) rfl rfl rfl Tryz.underlying3 hd0 hlt
 have he:=hes _ _ rfl
 have hxb:xs=blocksL:=by
  have h6:xs.length=6:=by have:=congrArg List.length he;simpa using this.symm
  match xs,h6 with
  | [x0,x1,x2,x3,x4,x5],_ =>
    obtain ⟨x00,x01,x02⟩:=x0
    obtain ⟨x10,x11,x12⟩:=x1
    obtain ⟨x20,x21,x22⟩:=x2
    obtain ⟨x30,x31,x32⟩:=x3
    obtain ⟨x40,x41,x42⟩:=x4
    obtain ⟨x50,x51,x52⟩:=x5
    simp at he
    unfold blocksL
    simp
    omega
 subst hxb
 refine ⟨v,?_,hxs⟩
 have:=World.var?_cell hg0 hv0 0
 rw [this]
 cases cs0
 simp at hcs
 subst hcs
 rfl
end Go.Proofs.YtjafpikjpipbkaaGreatDoor
namespace Go.Proofs.YtjafpikjpipbkaaGreatDoor
open Go.ChangeShapes Go.WideShapes Go.ChangeAt Go.RowKit
theorem witness_door {H:Type} {enc:TypeId × Value → H} {C:Checked} {os:Os} {f:FuncId} {fn:Func} {s:OpenSpec} {conds:List PathCond} {apart:Bool} {laid:List (String × DataW Unit)} (w0:World) (args:Array Value) (hos:w0.os=os)
  (hsh:(w0.forCall (fun _ _ => 0) ⟨#[],args,[]⟩).Shaped C.prog)
  (hok:Input.okWideB C.prog (w0.forCall (fun _ _ => 0) ⟨#[],args,[]⟩) f ⟨#[],args,[]⟩=true)
  (hrow:s.preRow enc C.prog fn conds apart laid (w0.forCall (fun _ _ => 0) ⟨#[],args,[]⟩).memory args) :
  ∃ (w:World) (tape:Tape) (i:Input),w.os=os ∧ (w.forCall tape i).Shaped C.prog ∧ i.vars=[] ∧ Input.okWide C.prog (w.forCall tape i) .any w.heap.size f i ∧
   s.preRow enc C.prog fn conds apart laid (w.forCall tape i).memory i.args ∧ ({ modest:=false }:Assume).holds C.prog (lone (Frame.enter C.prog f i.args .normal) [] (w.forCall tape i)) :=
 ⟨w0,fun _ _ => 0,⟨#[],args,[]⟩,hos,hsh,(Input.okWide_of_okWideB (base:=0) hok).1,(Input.okWide_of_okWideB hok).2,hrow,by
  simp only [Assume.holds]
  exact ⟨by simp,by simp,fun _ => Modest.zero,by simp,by simp⟩⟩
end Go.Proofs.YtjafpikjpipbkaaGreatDoor
