/-
  Merged texts: lemmas and walks that the last text of this claim leans on.
-/
import Derived.Test.YtjafpikjpipbkaaGreatDoorMgTS8
import Derived.Test.YtjafpikjpipbkaaGreatDoorMgTS4
import Derived.Deep.LoopGhost
import Derived.Test.YtjafpikjpipbkaaGreatDoorMgTS3
import Derived.Test.YtjafpikjpipbkaaGreatDoorMgTS2
import Derived.Test.YtjafpikjpipbkaaGreatDoorMgTS1
import Derived.Test.YtjafpikjpipbkaaGreatDoorMgTS5
import Derived.Test.YtjafpikjpipbkaaGreatDoorMgTS6
import Derived.Deep.Cut
import Derived.Deep.CutRange
import Derived.BigQuiet
import Derived.IntWalk
set_option maxRecDepth 100000
set_option maxHeartbeats 40000000
namespace Go.Proofs.YtjafpikjpipbkaaGreatDoor
open Go.RowKit ND
def accE (T:Tab) (l:List Int):Int:=if T.check ≠ 0 then 2 else if 4096 < l.length then 7 else if l.all scalarB=true then 0 else 3
theorem accE_check {T:Tab} {l:List Int} (h:T.check ≠ 0):accE T l=2:=by unfold accE;rw [if_pos h]
theorem accE_full {T:Tab} {l:List Int} (h:T.check=0) (h2:4096 < l.length):accE T l=7:=by unfold accE;rw [if_neg (by omega),if_pos h2]
theorem accE_ok {T:Tab} {l:List Int} (h:T.check=0) (h2:l.length ≤ 4096) (h3:l.all scalarB=true):accE T l=0:=by unfold accE;rw [if_neg (by omega),if_neg (by omega),if_pos h3]
theorem accE_bad {T:Tab} {l:List Int} (h:T.check=0) (h2:l.length ≤ 4096) (h3:l.all scalarB=false):accE T l=3:=by unfold accE;rw [if_neg (by omega),if_neg (by omega),if_neg (by rw [h3];simp)]
theorem accE_zero {T:Tab} {l:List Int} (h:accE T l=0):T.check=0 ∧ l.length ≤ 4096 ∧ l.all scalarB=true:=by
 unfold accE at h
 split at h
 ·cases h
 ·split at h
  ·cases h
  ·split at h
   ·rename_i h1 h2 h3;exact ⟨by omega,by omega,h3⟩
   ·cases h
theorem bad_any (c:Int) (w:World):Calls Tryz.prog 128 #[.int .i64 c] w fun e w' => e=.returned (.bool (!scalarB c)) ∧ w=w':=by
 cases h:scalarB c
 ·have hc:=Lib.hid (fun w => length_any c w)
  rw [lenC_zero.2 h] at hc
  go_enter Tryz.func128,Tryz.ntmps128
  go_wp2_with (go_at_call 43;refine (hc.out _).mono ?_;rintro e w4 ⟨rfl,rfl⟩)
  go_ret
  exact ⟨rfl,rfl⟩
 ·have hc:=Lib.hid (fun w => length_any c w)
  have hp:lenC c ≠ 0:=fun e => by rw [lenC_zero.1 e] at h;cases h
  have hb:((lenC c:Int) == 0)=false:=by rw [beq_eq_false_iff_ne];omega
  clear hp
  go_enter Tryz.func128,Tryz.ntmps128
  go_wp2_with (go_at_call 43;refine (hc.out _).mono ?_;rintro e w4 ⟨rfl,rfl⟩)
  go_ret
  exact ⟨rfl,rfl⟩
def RetIdx (w:World) (xs:List Int) (e:Ending) (w':World):Prop:=∃ r:Int,e=.returned (.int .i64 r) ∧ (0 ≤ r ∧ xs.all scalarB=false ∨ r < 0 ∧ xs.all scalarB=true) ∧ Below w.heap.size w w'
theorem all_step {xs:List Int} {k:Nat} {x:Int} (h:(xs.take k).all scalarB=true) (hx:xs[k]?=some x) (hs:scalarB x=true):(xs.take (k + 1)).all scalarB=true:=by
 obtain ⟨a,a'⟩:=List.getElem?_eq_some_iff.1 hx
 rw [List.take_succ_eq_append_getElem a,List.all_append,h,a']
 simp [hs]
theorem all_bad {xs:List Int} {k:Nat} {x:Int} (hx:xs[k]?=some x) (hs:scalarB x=false):xs.all scalarB=false:=by
 cases h:xs.all scalarB with
 | false => rfl
 | true => rw [List.all_eq_true] at h;rw [h x (List.mem_of_getElem? hx)] at hs;cases hs
theorem index_any (v:Value) (xs:List Int) (w:World) (hv:Ints w w.heap.size .i64 v xs) :
  Calls Tryz.prog 165 #[v,.func (.func 128) #[] #[]] w (RetIdx w xs):=by
 obtain ⟨A,c,rfl,hc1,hc2,_,hcell⟩:=hv
 have HC:=Lib.hid hcell;clear hcell
 have hl:xs.length ≤ 9223372036854775807:=by unfold maxLen at hc2;omega
 clear hc2 hc1
 go_enter Tryz.func165,Tryz.ntmps165
 go_wp2_with fail
 go_loopw [8] (fun i wr => ∃ k:Nat,k ≤ xs.length ∧ i=.int .i64 k ∧ Hid ((xs.take k).all scalarB=true) ∧ Below w.heap.size w wr) (fun i _ => xs.length - (intOf i).toNat)
 case atStart => exact ⟨0,by omega,rfl,Lib.hid (by simp),Below.refl _ _⟩
 case round =>
  obtain ⟨k,hk,rfl,HS,hbel⟩:=hrel
  by_cases hlt:k < xs.length
  ·obtain ⟨x,hxk,_⟩:=get_of hlt
   obtain ⟨ad,rfl,ha,hce⟩:=HC.out k x hxk
   have e1:=(hbel.cell (p:=ad.add k) (by rw [block_of_add];exact ha)).trans hce
   have HX:=Lib.hid hxk
   have k0:(0:Int) ≤ (k:Int):=by omega
   have k1:(k:Int) < (xs.length:Int):=by omega
   have hb:=Lib.hid (fun w => bad_any x w)
   clear hce hxk ha
   cases hs:scalarB x
   ·have HE:=Lib.hid (all_bad HX.out hs)
    rw [hs] at hb
    clear hs
    go_wp2_with (go_at_call 128;refine (hb.out _).mono ?_;rintro e w4 ⟨rfl,rfl⟩)
    go_ret
    exact ⟨k,rfl,.inl ⟨k0,HE.out⟩,hbel⟩
   ·have HE:=Lib.hid (all_step HS.out HX.out hs)
    rw [hs] at hb
    clear hs
    go_wp2_with (go_at_call 128;refine (hb.out _).mono ?_;rintro e w4 ⟨rfl,rfl⟩)
    go_roundw
    case rel => exact ⟨k + 1,by omega,by go_num,HE,hbel⟩
    case measure => simp [intOf];omega
  ·have HE:=Lib.hid (show xs.all scalarB=true by have:=HS.out;rwa [List.take_of_length_le (by omega)] at this)
   go_wp2_with fail
   go_ret
   exact ⟨-1,rfl,.inr ⟨by omega,HE.out⟩,hbel⟩
theorem contains_any (v:Value) (xs:List Int) (w:World) (hv:Ints w w.heap.size .i64 v xs) :
  Calls Tryz.prog 127 #[v,.func (.func 128) #[] #[]] w fun e w' => e=.returned (.bool (!xs.all scalarB)) ∧ Below w.heap.size w w':=by
 obtain ⟨A,c,rfl,_⟩:=id hv
 have HI:=Lib.hid (index_any _ xs w hv)
 clear hv
 obtain ⟨R,hR⟩:∃ R,R=xs.all scalarB:=⟨_,rfl⟩
 rw [← hR]
 have HR:=Lib.hid hR
 clear hR
 go_enter Tryz.func127,Tryz.ntmps127
 go_wp2_with (go_at_call 165;refine HI.out.mono ?_;rintro e w1 ⟨r,rfl,hr,b1⟩)
 go_ret
 refine ⟨?_,b1⟩
 rcases hr with ⟨h1,h2⟩ | ⟨h1,h2⟩
 ·rw [HR.out,h2,decide_eq_true h1];rfl
 ·rw [HR.out,h2,decide_eq_false (by omega)];rfl
theorem ocheck_any (t:Tv) (T:Tab) (v:Value) (xs:List Int) (w:World) (ht:TabR w w.heap.size t T) (hg:Glob w) (hv:Ints w w.heap.size .i64 v xs) :
  Calls Tryz.prog 74 #[t.val,v] w fun e w' => e=.returned (.int .i64 (accE T xs)) ∧ Below w.heap.size w w':=by
 obtain ⟨A,c,rfl,_⟩:=id hv
 have HB0:Hid (Below w.heap.size w (w.alloc (.cells t.cells 26))):=Lib.hid ((Below.refl _ _).alloc (Nat.le_refl _) _)
 have HT:=Lib.hid (check_table t T _ (ht.later HB0.out) (hg.later HB0.out))
 have HV:=Lib.hid (fun W (h:Below (w.alloc (.cells t.cells 26)).heap.size (w.alloc (.cells t.cells 26)) W) => contains_any _ xs W ((hv.later HB0.out).later h))
 clear hv ht hg
 obtain ⟨R,hR⟩:∃ R,R=accE T xs:=⟨_,rfl⟩
 rw [← hR]
 have HR:=Lib.hid hR
 clear hR
 by_cases h1:T.check=0
 ·have hc1:(T.check != 0)=false:=by rw [h1];rfl
  by_cases h2:xs.length ≤ 4096
  ·cases h3:xs.all scalarB
   ·have HE:=Lib.hid (accE_bad h1 h2 h3)
    rw [h3] at HV
    have h4:¬ (4096:Int) < (xs.length:Int):=by omega
    clear h1 h3 h2
    go_enter Tryz.func74,Tryz.ntmps74
    go_wp2_with (first | (go_at_call 29;refine HT.out.mono ?_;rintro e w1 ⟨rfl,b1⟩) | (go_at_call 127;refine (HV.out _ b1).mono ?_;rintro e w2 ⟨rfl,b2⟩))
    go_ret
    rw [HR.out,HE.out]
    exact ⟨rfl,below_next (below_next HB0.out b1) b2⟩
   ·have HE:=Lib.hid (accE_ok h1 h2 h3)
    rw [h3] at HV
    have h4:¬ (4096:Int) < (xs.length:Int):=by omega
    clear h1 h3 h2
    go_enter Tryz.func74,Tryz.ntmps74
    go_wp2_with (first | (go_at_call 29;refine HT.out.mono ?_;rintro e w1 ⟨rfl,b1⟩) | (go_at_call 127;refine (HV.out _ b1).mono ?_;rintro e w2 ⟨rfl,b2⟩))
    go_ret
    rw [HR.out,HE.out]
    exact ⟨rfl,below_next (below_next HB0.out b1) b2⟩
  ·have HE:=Lib.hid (accE_full (l:=xs) h1 (by omega))
   have h4:(4096:Int) < (xs.length:Int):=by omega
   clear h1 h2
   go_enter Tryz.func74,Tryz.ntmps74
   go_wp2_with (first | (go_at_call 29;refine HT.out.mono ?_;rintro e w1 ⟨rfl,b1⟩))
   go_ret
   rw [HR.out,HE.out]
   exact ⟨rfl,below_next HB0.out b1⟩
 ·have HE:=Lib.hid (accE_check (l:=xs) h1)
  have hc1:(T.check != 0)=true:=by simpa using h1
  clear h1
  go_enter Tryz.func74,Tryz.ntmps74
  go_wp2_with (first | (go_at_call 29;refine HT.out.mono ?_;rintro e w1 ⟨rfl,b1⟩))
  go_ret
  rw [HR.out,HE.out]
  exact ⟨rfl,below_next HB0.out b1⟩
end Go.Proofs.YtjafpikjpipbkaaGreatDoor
namespace ND
def putO (f:Int → Int) (x:Int):List Int → List Int
 | [] => [x]
 | y :: r => if 0 < f y ∧ f y < f x then y :: putO f x r else x :: y :: r
def can (f:Int → Int):List Int → List Int
 | [] => []
 | x :: r => putO f x (can f r)
def okP (f:Int → Int) (x y:Int):Prop:=¬ (0 < f y ∧ f y < f x)
def SortN (f:Int → Int) (n:Nat) (l:List Int):Prop:=∀ i x y,i + 1 < n → l[i]?=some x → l[i + 1]?=some y → okP f x y
theorem putO_swap {f:Int → Int} {x y:Int} (h0:0 < f y) (h1:f y < f x):∀ R,putO f x (putO f y R)=putO f y (putO f x R):=by
 intro R
 induction R with
 | nil => simp only [putO];rw [if_pos ⟨h0,h1⟩,if_neg (by omega)]
 | cons z R ih =>
   by_cases hz:0 < f z ∧ f z < f y
   ·have hx:0 < f z ∧ f z < f x:=⟨hz.1,by omega⟩
    simp only [putO,if_pos hz,if_pos hx,ih]
   ·simp only [putO,if_neg hz,if_pos (And.intro h0 h1)]
    by_cases hx:0 < f z ∧ f z < f x
    ·simp only [putO,if_pos hx,if_neg hz]
    ·simp only [if_neg hx,putO]
     rw [if_neg (by omega)]
theorem can_swap {f:Int → Int} {x y:Int} (h0:0 < f y) (h1:f y < f x) (a b:List Int):can f (a ++ x :: y :: b)=can f (a ++ y :: x :: b):=by
 induction a with
 | nil => exact putO_swap h0 h1 _
 | cons z a ih => simp only [List.cons_append,can,ih]
theorem can_sorted {f:Int → Int}:∀ l:List Int,SortN f l.length l → can f l=l:=by
 intro l
 induction l with
 | nil => intro _;rfl
 | cons x r ih =>
   intro h
   have hr:SortN f r.length r:=fun i a b hi ha hb => h (i + 1) a b (by simp;omega) (by simpa using ha) (by simpa using hb)
   rw [can,ih hr]
   cases r with
   | nil => rfl
   | cons y r =>
     have:=h 0 x y (by simp) rfl rfl
     rw [putO,if_neg this]
theorem putO_length (f:Int → Int) (x:Int):∀ l,(putO f x l).length=l.length + 1:=by
 intro l
 induction l with
 | nil => rfl
 | cons y r ih => rw [putO];split <;> simp [ih]
theorem can_length (f:Int → Int):∀ l,(can f l).length=l.length:=by
 intro l
 induction l with
 | nil => rfl
 | cons x r ih => rw [can,putO_length,ih];rfl
theorem putO_mem {f:Int → Int} {x z:Int}:∀ {l},z ∈ putO f x l ↔ z=x ∨ z ∈ l:=by
 intro l
 induction l with
 | nil => simp [putO]
 | cons y r ih =>
   rw [putO]
   split
   ·simp only [List.mem_cons,ih]
    constructor
    ·rintro (h | h | h) <;> simp [h]
    ·rintro (h | h | h) <;> simp [h]
   ·simp
theorem can_mem {f:Int → Int} {z:Int}:∀ {l},z ∈ can f l ↔ z ∈ l:=by
 intro l
 induction l with
 | nil => simp [can]
 | cons x r ih => rw [can,putO_mem,ih];simp
def swapL (l:List Int) (p:Nat) (x y:Int):List Int:=(l.set (p + 1) x).set p y
theorem cut_two {l:List Int} {p:Nat} {x y:Int} (hx:l[p]?=some x) (hy:l[p + 1]?=some y):∃ a b,a.length=p ∧ l=a ++ x :: y :: b ∧ swapL l p x y=a ++ y :: x :: b:=by
 obtain ⟨h1,e1⟩:=List.getElem?_eq_some_iff.1 hx
 obtain ⟨h2,e2⟩:=List.getElem?_eq_some_iff.1 hy
 have e:l=l.take p ++ x :: y :: l.drop (p + 2):=by
  conv => lhs;rw [← List.take_append_drop p l,List.drop_eq_getElem_cons h1,List.drop_eq_getElem_cons h2,e1,e2]
 refine ⟨l.take p,l.drop (p + 2),by simp;omega,e,?_⟩
 have hl:(l.take p).length=p:=by simp;omega
 rw [swapL]
 generalize l.take p=a at e hl
 generalize l.drop (p + 2)=b at e
 subst e;subst hl
 simp
theorem can_swapL {f:Int → Int} {l:List Int} {p:Nat} {x y:Int} (hx:l[p]?=some x) (hy:l[p + 1]?=some y) (h0:0 < f y) (h1:f y < f x):can f (swapL l p x y)=can f l:=by
 obtain ⟨a,b,_,e,s⟩:=cut_two hx hy
 rw [s,e,can_swap h0 h1]
theorem swapL_length (l:List Int) (p:Nat) (x y:Int):(swapL l p x y).length=l.length:=by simp [swapL]
theorem swapL_at {l:List Int} {p:Nat} {x y:Int} (hx:l[p]?=some x) (hy:l[p + 1]?=some y) (i:Nat):(swapL l p x y)[i]?=if i=p then some y else if i=p + 1 then some x else l[i]?:=by
 have h1:=(List.getElem?_eq_some_iff.1 hx).1
 have h2:=(List.getElem?_eq_some_iff.1 hy).1
 rw [swapL,List.getElem?_set,List.getElem?_set]
 by_cases e:p=i
 ·subst e;simp [h1]
 ·rw [if_neg e,if_neg (Ne.symm e)]
  by_cases e2:p + 1=i
  ·subst e2;simp [h2]
  ·rw [if_neg e2,if_neg (Ne.symm e2)]
structure Ins (f:Int → Int) (l o:List Int) (i g:Nat) (m:Int):Prop where
 len:o.length=l.length
 can:can f o=can f l
 le:g ≤ i
 lt:i < l.length
 m:o[g]?=some m
 ok:∀ p a b,p + 1 ≤ i → p + 1 ≠ g → o[p]?=some a → o[p + 1]?=some b → okP f a b
 skip:∀ p a b,p + 1=g → g + 1 ≤ i → o[p]?=some a → o[g + 1]?=some b → okP f a b
theorem Ins.start {f:Int → Int} {l o:List Int} {i:Nat} {m:Int} (hl:o.length=l.length) (hc:ND.can f o=ND.can f l) (hs:SortN f i o) (hi:i < l.length) (hm:o[i]?=some m):Ins f l o i i m :=
 ⟨hl,hc,Nat.le_refl _,hi,hm,fun p a b h1 h2 ha hb => hs p a b (by omega) ha hb,fun p a b _ h => absurd h (by omega)⟩
theorem Ins.step {f:Int → Int} {l o:List Int} {i p:Nat} {m x:Int} (h:Ins f l o i (p + 1) m) (hx:o[p]?=some x) (h0:0 < f m) (h1:f m < f x):Ins f l (swapL o p x m) i p m where
 len:=by rw [swapL_length,h.len]
 can:=by rw [can_swapL hx h.m h0 h1,h.can]
 le:=by have:=h.le;omega
 lt:=h.lt
 m:=by rw [swapL_at hx h.m,if_pos rfl]
 ok q a b hq hne ha hb:=by
  rw [swapL_at hx h.m] at ha hb
  by_cases e:q=p
  ·subst e
   rw [if_pos rfl] at ha
   rw [if_neg (by omega),if_pos rfl] at hb
   cases ha;cases hb
   intro e;omega
  ·rw [if_neg e] at ha
   by_cases e2:q=p + 1
   ·subst e2
    rw [if_pos rfl] at ha
    rw [if_neg (by omega),if_neg (by omega)] at hb
    cases ha
    exact h.skip p _ b rfl hq hx hb
   ·rw [if_neg e2] at ha
    rw [if_neg (by omega),if_neg (by omega)] at hb
    exact h.ok q a b hq (by omega) ha hb
 skip q a b hq hi ha hb:=by
  rw [swapL_at hx h.m] at ha hb
  rw [if_neg (by omega),if_neg (by omega)] at ha
  rw [if_neg (by omega),if_pos rfl] at hb
  cases hb
  subst hq
  exact h.ok q a _ (by omega) (by omega) ha hx
theorem Ins.stop {f:Int → Int} {l o:List Int} {i g:Nat} {m:Int} (h:Ins f l o i g m) (hs:∀ p x,p + 1=g → o[p]?=some x → ¬ (f m < f x)):SortN f (i + 1) o:=fun p a b hp ha hb => by
 by_cases e:p + 1=g
 ·have h2:=h.m
  rw [← e,hb] at h2
  cases h2
  exact fun h3 => hs p a e ha h3.2
 ·exact h.ok p a b (by omega) e ha hb
theorem SortN.zero {f:Int → Int} {l:List Int} {n:Nat} {y:Int} (h:SortN f n l) (hy:l[n]?=some y) (h0:f y ≤ 0):SortN f (n + 1) l:=fun p a b hp ha hb => by
 by_cases e:p + 1=n
 ·subst e;rw [hy] at hb;cases hb;exact fun h3 => by omega
 ·exact h p a b (by omega) ha hb
theorem sorted_done {f:Int → Int} {l o:List Int} {n:Nat} (hl:o.length=l.length) (hc:can f o=can f l) (hn:l.length ≤ n) (hs:SortN f n o):o=can f l:=by
 rw [← hc]
 exact (can_sorted o fun p a b hp ha hb => hs p a b (by omega) ha hb).symm
theorem putO_app {f:Int → Int} {x z:Int} (hz:f z ≤ 0) (S:List Int):∀ R,putO f x (R ++ z :: S)=putO f x R ++ z :: S:=by
 intro R
 induction R with
 | nil => simp only [List.nil_append,putO];rw [if_neg (by omega)];rfl
 | cons y r ih =>
   simp only [List.cons_append,putO]
   split
   ·rw [ih];rfl
   ·rfl
theorem can_app {f:Int → Int} {z:Int} (hf:∀ x,0 ≤ f x) (hz:f z=0) (b:List Int):∀ a,can f (a ++ z :: b)=can f a ++ z :: can f b:=by
 intro a
 induction a with
 | nil =>
   simp only [List.nil_append,can]
   cases can f b with
   | nil => rfl
   | cons y r => rw [putO,if_neg (by have:=hf y;omega)]
 | cons x a ih => simp only [List.cons_append,can,ih,putO_app (by omega:f z ≤ 0)]
end ND
namespace Go.Proofs.YtjafpikjpipbkaaGreatDoor
open Go.RowKit ND
theorem rules_of {T:Tab} (h:T.check=0):T.rule1=true ∧ T.rule2=true ∧ T.rule3=true ∧ T.rule4=true ∧ T.rule5=true ∧ T.rule6=true ∧ T.rule7=true ∧ T.rule8=true ∧ T.rule9=true:=by
 unfold Tab.check at h
 cases h1:T.rule1 <;> cases h2:T.rule2 <;> cases h3:T.rule3 <;> cases h4:T.rule4 <;> cases h5:T.rule5 <;> cases h6:T.rule6 <;> cases h7:T.rule7 <;> cases h8:T.rule8 <;> cases h9:T.rule9 <;> simp [h1,h2,h3,h4,h5,h6,h7,h8,h9] at h ⊢
theorem shape_of {T:Tab} (h:T.check=0):Shape T:=Shape.of (rules_of h).1 (rules_of h).2.1
theorem sized_of {T:Tab} (h:T.check=0):Sized T:=Sized.of (rules_of h).2.2.2.1
theorem valueL_mem (l:List Sp) (c:Int):valueL l c=0 ∨ ∃ s ∈ l,valueL l c=s.2.2:=by
 induction l with
 | nil => exact .inl rfl
 | cons s r ih =>
   by_cases h:s.1 ≤ c ∧ c ≤ s.2.1
   ·exact .inr ⟨s,List.mem_cons_self,by rw [valueL,if_pos h]⟩
   ·rcases ih with ih | ⟨q,hq,e⟩
    ·exact .inl (by rw [valueL,if_neg h];exact ih)
    ·exact .inr ⟨q,List.mem_cons_of_mem _ hq,by rw [valueL,if_neg h];exact e⟩
theorem vals_in {T:Tab} (h:T.check=0) {l:List Sp} {a b:Int} (hm:(l,a,b) ∈ T.cols):∀ s ∈ l,a ≤ s.2.2 ∧ s.2.2 ≤ b:=by
 have h3:=(rules_of h).2.2.1
 unfold Tab.rule3 at h3
 rw [List.all_eq_true] at h3
 have h4:=h3 _ hm
 unfold valsOk at h4
 rw [List.all_eq_true] at h4
 intro s hs
 simpa using h4 s hs
theorem cls_range {T:Tab} (h:T.check=0) (c:Int):0 ≤ T.classOf c ∧ T.classOf c ≤ 255:=by
 rcases valueL_mem T.cls c with e | ⟨s,hs,e⟩
 ·unfold Tab.classOf;rw [e];omega
 ·have:=vals_in h (l:=T.cls) (a:=1) (b:=254) (by simp [Tab.cols]) s hs
  unfold Tab.classOf;rw [e];omega
end Go.Proofs.YtjafpikjpipbkaaGreatDoor
namespace Go.Proofs.YtjafpikjpipbkaaGreatDoor
open Go.RowKit ND
def Tbl (W:World) (b:Nat) (t:Tv) (T:Tab):Prop:=Blk W b 26 #[t.c0,t.c1,t.c2,t.c3,t.c4,t.c5,t.c6,t.c7,t.c8,t.c9,t.c10,t.c11] ∧ TabR W W.heap.size t T
theorem Tbl.later {W W':World} {b:Nat} {t:Tv} {T:Tab} (h:Tbl W b t T) (hb:Below W.heap.size W W'):Tbl W' b t T:=⟨h.1.later hb,h.2.later hb⟩
theorem Tbl.new {w1:World} {T:Tab} {A0 A1 A2 A3 A4 A5 A6 A7 A8 A9 A10 A11:Option Addr} {k0 k1 k2 k3 k4 k5 k6 k7 k8 k9 k10 k11:Nat} (h:TabR w1 w1.heap.size ⟨.slice A0 T.category.length k0,.slice A1 T.cls.length k1,.slice A2 T.joining.length k2,.slice A3 T.bidi.length k3,.slice A4 T.script.length k4,.slice A5 T.status.length k5,.slice A6 T.ignorable.length k6,.slice A7 T.extensions.length k7,.slice A8 T.maps.length k8,.slice A9 T.decomps.length k9,.slice A10 T.excluded.length k10,.slice A11 T.prototypes.length k11⟩ T) :
  ∃ t:Tv,t=⟨.slice A0 T.category.length k0,.slice A1 T.cls.length k1,.slice A2 T.joining.length k2,.slice A3 T.bidi.length k3,.slice A4 T.script.length k4,.slice A5 T.status.length k5,.slice A6 T.ignorable.length k6,.slice A7 T.extensions.length k7,.slice A8 T.maps.length k8,.slice A9 T.decomps.length k9,.slice A10 T.excluded.length k10,.slice A11 T.prototypes.length k11⟩ ∧ Tbl (w1.alloc (.cells #[.slice A0 T.category.length k0,.slice A1 T.cls.length k1,.slice A2 T.joining.length k2,.slice A3 T.bidi.length k3,.slice A4 T.script.length k4,.slice A5 T.status.length k5,.slice A6 T.ignorable.length k6,.slice A7 T.extensions.length k7,.slice A8 T.maps.length k8,.slice A9 T.decomps.length k9,.slice A10 T.excluded.length k10,.slice A11 T.prototypes.length k11] 26)) w1.heap.size t T :=
 ⟨_,rfl,Blk.new _ _ _,h.later ((Below.refl _ _).alloc (Nat.le_refl _) _)⟩
end Go.Proofs.YtjafpikjpipbkaaGreatDoor
namespace Go.Proofs.YtjafpikjpipbkaaGreatDoor
open Go.RowKit ND
theorem row_le {w:World} {base base' size n:Nat} {e:TypeId} {v:Value} {xs:List Value} (h:w.ownsRow base e size v n xs) (hb:base' ≤ base):w.ownsRow base' e size v n xs :=
 ⟨h.1,h.2.imp id fun ⟨g,cap,cur,hv,h1,h2⟩ => ⟨g,cap,cur,hv,Nat.le_trans hb h1,h2⟩⟩
def RetRow (w:World) (ys:List Int) (e:Ending) (w':World):Prop:=∃ v,e=.returned v ∧ w'.ownsRow w.heap.size 3 1 v ys.length (ys.map (Value.int .i64)) ∧ Below w.heap.size w w'
theorem sort_big (t:Tv) (T:Tab) (v:Value) (xs:List Int) (w:World) (ht:TabR w w.heap.size t T) (hck:T.check=0) (hlen:xs.length ≤ 100000) (hv:Ints w w.heap.size .i64 v xs) :
  Calls Tryz.prog 75 #[t.val,v] w (RetRow w (can T.classOf xs)):=by
 obtain ⟨A,c,rfl,_⟩:=id hv
 have hsh:=shape_of hck
 have HF:=Lib.hid (fun x => (cls_range hck x).1)
 obtain ⟨f,hf⟩:∃ f,T.classOf=f:=⟨_,rfl⟩
 have HC:Hid (∀ (b:Nat) (W:World) (x:Int),Tbl W b t T → Calls Tryz.prog 82 #[.agg #[t.c0,t.c1,t.c2,t.c3,t.c4,t.c5,t.c6,t.c7,t.c8,t.c9,t.c10,t.c11],.int .i64 x] W fun e W' => e=.returned (.int .i64 (f x)) ∧ Below W.heap.size W W'):=Lib.hid fun b W x h => by
  have h2:=class_any t T x 0 1114111 W h.2 hsh.c1.1 hsh.c1.2.1
  rw [hf] at h2;exact h2
 rw [hf] at HF ⊢
 have HB0:Hid (Below w.heap.size w (w.alloc (.cells t.cells 26))):=Lib.hid ((Below.refl _ _).alloc (Nat.le_refl _) _)
 have HT:Hid (Tbl (w.alloc (.cells t.cells 26)) w.heap.size t T):=Lib.hid ⟨Blk.new _ _ _,ht.later HB0.out⟩
 have HV:=Lib.hid (hv.later HB0.out)
 clear hv ht hck hsh hf
 go_enter Tryz.func75,Tryz.ntmps75
 go_upto_region 1 with fail
 generalize w.alloc (.cells t.cells 26)=w1 at *
 obtain ⟨tb,htb⟩:∃ tb,w.heap.size=tb:=⟨_,rfl⟩
 rw [htb] at HT
 simp only [htb]
 obtain ⟨i0,hi,hz0,hz1,hz2⟩:=info_parts Tryz.infoInt'
 go_upto_region 2 with (at_builtin;refine wpList_append_ints (by rfl) (.const (.slice none 0 0)) (.tmp 9) rfl Tryz.underlying22 hi hz0 hz1 hz2 w1.heap.size w1.heap.size (.slice none 0 0) [] (.slice A xs.length c) xs rfl (World.ownsRow_nil _ _ _ _) rfl HV.out (by simp;omega) (Nat.le_refl _) ?_;intro v5 w2 ho hg _;simp only [List.nil_append] at ho;obtain ⟨A5,c5,rfl,_⟩:=id (Ints.of_own ho);have HO:=Lib.hid ho;have HB2:=Lib.hid ((Below.refl _ _).grown hg (Nat.le_refl _) (fun k hk => by cases hk));clear ho hg)
 go_wp2_with fail
 go_loopw [13] (fun s13 wr => ∃ (k:Nat) (o:List Int),k ≤ xs.length ∧ s13=.int .i64 k ∧ Hid (o.length=xs.length ∧ can f o=can f xs ∧ SortN f k o) ∧ Hid (wr.ownsRow w1.heap.size 3 1 (.slice A5 xs.length c5) xs.length (o.map (Value.int .i64))) ∧ Hid (Below w1.heap.size w1 wr)) (fun i _ => xs.length - (intOf i).toNat)
 case atStart => exact ⟨0,xs,by omega,rfl,Lib.hid ⟨rfl,rfl,fun i x y h => by omega⟩,HO,HB2⟩
 case round =>
  obtain ⟨k,o,hk,rfl,HS,HOr,HBr⟩:=hrel
  by_cases hlt:k < xs.length
  ·obtain ⟨x,hx⟩:∃ x,o[k]?=some x:=⟨_,List.getElem?_eq_getElem (by rw [HS.out.1];exact hlt)⟩
   obtain ⟨gb,cap,e,hgb,_⟩:=HOr.out.form (by omega)
   cases e
   have hcell:=(HOr.out.cellAt k (by omega)).trans (by rw [List.getElem?_map,hx];rfl:(o.map (Value.int .i64))[k]?=some (.int .i64 x))
   have e1:=cell_regrown hcell
   have HX:=Lib.hid hx
   have HTr:=Lib.hid (HT.out.later HBr.out)
   have HCx:Hid (∀ V,Below wr.heap.size wr V → Calls Tryz.prog 82 #[.agg #[t.c0,t.c1,t.c2,t.c3,t.c4,t.c5,t.c6,t.c7,t.c8,t.c9,t.c10,t.c11],.int .i64 x] V fun e V' => e=.returned (.int .i64 (f x)) ∧ Below V.heap.size V V'):=Lib.hid fun V hV => HC.out tb V x (HTr.out.later hV)
   have k0:(0:Int) ≤ (k:Int):=by omega
   have k1:(k:Int) < (xs.length:Int):=by omega
   clear hx hcell
   go_upto_region 5 with fail
   obtain ⟨x0,x1,x2,x3,x4,x5,x6,x7,x8,x9,x10,x11⟩:=HTr.out.1.tabG
   refine wp_region_quiet_below (by kernel_rfl) (by kernel_rfl) ?_
   repeat (go_big_quiet_step ((go_at_call 82;with_reducible exact quiet_t HCx.out)))
   refine wpQuiet_nil ?_
   rintro _ ⟨⟨dq,osq⟩,rfl⟩
   have b5:=below_regrown wr dq osq
   clear x0 x1 x2 x3 x4 x5 x6 x7 x8 x9 x10 x11 e1 HCx HTr
   have HO5:=Lib.hid (own_later HOr.out b5)
   have HB5:=Lib.hid (below_then HBr.out (Nat.le_refl _) b5)
   generalize Go.Sort.grow (redrawn wr dq) osq=w5 at *
   clear HOr HBr b5
   by_cases h0:f x=0
   ·have hb:(f x == 0)=true:=by rw [h0];rfl
    have HN:=Lib.hid (SortN.zero HS.out.2.2 HX.out (by omega))
    clear h0
    go_wp2_with fail
    go_roundw
    case rel => exact ⟨k + 1,o,by omega,by go_num,Lib.hid ⟨HS.out.1,HS.out.2.1,HN.out⟩,HO5,HB5⟩
    case measure => simp [intOf];omega
   ·have hb:(f x == 0)=false:=by simpa using h0
    have hpos:0 < f x:=by have:=HF.out x;omega
    have HI:=Lib.hid (Ins.start (f:=f) HS.out.1 HS.out.2.1 HS.out.2.2 hlt HX.out)
    clear h0 HX HS
    go_wp2_with fail
    go_loopw [8] (fun s8 wr => ∃ (q:Nat) (o:List Int),s8=.int .i64 q ∧ Hid (Ins f xs o k q x) ∧ Hid (wr.ownsRow w1.heap.size 3 1 (.slice (some ⟨gb,0,none⟩) xs.length c5) xs.length (o.map (Value.int .i64))) ∧ Hid (Below w1.heap.size w1 wr)) (fun i _ => (intOf i).toNat)
    case atStart => exact ⟨k,o,rfl,HI,HO5,HB5⟩
    case round =>
     clear HI HO5 HB5
     obtain ⟨q,o,rfl,HI,HO6,HB6⟩:=hrel
     cases q with
     | zero =>
       have HN:=Lib.hid (HI.out.stop (fun p y h => by omega))
       have HL:=Lib.hid (And.intro HI.out.len HI.out.can)
       go_upto_region 8 with fail
       refine wp_region_quiet_below (by kernel_rfl) (by kernel_rfl) ?_
       repeat (go_big_quiet_step (fail))
       refine wpQuiet_nil ?_
       rintro _ ⟨⟨dq,osq⟩,rfl⟩
       have b5:=below_regrown wr dq osq
       have HO7:=Lib.hid (own_later HO6.out b5)
       have HB7:=Lib.hid (below_then HB6.out (Nat.le_refl _) b5)
       generalize Go.Sort.grow (redrawn wr dq) osq=w7 at *
       go_wp2_with fail
       go_roundw
       case rel => exact ⟨k + 1,o,by omega,by go_num,Lib.hid ⟨HL.out.1,HL.out.2,HN.out⟩,HO7,HB7⟩
       case measure => simp [intOf];omega
     | succ p =>
       have hle:=HI.out.le
       have hol:=HI.out.len
       obtain ⟨y,hy⟩:∃ y,o[p]?=some y:=⟨_,List.getElem?_eq_getElem (by omega)⟩
       have hcp:=(HO6.out.cellAt p (by omega)).trans (by rw [List.getElem?_map,hy];rfl:(o.map (Value.int .i64))[p]?=some (.int .i64 y))
       have hcq:=(HO6.out.cellAt (p + 1) (by omega)).trans (by rw [List.getElem?_map,HI.out.m];rfl:(o.map (Value.int .i64))[p + 1]?=some (.int .i64 x))
       have ep:=cell_regrown hcp
       have eq:=cell_regrown hcq
       have HY:=Lib.hid hy
       have HTr:=Lib.hid (HT.out.later HB6.out)
       have HCy:Hid (∀ V,Below wr.heap.size wr V → Calls Tryz.prog 82 #[.agg #[t.c0,t.c1,t.c2,t.c3,t.c4,t.c5,t.c6,t.c7,t.c8,t.c9,t.c10,t.c11],.int .i64 y] V fun e V' => e=.returned (.int .i64 (f y)) ∧ Below V.heap.size V V'):=Lib.hid fun V hV => HC.out tb V y (HTr.out.later hV)
       have w0:IntKind.i64.wrap (((p + 1:Nat):Int) - 1)=(p:Int):=by rw [IntWalk.i64_in _ (by omega)];omega
       have w2:((p + 1:Nat):Int) - 1=(p:Int):=by omega
       have k2:(0:Int) < ((p + 1:Nat):Int):=by omega
       have k3:(0:Int) ≤ (p:Int):=by omega
       have k4:(p:Int) < (xs.length:Int):=by omega
       clear hy hcp hcq hle hol
       by_cases h9:f x < f y
       ·have hgt:decide (f x < f y)=true:=decide_eq_true h9
        go_upto_region 8 with fail
        obtain ⟨x0,x1,x2,x3,x4,x5,x6,x7,x8,x9,x10,x11⟩:=HTr.out.1.tabG
        refine wp_region_quiet_below (by kernel_rfl) (by kernel_rfl) ?_
        repeat (go_big_quiet_step ((go_at_call 82;with_reducible exact quiet_t HCy.out)))
        refine wpQuiet_nil ?_
        rintro _ ⟨⟨dq,osq⟩,rfl⟩
        have b7:=below_regrown wr dq osq
        clear x0 x1 x2 x3 x4 x5 x6 x7 x8 x9 x10 x11 ep eq HCy HTr
        have HO7:=Lib.hid (own_later HO6.out b7)
        have HB7:=Lib.hid (below_then HB6.out (Nat.le_refl _) b7)
        generalize Go.Sort.grow (redrawn wr dq) osq=w7 at *
        clear HO6 HB6 b7
        have hle:=HI.out.le
        have hol:=HI.out.len
        have hcp:=(HO7.out.cellAt p (by omega)).trans (by rw [List.getElem?_map,HY.out];rfl:(o.map (Value.int .i64))[p]?=some (.int .i64 y))
        have hcq:=(HO7.out.cellAt (p + 1) (by omega)).trans (by rw [List.getElem?_map,HI.out.m];rfl:(o.map (Value.int .i64))[p + 1]?=some (.int .i64 x))
        have fp:=HO7.out.frozenAt p
        have fq:=HO7.out.frozenAt (p + 1)
        have k5:(0:Int) ≤ ((p + 1:Nat):Int):=by omega
        have k6:((p + 1:Nat):Int) < (xs.length:Int):=by omega
        clear hle hol
        go_wp2_with fail
        go_region
        clear hcp hcq fp fq
        have HO8:Hid (((w7.setCell ⟨gb,p + 1,none⟩ (.int .i64 y)).setCell ⟨gb,p,none⟩ (.int .i64 x)).drew.ownsRow w1.heap.size 3 1 (.slice (some ⟨gb,0,none⟩) xs.length c5) xs.length ((swapL o p y x).map (Value.int .i64))):=by
         have h:=((HO7.out.stored (p + 1) (.int .i64 y)).1.stored p (.int .i64 x)).1
         rw [← List.map_set,← List.map_set] at h
         exact Lib.hid h.drew
        have HB8:Hid (Below w1.heap.size w1 ((w7.setCell ⟨gb,p + 1,none⟩ (.int .i64 y)).setCell ⟨gb,p,none⟩ (.int .i64 x)).drew):=Lib.hid (((HB7.out.setCell (p:=⟨gb,p + 1,none⟩) hgb _).setCell (p:=⟨gb,p,none⟩) hgb _).drew)
        have HN:=Lib.hid (HI.out.step HY.out hpos h9)
        generalize ((w7.setCell ⟨gb,p + 1,none⟩ (.int .i64 y)).setCell ⟨gb,p,none⟩ (.int .i64 x)).drew=w8 at *
        go_wp2_with fail
        go_roundw
        case rel => exact ⟨p,swapL o p y x,rfl,HN,HO8,HB8⟩
        case measure => simp [intOf]
       ·have hgt:decide (f x < f y)=false:=decide_eq_false h9
        have HN:=Lib.hid (HI.out.stop (fun p' y' h hy' hlt' => by
         obtain rfl:p'=p:=by omega
         rw [HY.out] at hy';cases hy';exact h9 hlt'))
        have HL:=Lib.hid (And.intro HI.out.len HI.out.can)
        clear h9
        go_upto_region 8 with fail
        obtain ⟨x0,x1,x2,x3,x4,x5,x6,x7,x8,x9,x10,x11⟩:=HTr.out.1.tabG
        refine wp_region_quiet_below (by kernel_rfl) (by kernel_rfl) ?_
        repeat (go_big_quiet_step ((go_at_call 82;with_reducible exact quiet_t HCy.out)))
        refine wpQuiet_nil ?_
        rintro _ ⟨⟨dq,osq⟩,rfl⟩
        have b7:=below_regrown wr dq osq
        clear x0 x1 x2 x3 x4 x5 x6 x7 x8 x9 x10 x11 ep eq HCy HTr
        have HO7:=Lib.hid (own_later HO6.out b7)
        have HB7:=Lib.hid (below_then HB6.out (Nat.le_refl _) b7)
        generalize Go.Sort.grow (redrawn wr dq) osq=w7 at *
        go_wp2_with fail
        go_roundw
        case rel => exact ⟨k + 1,o,by omega,by go_num,Lib.hid ⟨HL.out.1,HL.out.2,HN.out⟩,HO7,HB7⟩
        case measure => simp [intOf];omega
  ·have HD:=Lib.hid (sorted_done HS.out.1 HS.out.2.1 (by omega) HS.out.2.2)
   go_wp2_with fail
   go_ret
   refine ⟨_,rfl,?_,?_⟩
   ·rw [can_length,← HD.out]
    exact row_le HOr.out HB0.out.size
   ·exact HB0.out.trans (HBr.out.mono HB0.out.size)
theorem sort_any (t:Tv) (T:Tab) (v:Value) (xs:List Int) (w:World) (ht:TabR w w.heap.size t T) (hck:T.check=0) (hlen:xs.length ≤ 4096) (hv:Ints w w.heap.size .i64 v xs) :
  Calls Tryz.prog 75 #[t.val,v] w (RetRow w (can T.classOf xs)):=sort_big t T v xs w ht hck (by omega) hv
end Go.Proofs.YtjafpikjpipbkaaGreatDoor
namespace Go.Proofs.YtjafpikjpipbkaaGreatDoor
open Go.RowKit ND
def ordL (T:Tab) (xs:List Int):List Int:=if accE T xs=0 then can T.classOf xs else []
theorem ordL_ok {T:Tab} {xs:List Int} (h:accE T xs=0):ordL T xs=can T.classOf xs:=by unfold ordL;rw [if_pos h]
theorem ordL_bad {T:Tab} {xs:List Int} (h:accE T xs ≠ 0):ordL T xs=[]:=by unfold ordL;rw [if_neg h]
def RetTwo (w:World) (ys:List Int) (n:Int) (e:Ending) (w':World):Prop:=∃ v,e=.returned (.tuple #[v,.int .i64 n]) ∧ w'.ownsRow w.heap.size 3 1 v ys.length (ys.map (Value.int .i64)) ∧ Below w.heap.size w w'
theorem order_any (t:Tv) (T:Tab) (v:Value) (xs:List Int) (w:World) (ht:TabR w w.heap.size t T) (hg:Glob w) (hv:Ints w w.heap.size .i64 v xs) :
  Calls Tryz.prog 37 #[t.val,v] w (RetTwo w (ordL T xs) (accE T xs)):=by
 obtain ⟨A,c,rfl,_⟩:=id hv
 have HB0:Hid (Below w.heap.size w (w.alloc (.cells t.cells 26))):=Lib.hid ((Below.refl _ _).alloc (Nat.le_refl _) _)
 have HT:Hid (Tbl (w.alloc (.cells t.cells 26)) w.heap.size t T):=Lib.hid ⟨Blk.new _ _ _,ht.later HB0.out⟩
 have HV:=Lib.hid (hv.later HB0.out)
 have HCK:=Lib.hid (ocheck_any t T _ xs _ HT.out.2 (hg.later HB0.out) HV.out)
 clear hv ht hg
 by_cases h0:accE T xs=0
 ·have HE:=Lib.hid (ordL_ok h0)
  obtain ⟨a1,a2,_⟩:=accE_zero h0
  have HS:=Lib.hid (fun W (h:Below (w.alloc (.cells t.cells 26)).heap.size (w.alloc (.cells t.cells 26)) W) => sort_any t T _ xs W (HT.out.later h).2 a1 a2 (HV.out.later h))
  rw [h0] at HCK ⊢
  clear h0 a1 a2
  go_enter Tryz.func37,Tryz.ntmps37
  go_upto_region 1 with fail
  generalize w.alloc (.cells t.cells 26)=w1 at *
  have HTB:=HT.out.1.tab
  obtain ⟨x0,x1,x2,x3,x4,x5,x6,x7,x8,x9,x10,x11⟩:=HTB
  go_upto_region 2 with (go_at_call 74;refine HCK.out.mono ?_;rintro e w2 ⟨rfl,b2⟩)
  clear x0 x1 x2 x3 x4 x5 x6 x7 x8 x9 x10 x11
  have HTB:=(HT.out.later b2).1.tab
  obtain ⟨x0,x1,x2,x3,x4,x5,x6,x7,x8,x9,x10,x11⟩:=HTB
  go_wp2_with (go_at_call 75;refine (HS.out _ b2).mono ?_;rintro e w3 ⟨u,rfl,ho3,b3⟩)
  go_ret2
  rw [HE.out]
  exact ⟨u,rfl,row_le ho3 (by have:=HB0.out.size;have:=b2.size;omega),below_next (below_next HB0.out b2) b3⟩
 ·have HE:=Lib.hid (ordL_bad h0)
  have hb:(accE T xs != 0)=true:=by simpa using h0
  clear h0
  go_enter Tryz.func37,Tryz.ntmps37
  go_upto_region 1 with fail
  generalize w.alloc (.cells t.cells 26)=w1 at *
  have HTB:=HT.out.1.tab
  obtain ⟨x0,x1,x2,x3,x4,x5,x6,x7,x8,x9,x10,x11⟩:=HTB
  go_wp2_with (go_at_call 74;refine HCK.out.mono ?_;rintro e w2 ⟨rfl,b2⟩)
  go_ret2
  rw [HE.out]
  exact ⟨_,rfl,World.ownsRow_nil _ _ _ _,below_next HB0.out b2⟩
end Go.Proofs.YtjafpikjpipbkaaGreatDoor
namespace Go.Proofs.YtjafpikjpipbkaaGreatDoor
open Go.RowKit
def pick (v n:Int):Int:=v % 18446744073709551616 % n
theorem pick_in (v:Int) {n:Int} (h:0 < n):0 ≤ pick v n ∧ pick v n < n:=⟨Int.emod_nonneg _ (by omega),Int.emod_lt_of_pos _ h⟩
theorem pick_eq {v n:Int} (h0:0 < n) (h1:n < 9223372036854775808):wrap64 ((IntKind.u64.wrap v).tmod n)=pick v n:=by
 have hp:=pick_in v h0
 have e:(IntKind.u64.wrap v).tmod n=pick v n:=by
  rw [IntKind.wrap_u64,Int.tmod_eq_emod_of_nonneg (by omega)];rfl
 rw [e,IntWalk.wrap64_in _ ⟨by omega,by omega⟩]
theorem pick_any (a b:Int) (w:World) (h0:0 < b) (h1:b < 9223372036854775808) :
  Calls Tryz.prog 45 #[.int .i64 a,.int .i64 b] w fun e w' => e=.returned (.int .i64 (pick a b)) ∧ w=w':=by
 have HP:=Lib.hid (pick_eq (v:=a) h0 h1)
 go_enter Tryz.func45,Tryz.ntmps45
 go_wp2
 go_ret
 refine ⟨?_,rfl⟩
 show Ending.returned (.int .i64 (wrap64 ((IntKind.u64.wrap a).tmod b)))=_
 rw [HP.out]
end Go.Proofs.YtjafpikjpipbkaaGreatDoor
namespace Go.Proofs.YtjafpikjpipbkaaGreatDoor
open Go.RowKit ND
def Src (w:World) (g:Nat) (v:Value) (n:Nat):Prop:=∃ i:Nat,i ≤ n ∧ Blk w g 96 #[v,.int .i64 i]
def RetNext (w:World) (g:Nat) (v:Value) (n:Nat) (m:Int) (e:Ending) (w':World):Prop :=
 ∃ r:Int,e=.returned (.int .i64 r) ∧ 0 ≤ r ∧ r < m ∧ Src w' g v n ∧ w.grownBy w' (some g)
theorem from_any (A:Option Addr) (n c:Nat) (w:World):Calls Tryz.prog 17 #[.slice A n c] w fun e w' => e=.returned (.pointer (some ⟨w.heap.size,0,none⟩)) ∧ w'=w.alloc (.cells #[.slice A n c,.int .i64 0] 96):=by
 go_enter Tryz.func17,Tryz.ntmps17
 go_wp2_with fail
 go_ret
 exact ⟨rfl,rfl⟩
theorem next_src (w:World) (g:Nat) (v:Value) (xs:List Int) (m:Int) (hv:Ints w g .i64 v xs) (hs:Src w g v xs.length) (h0:0 < m) (h1:m ≤ 1000000) :
  Calls Tryz.prog 18 #[.pointer (some ⟨g,0,none⟩),.int .i64 m] w (RetNext w g v xs.length m):=by
 obtain ⟨i,hi,hb⟩:=hs
 obtain ⟨A,c,rfl,hc1,hc2,_,hcell⟩:=hv
 have HC:=Lib.hid hcell;clear hcell
 have hx:xs.length ≤ 9223372036854775807:=by unfold maxLen at hc2;omega
 have c0:w.cell? ⟨g,0,none⟩=some (.slice A xs.length c):=by rw [hb.cell];rfl
 have c1:w.cell? ⟨g,1,none⟩=some (.int .i64 i):=by rw [hb.cell];rfl
 have f1:=hb.free 1
 have HB:=Lib.hid hb;clear hb
 by_cases hlt:i < xs.length
 ·go_enter Tryz.func18,Tryz.ntmps18
  go_wp2_with fail
  go_quiet (fail)
  go_wp2_with fail
  have hb1:Blk ((w.drewN nq).setCell ⟨g,1,none⟩ (.int .i64 (i + 1))) g 96 #[.slice A xs.length c,.int .i64 (i + 1)] :=
   (show Blk (w.drewN nq) g 96 #[.slice A xs.length c,.int .i64 i] from HB.out).put 1 (.int .i64 (i + 1))
  have hbel1:Below g w ((w.drewN nq).setCell ⟨g,1,none⟩ (.int .i64 (i + 1))):=(below_drewN (Below.refl g w) nq).setCell (p:=⟨g,1,none⟩) (Nat.le_refl _) _
  have hgr1:w.grownBy ((w.drewN nq).setCell ⟨g,1,none⟩ (.int .i64 (i + 1))) (some g):=grown_setCell (grown_drewN (grown_refl w _) nq) _ _
  generalize (w.drewN nq).setCell ⟨g,1,none⟩ (.int .i64 ((i:Int) + 1))=w1 at *
  obtain ⟨x,hxk,_⟩:=get_of hlt
  obtain ⟨ad,rfl,ha,hce⟩:=HC.out i x hxk
  have e1:=(hbel1.cell (p:=ad.add i) (by rw [block_of_add];exact ha)).trans hce
  have d0:w1.cell? ⟨g,0,none⟩=some (.slice (some ad) xs.length c):=by rw [hb1.cell];rfl
  have d1:w1.cell? ⟨g,1,none⟩=some (.int .i64 (i + 1)):=by rw [hb1.cell];rfl
  have hw:IntKind.i64.wrap ((i:Int) + 1 - 1)=i:=by rw [IntWalk.i64_in _ (by omega)];omega
  have k0:(0:Int) ≤ (i:Int):=by omega
  have k1:(i:Int) < (xs.length:Int):=by omega
  have HB1:=Lib.hid hb1;clear hb1 HB hce hxk
  have hpk:=pick_in x h0
  go_quiet ((go_at_call 45;exact quiet_left (pick_any _ _ _ h0 (by omega))))
  rename_i nq2
  go_wp2_with fail
  go_ret
  exact ⟨_,rfl,hpk.1,hpk.2,⟨i + 1,by omega,HB1.out⟩,grown_drewN hgr1 _⟩
 ·go_enter Tryz.func18,Tryz.ntmps18
  go_wp2_with fail
  go_quiet (fail)
  go_wp2_with fail
  go_ret
  exact ⟨0,rfl,by omega,h0,⟨i,hi,HB.out⟩,grown_drewN (grown_refl w _) nq⟩
end Go.Proofs.YtjafpikjpipbkaaGreatDoor
namespace Go.Proofs.YtjafpikjpipbkaaGreatDoor
open Go.RowKit ND
def veil (S:List Nat) (w:World):World:={ w with heap:=w.heap.mapIdx fun i o => if i ∈ S then .cells #[] 0 (0,0) else o }
theorem veil_size (S:List Nat) (w:World):(veil S w).heap.size=w.heap.size:=by simp [veil]
theorem veil_at (S:List Nat) (w:World) (k:Nat) (h:k ∉ S):(veil S w).heap[k]?=w.heap[k]?:=by
 simp [veil,Array.getElem?_mapIdx,h]
theorem veil_in (S:List Nat) (w:World) (k:Nat) (h:k ∈ S) (hk:k < w.heap.size):(veil S w).heap[k]?=some (.cells #[] 0 (0,0)):=by
 simp [veil,h,hk]
theorem veil_cell {S:List Nat} {w:World} {p:Addr} {v:Value} (h:(veil S w).cell? p=some v):w.cell? p=some v:=by
 by_cases hp:p.block ∈ S
 ·exfalso
  have hlt:=World.block_lt_of_cell? _ _ h
  rw [veil_size] at hlt
  have:=veil_in S w p.block hp hlt
  unfold World.cell? at h
  rw [this] at h
  simp at h
 ·have e:=veil_at S w p.block hp
  unfold World.cell? at h ⊢
  rw [e] at h
  exact h
def onlyIn (S:List Nat) (w w':World):Prop:=w'.os=w.os ∧ w'.tape=w.tape ∧ w'.output=w.output ∧ w.heap.size ≤ w'.heap.size ∧ ∀ k,k ∉ S → k < w.heap.size → w'.heap[k]?=w.heap[k]?
theorem onlyIn.refl (S:List Nat) (w:World):onlyIn S w w:=⟨rfl,rfl,rfl,Nat.le_refl _,fun _ _ _ => rfl⟩
theorem onlyIn.trans {S:List Nat} {a b c:World} (h:onlyIn S a b) (k:onlyIn S b c):onlyIn S a c :=
 ⟨k.1.trans h.1,k.2.1.trans h.2.1,k.2.2.1.trans h.2.2.1,Nat.le_trans h.2.2.2.1 k.2.2.2.1,fun i hi hl => (k.2.2.2.2 i hi (Nat.lt_of_lt_of_le hl h.2.2.2.1)).trans (h.2.2.2.2 i hi hl)⟩
theorem onlyIn.of_below {S:List Nat} {w w':World} (h:Below w.heap.size w w'):onlyIn S w w':=⟨h.os,h.tape,h.output,h.size,fun k _ hk => h.block k hk⟩
theorem onlyIn.of_grown {S:List Nat} {w w':World} {g:Nat} (h:w.grownBy w' (some g)) (hg:g ∈ S):onlyIn S w w' :=
 ⟨h.os,h.tape,h.output,h.size,fun k hk hl => h.block k hl (fun e => hk (by cases e;exact hg))⟩
theorem onlyIn.of_own {S:List Nat} {w w':World} {v:Value} (h:w.grownBy w' v.ownBlock) (hg:∀ g,v.ownBlock=some g → g ∈ S):onlyIn S w w' :=
 ⟨h.os,h.tape,h.output,h.size,fun k hk hl => h.block k hl (fun e => hk (hg k e.symm))⟩
theorem onlyIn.more {S S':List Nat} {w w':World} (h:onlyIn S w w') (hs:∀ x ∈ S,x ∈ S'):onlyIn S' w w':=⟨h.1,h.2.1,h.2.2.1,h.2.2.2.1,fun k hk hl => h.2.2.2.2 k (fun hx => hk (hs k hx)) hl⟩
theorem onlyIn.below {S:List Nat} {w w':World} {B:Nat} (h:onlyIn S w w') (hB:∀ x ∈ S,B ≤ x) (hs:B ≤ w.heap.size):Below B w w' :=
 ⟨h.1,h.2.1,h.2.2.1,h.2.2.2.1,fun k hk => h.2.2.2.2 k (fun hx => by have:=hB k hx;omega) (Nat.lt_of_lt_of_le hk hs)⟩
theorem onlyIn.veiled {S:List Nat} {w w':World} (h:onlyIn S w w'):Below (veil S w).heap.size (veil S w) (veil S w'):=by
 refine ⟨h.1,h.2.1,h.2.2.1,by rw [veil_size,veil_size];exact h.2.2.2.1,fun k hk => ?_⟩
 rw [veil_size] at hk
 by_cases hx:k ∈ S
 ·rw [veil_in S w k hx hk,veil_in S w' k hx (Nat.lt_of_lt_of_le hk h.2.2.2.1)]
 ·rw [veil_at S w k hx,veil_at S w' k hx];exact h.2.2.2.2 k hx hk
theorem onlyIn.blk {S:List Nat} {w w':World} {g:Nat} {t:TypeId} {cs:Array Value} (h:onlyIn S w w') (hb:Blk w g t cs) (hg:g ∉ S):Blk w' g t cs:=(h.2.2.2.2 g hg hb.lt).trans hb
section
variable {S:List Nat} {w:World} {B:Nat}
theorem Ints.unveil {k:IntKind} {v:Value} {xs:List Int} (h:Ints (veil S w) B k v xs):Ints w B k v xs:=by
 obtain ⟨A,c,hv,h1,h2,h3,h4⟩:=h
 refine ⟨A,c,hv,h1,h2,h3,fun i x hi => ?_⟩
 obtain ⟨ad,e,hb,hc⟩:=h4 i x hi
 exact ⟨ad,e,hb,veil_cell hc⟩
theorem Spans.unveil {v:Value} {xs:List (Int × Int × Int)} (h:Spans (veil S w) B v xs):Spans w B v xs:=by
 obtain ⟨A,c,hv,h1,h2,h3,h4⟩:=h
 refine ⟨A,c,hv,h1,h2,h3,fun i x hi => ?_⟩
 obtain ⟨ad,e,hb,c0,c1,c2⟩:=h4 i x hi
 exact ⟨ad,e,hb,veil_cell c0,veil_cell c1,veil_cell c2⟩
theorem Mapps.unveil {v:Value} {xs:List Mp} (h:Mapps (veil S w) B v xs):Mapps w B v xs:=by
 obtain ⟨A,c,hv,h1,h2,h3,h4⟩:=h
 refine ⟨A,c,hv,h1,h2,h3,fun i x hi => ?_⟩
 obtain ⟨ad,sv,e,hb,c0,c1,hi'⟩:=h4 i x hi
 exact ⟨ad,sv,e,hb,veil_cell c0,veil_cell c1,hi'.unveil⟩
theorem TabR.unveil {t:Tv} {T:Tab} (h:TabR (veil S w) B t T):TabR w B t T :=
 ⟨h.r0.unveil,h.r1.unveil,h.r2.unveil,h.r3.unveil,h.r4.unveil,h.r5.unveil,h.r6.unveil,h.r7.unveil,h.r8.unveil,h.r9.unveil,h.r10.unveil,h.r11.unveil⟩
theorem cell_veil {p:Addr} (hp:p.block ∉ S):(veil S w).cell? p=w.cell? p:=by
 have e:=veil_at S w p.block hp
 unfold World.cell?
 rw [e]
theorem Spans.veil_own {base:Nat} {e:TypeId} {v:Value} {xs:List (Int × Int × Int)} (h:w.ownsRow base e 3 v xs.length (xs.flatMap spCells)) (hS:∀ x ∈ S,x < base):Spans (veil S w) (veil S w).heap.size v xs:=by
 have h1:=Spans.of_own h
 obtain ⟨A,c,hv,h1,h2,h3,h4⟩:=h1
 refine ⟨A,c,hv,h1,h2,h3,fun i x hi => ?_⟩
 obtain ⟨ad,rfl,hb,c0,c1,c2⟩:=h4 i x hi
 have hob:base ≤ ad.block:=by
  have hlt:=h.lt ad.block
  rcases h.2 with ⟨hv',_⟩ | ⟨g,cap,cur,hv',hbg,_⟩
  ·rw [hv] at hv';cases hv'
  ·rw [hv] at hv';cases hv';exact hbg
 have hn:ad.block ∉ S:=fun hx => by have:=hS _ hx;omega
 refine ⟨ad,rfl,by rw [veil_size];exact hb,?_,?_,?_⟩
 ·rw [cell_veil (by rw [block_of_add];exact hn)];exact c0
 ·rw [cell_veil (by rw [block_of_add];exact hn)];exact c1
 ·rw [cell_veil (by rw [block_of_add];exact hn)];exact c2
end
end Go.Proofs.YtjafpikjpipbkaaGreatDoor
