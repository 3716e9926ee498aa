/-
  Merged texts: lemmas and walks that the last text of this claim leans on.
-/
import Derived.Test.YtjafpikjpipbkaaGreatDoorMgTS9
import Derived.Test.YtjafpikjpipbkaaGreatDoorMgTS4
import Derived.Test.YtjafpikjpipbkaaGreatDoorMgTS1
import Derived.Test.YtjafpikjpipbkaaGreatDoorMgTS10
import Derived.Test.YtjafpikjpipbkaaGreatDoorMgTS5
set_option maxRecDepth 100000
set_option maxHeartbeats 40000000
namespace Go.Proofs.YtjafpikjpipbkaaGreatDoor
open Go.RowKit ND
def bmask (T:Tab) (l:List Int):Nat:=l.foldl (fun s c => s ||| 2 ^ (T.bidiOf c).toNat) 0
def anyB (T:Tab) (l ks:List Int):Bool:=l.any fun c => ks.any fun k => T.bidiOf c == k
def lastB (T:Tab) (l:List Int):Int:=l.foldl (fun k c => if T.bidiOf c=10 then k else T.bidiOf c) (-1)
def lastM (T:Tab) (l:List Int):Nat:=if lastB T l < 0 then 0 else 2 ^ (lastB T l).toNat
def inB (k:Int) (ks:List Int):Bool:=ks.any fun x => k == x
def ruleL (T:Tab) (l:List Int):Int :=
 match l with
 | [] => 0
 | c :: _ =>
   if T.bidiOf c=1 ∨ T.bidiOf c=2 then (if anyB T l [0,11]=true then 2 else if inB (lastB T l) [1,2,4,3]=false then 3 else if anyB T l [4]=true ∧ anyB T l [3]=true then 4 else 0)
   else if T.bidiOf c=0 then (if anyB T l [1,2,3,11]=true then 5 else if inB (lastB T l) [0,4]=false then 6 else 0)
   else 1
theorem and_or_nat (a b o:Nat):(a ||| b) &&& o=(a &&& o) ||| (b &&& o):=by
 apply Nat.eq_of_testBit_eq;intro i
 simp [Bool.and_or_distrib_right]
theorem or_zero_nat {a b:Nat}:a ||| b=0 ↔ a=0 ∧ b=0:=by
 constructor
 ·intro h
  have hb:∀ i,(a ||| b).testBit i=false:=fun i => by rw [h];simp
  exact ⟨Nat.eq_of_testBit_eq fun i => by have:=hb i;simp at this;simp [this.1],Nat.eq_of_testBit_eq fun i => by have:=hb i;simp at this;simp [this.2]⟩
 ·rintro ⟨rfl,rfl⟩;rfl
theorem mask_and (T:Tab) (o:Nat):∀ (l:List Int) (s:Nat),(l.foldl (fun s c => s ||| 2 ^ (T.bidiOf c).toNat) s) &&& o ≠ 0 ↔ s &&& o ≠ 0 ∨ ∃ c ∈ l,2 ^ (T.bidiOf c).toNat &&& o ≠ 0:=by
 intro l
 induction l with
 | nil => intro s;simp
 | cons a r ih =>
   intro s
   rw [List.foldl_cons,ih,and_or_nat,ne_eq,or_zero_nat];simp only [List.mem_cons,exists_eq_or_imp]
   constructor
   ·rintro (h | h)
    ·by_cases h1:s &&& o=0
     ·exact .inr (.inl fun h2 => h ⟨h1,h2⟩)
     ·exact .inl h1
    ·exact .inr (.inr h)
   ·rintro (h | h | h)
    ·exact .inl fun h2 => h h2.1
    ·exact .inl fun h2 => h h2.2
    ·exact .inr h
theorem mask_lt (T:Tab) (hT:∀ c,0 ≤ T.bidiOf c ∧ T.bidiOf c ≤ 11):∀ (l:List Int) (s:Nat),s < 4096 → l.foldl (fun s c => s ||| 2 ^ (T.bidiOf c).toNat) s < 4096:=by
 intro l
 induction l with
 | nil => intro s h;exact h
 | cons a r ih =>
   intro s h
   rw [List.foldl_cons]
   refine ih _ (Nat.or_lt_two_pow (n:=12) h ?_)
   exact Nat.pow_lt_pow_right (by decide) (by have:=hT a;omega)
theorem bmask_lt {T:Tab} (hT:∀ c,0 ≤ T.bidiOf c ∧ T.bidiOf c ≤ 11) (l:List Int):bmask T l < 4096:=mask_lt T hT l 0 (by decide)
theorem bmask_snoc (T:Tab) (l:List Int) (c:Int):bmask T (l ++ [c])=bmask T l ||| 2 ^ (T.bidiOf c).toNat:=by unfold bmask;rw [List.foldl_append];rfl
def inSet (o:Nat) (ks:List Int):Prop:=∀ k:Int,0 ≤ k → k ≤ 11 → (2 ^ k.toNat &&& o ≠ 0 ↔ inB k ks=true)
theorem inSet_of {o:Nat} {ks:List Int} (h:∀ k:Fin 12,(2 ^ k.val &&& o ≠ 0)=(inB (k.val:Int) ks=true)):inSet o ks:=fun k h0 h1 => by
 have:=h ⟨k.toNat,by omega⟩
 simp only at this
 rw [this,show ((k.toNat:Nat):Int)=k by omega]
theorem set_notRTL:inSet 2049 [0,11]:=inSet_of (by decide)
theorem set_rtl:inSet 6 [1,2]:=inSet_of (by decide)
theorem set_strong:inSet 14 [1,2,3]:=inSet_of (by decide)
theorem set_notLTR:inSet 2062 [1,2,3,11]:=inSet_of (by decide)
theorem set_closeRTL:inSet 30 [1,2,4,3]:=inSet_of (by decide)
theorem set_closeLTR:inSet 17 [0,4]:=inSet_of (by decide)
theorem set_EN:inSet 16 [4]:=inSet_of (by decide)
theorem set_AN:inSet 8 [3]:=inSet_of (by decide)
theorem set_L:inSet 1 [0]:=inSet_of (by decide)
theorem meets_mask {T:Tab} (hT:∀ c,0 ≤ T.bidiOf c ∧ T.bidiOf c ≤ 11) {o:Nat} {ks:List Int} (hs:inSet o ks) (l:List Int):((bmask T l &&& o) != 0)=anyB T l ks:=by
 rw [Bool.eq_iff_iff,bne_iff_ne]
 unfold bmask
 rw [mask_and]
 unfold anyB
 rw [List.any_eq_true]
 constructor
 ·rintro (h | ⟨c,hc,h⟩)
  ·simp at h
  ·exact ⟨c,hc,(hs _ (hT c).1 (hT c).2).1 h⟩
 ·rintro ⟨c,hc,h⟩
  exact .inr ⟨c,hc,(hs _ (hT c).1 (hT c).2).2 h⟩
theorem meets_one {o:Nat} {ks:List Int} (hs:inSet o ks) {k:Int} (h0:0 ≤ k) (h1:k ≤ 11):((2 ^ k.toNat &&& o) != 0)=inB k ks:=by
 rw [Bool.eq_iff_iff,bne_iff_ne];exact hs k h0 h1
theorem last_snoc (T:Tab) (l:List Int) (c:Int):lastB T (l ++ [c])=if T.bidiOf c=10 then lastB T l else T.bidiOf c:=by unfold lastB;rw [List.foldl_append];rfl
theorem last_range {T:Tab} (hT:∀ c,0 ≤ T.bidiOf c ∧ T.bidiOf c ≤ 11) (l:List Int):-1 ≤ lastB T l ∧ lastB T l ≤ 11:=by
 have key:∀ (l:List Int) (k:Int),-1 ≤ k → k ≤ 11 → -1 ≤ l.foldl (fun k c => if T.bidiOf c=10 then k else T.bidiOf c) k ∧ l.foldl (fun k c => if T.bidiOf c=10 then k else T.bidiOf c) k ≤ 11:=by
  intro l
  induction l with
  | nil => intro k h0 h1;exact ⟨h0,h1⟩
  | cons a r ih =>
    intro k h0 h1
    rw [List.foldl_cons]
    have:=hT a
    split
    ·exact ih _ h0 h1
    ·exact ih _ (by omega) (by omega)
 exact key l (-1) (by omega) (by omega)
theorem lastM_lt {T:Tab} (hT:∀ c,0 ≤ T.bidiOf c ∧ T.bidiOf c ≤ 11) (l:List Int):lastM T l < 4096:=by
 unfold lastM
 have:=last_range hT l
 split
 ·omega
 ·exact Nat.pow_lt_pow_right (a:=2) (n:=12) (by decide) (by omega)
theorem meets_last {T:Tab} (hT:∀ c,0 ≤ T.bidiOf c ∧ T.bidiOf c ≤ 11) {o:Nat} {ks:List Int} (hs:inSet o ks) (hk:inB (-1) ks=false) (l:List Int):((lastM T l &&& o) != 0)=inB (lastB T l) ks:=by
 unfold lastM
 have:=last_range hT l
 split
 ·rw [show lastB T l=-1 by omega,hk];simp
 ·exact meets_one hs (by omega) (by omega)
theorem inB_iff {k:Int} {ks:List Int}:inB k ks=true ↔ k ∈ ks:=by unfold inB;simp
theorem bidi_range {T:Tab} (h:T.check=0) (c:Int):0 ≤ T.bidiOf c ∧ T.bidiOf c ≤ 11:=by
 unfold Tab.bidiOf propL
 split
 ·omega
 ·split
  ·unfold fixC
   repeat' split
   all_goals simp
  ·rcases valueL_mem T.bidi c with h0 | ⟨s,hs,he⟩
   ·omega
   ·have:=vals_in h (l:=T.bidi) (a:=0) (b:=11) (by simp [Tab.cols]) s hs
    omega
def rulesGo (T:Tab):Nat → List (List Int) → Int × Int
 | _,[] => (0,0)
 | i,l :: r => if ruleL T l ≠ 0 then ((i:Int),19) else rulesGo T (i + 1) r
end Go.Proofs.YtjafpikjpipbkaaGreatDoor
namespace Go.Proofs.YtjafpikjpipbkaaGreatDoor
open Go.RowKit ND
theorem ownBidi (W:World) (q:Int × Int × Int × Int):Calls Tryz.prog 150 #[fixV q] W fun e W' => e=.returned (.int .i64 (q.2.1)) ∧ Below W.heap.size W W':=by
 unfold fixV
 go_enter Tryz.func150,Tryz.ntmps150
 go_wp2_with fail
 go_ret
 exact ⟨rfl,(Below.refl _ _).alloc (Nat.le_refl _) _⟩
theorem bidi_any (t:Tv) (T:Tab) (c lo hi:Int) (w:World) (ht:TabR w w.heap.size t T) (hs:okS lo hi (-1) T.bidi=true) (hlen:T.bidi.length ≤ 256) :
  Calls Tryz.prog 113 #[t.val,.int .i64 c] w fun e w' => e=.returned (.int .i64 (T.bidiOf c)) ∧ Below w.heap.size w w':=by
 have HP:=Lib.hid (fun W (h:Spans W W.heap.size t.c3 T.bidi) => pick_prop 150 (fun q => q.2.1) t.c3 T.bidi c lo hi W (enters_of Tryz.func150 (by kernel_rfl) rfl) ownBidi h hs hlen)
 have hr:=ht.r3
 have HR:=Lib.hid (fun o:Obj => hr.later ((Below.refl _ _).alloc (Nat.le_refl _) o))
 clear hr ht hs hlen
 go_enter Tryz.func113,Tryz.ntmps113
 go_wp2_with fail
 refine (HP.out _ (HR.out _)).mono ?_
 rintro e w1 ⟨rfl,b1⟩
 go_wp2_with fail
 go_ret
 exact ⟨rfl,below_next ((Below.refl _ _).alloc (Nat.le_refl _) _) b1⟩
end Go.Proofs.YtjafpikjpipbkaaGreatDoor
namespace Go.Proofs.YtjafpikjpipbkaaGreatDoor
open Go.RowKit
theorem below_w {a b c:World} {B:Nat} (h:Below a.heap.size a b) (k:Below b.heap.size b c) (hB:B=a.heap.size:=by first | rfl | omega):Below B a c:=hB ▸ below_next h k
end Go.Proofs.YtjafpikjpipbkaaGreatDoor
namespace Go.Proofs.YtjafpikjpipbkaaGreatDoor
open Go.RowKit ND
theorem ofInt64 (a:Nat) (ha:a < 9223372036854775808):(BitVec.ofInt 64 (a:Int)).toNat=a:=by
 rw [BitVec.ofInt_natCast,BitVec.toNat_ofNat];exact Nat.mod_eq_of_lt (by omega)
theorem and_i64 (a b:Nat) (ha:a < 4096) (hb:b < 4096):bits .and .i64 (a:Int) (b:Int)=((a &&& b:Nat):Int):=by
 have hx:a &&& b < 2 ^ 63:=Nat.and_lt_two_pow _ (by omega)
 show IntKind.i64.wrap ((BitVec.ofInt 64 (a:Int) &&& BitVec.ofInt 64 (b:Int)).toNat:Int)=_
 rw [BitVec.toNat_and,ofInt64 a (by omega),ofInt64 b (by omega),IntKind.wrap_i64]
 omega
theorem or_i64 (a b:Nat) (ha:a < 4096) (hb:b < 4096):bits .or .i64 (a:Int) (b:Int)=((a ||| b:Nat):Int):=by
 have hx:a ||| b < 2 ^ 63:=Nat.or_lt_two_pow (by omega) (by omega)
 show IntKind.i64.wrap ((BitVec.ofInt 64 (a:Int) ||| BitVec.ofInt 64 (b:Int)).toNat:Int)=_
 rw [BitVec.toNat_or,ofInt64 a (by omega),ofInt64 b (by omega),IntKind.wrap_i64]
 omega
theorem of_any (k:Int) (w:World) (h0:0 ≤ k) (h1:k ≤ 11):Calls Tryz.prog 112 #[.int .i64 k] w fun e w' => e=.returned (.int .i64 ((2 ^ k.toNat:Nat):Int)) ∧ w=w':=by
 rcases (by omega:k=0 ∨ k=1 ∨ k=2 ∨ k=3 ∨ k=4 ∨ k=5 ∨ k=6 ∨ k=7 ∨ k=8 ∨ k=9 ∨ k=10 ∨ k=11) with rfl | rfl | rfl | rfl | rfl | rfl | rfl | rfl | rfl | rfl | rfl | rfl
 all_goals
  clear h0 h1
  go_enter Tryz.func112,Tryz.ntmps112
  go_wp2
  go_ret
  exact ⟨rfl,rfl⟩
theorem meets_any (a b:Int) (m n:Nat) (r:Bool) (w:World) (ha:a=m) (hb:b=n) (hm:m < 4096) (hn:n < 4096) (hr:((m &&& n) != 0)=r):Calls Tryz.prog 111 #[.int .i64 a,.int .i64 b] w fun e w' => e=.returned (.bool r) ∧ w=w':=by
 subst ha hb
 have hx:=and_i64 m n hm hn
 have hy:(((m &&& n:Nat):Int) != 0)=r:=by
  rw [← hr,Bool.eq_iff_iff,bne_iff_ne,bne_iff_ne];omega
 obtain ⟨z,hz⟩:∃ z,bits .and .i64 (m:Int) (n:Int)=z:=⟨_,rfl⟩
 rw [hz] at hx
 subst hx
 clear hr hm hn
 go_enter Tryz.func111,Tryz.ntmps111
 go_wp2
 go_ret
 exact ⟨rfl,rfl⟩
theorem classes_any (t:Tv) (T:Tab) (v:Value) (xs:List Int) (w:World) (ht:TabR w w.heap.size t T) (hck:T.check=0) (hv:Ints w w.heap.size .i64 v xs) :
  Calls Tryz.prog 110 #[t.val,v] w fun e w' => e=.returned (.int .i64 (bmask T xs:Nat)) ∧ Below w.heap.size w w':=by
 obtain ⟨A,c,rfl,_⟩:=id hv
 have HB0:Hid (Below w.heap.size w (w.alloc (.cells t.cells 26))):=Lib.hid ((Below.refl _ _).alloc (Nat.le_refl _) _)
 have HT:Hid (Tbl (w.alloc (.cells t.cells 26)) w.heap.size t T):=Lib.hid ⟨Blk.new _ _ _,ht.later HB0.out⟩
 have HV:=Lib.hid (hv.later HB0.out)
 clear ht hv
 have hsh:=shape_of hck
 have HR:=Lib.hid (fun x => bidi_range hck x)
 have HC:Hid (∀ (b:Nat) (W:World) (x:Int),Tbl W b t T → Calls Tryz.prog 113 #[.agg #[t.c0,t.c1,t.c2,t.c3,t.c4,t.c5,t.c6,t.c7,t.c8,t.c9,t.c10,t.c11],.int .i64 x] W fun e W' => e=.returned (.int .i64 (T.bidiOf x)) ∧ Below W.heap.size W W'):=Lib.hid fun b W x h => bidi_any t T x 0 1114111 W h.2 hsh.c3.1 hsh.c3.2.1
 have hml:xs.length ≤ 9223372036854775807:=by obtain ⟨_,_,_,h1,h2,_⟩:=HV.out;unfold maxLen at h2;omega
 clear hck hsh
 go_enter Tryz.func110,Tryz.ntmps110
 go_upto_region 1 with fail
 generalize w.alloc (.cells t.cells 26)=w1 at *
 obtain ⟨tb,htb⟩:∃ tb,w.heap.size=tb:=⟨_,rfl⟩
 rw [htb] at HT
 simp only [htb]
 go_wp2_with fail
 go_loopw [10,5] (fun si ss wr => ∃ (k:Nat),k ≤ xs.length ∧ si=.int .i64 k ∧ ss=.int .i64 (bmask T (xs.take k):Nat) ∧ Hid (Below w1.heap.size w1 wr)) (fun si _ _ => xs.length - (intOf si).toNat)
 case atStart => exact ⟨0,by omega,rfl,rfl,Lib.hid (Below.refl _ _)⟩
 case round =>
  obtain ⟨k,hk,rfl,rfl,HBr⟩:=hrel
  by_cases hlt:k < xs.length
  ·obtain ⟨x,hxk,_⟩:=get_of hlt
   obtain ⟨_,_,hve,_,_,_,hcell⟩:=HV.out
   cases hve
   obtain ⟨ad,rfl,ha,hce⟩:=hcell k x hxk
   have e1:=(HBr.out.cell (p:=ad.add k) (by rw [block_of_add];exact ha)).trans hce
   have k0:(0:Int) ≤ (k:Int):=by omega
   have k1:(k:Int) < (xs.length:Int):=by omega
   have HTr:=Lib.hid (HT.out.later HBr.out)
   have HCx:=Lib.hid (HC.out tb wr x HTr.out)
   have hr:=HR.out x
   have HOF:=Lib.hid (fun W => of_any (T.bidiOf x) W hr.1 hr.2)
   have HN:Hid (bits .or .i64 (bmask T (xs.take k):Nat) ((2 ^ (T.bidiOf x).toNat:Nat):Int)=((bmask T (xs.take (k + 1)):Nat):Int)):=Lib.hid (by
    rw [or_i64 _ _ (bmask_lt HR.out _) (Nat.pow_lt_pow_right (n:=12) (by decide) (by omega)),← bmask_snoc]
    congr 2
    obtain ⟨h1,e⟩:=List.getElem?_eq_some_iff.1 hxk
    rw [List.take_succ_eq_append_getElem h1,e])
   clear hcell hxk ha hce hr
   generalize ((2 ^ (T.bidiOf x).toNat:Nat):Int)=F at *
   generalize T.bidiOf x=kx at *
   obtain ⟨x0,x1,x2,x3,x4,x5,x6,x7,x8,x9,x10,x11⟩:=HTr.out.1.tab
   go_wp2_with (first
    | (go_at_call 113;refine HCx.out.mono ?_;rintro e w5 ⟨rfl,b5⟩)
    | (go_at_call 112;refine (HOF.out _).mono ?_;rintro e w6 ⟨rfl,rfl⟩))
   go_roundw
   case rel => exact ⟨k + 1,by omega,by go_num,by rw [HN.out],Lib.hid (below_then HBr.out (Nat.le_refl _) b5)⟩
   case measure => simp [intOf];omega
  ·go_wp2_with fail
   go_ret
   exact ⟨ret_int (by rw [List.take_of_length_le (by omega)]),below_w HB0.out HBr.out⟩
theorem lastM_any (t:Tv) (T:Tab) (v:Value) (xs:List Int) (w:World) (ht:TabR w w.heap.size t T) (hck:T.check=0) (hv:Ints w w.heap.size .i64 v xs) :
  Calls Tryz.prog 114 #[t.val,v] w fun e w' => e=.returned (.int .i64 (lastM T xs:Nat)) ∧ Below w.heap.size w w':=by
 obtain ⟨A,c,rfl,_⟩:=id hv
 have HB0:Hid (Below w.heap.size w (w.alloc (.cells t.cells 26))):=Lib.hid ((Below.refl _ _).alloc (Nat.le_refl _) _)
 have HT:Hid (Tbl (w.alloc (.cells t.cells 26)) w.heap.size t T):=Lib.hid ⟨Blk.new _ _ _,ht.later HB0.out⟩
 have HV:=Lib.hid (hv.later HB0.out)
 clear ht hv
 have hsh:=shape_of hck
 have HR:=Lib.hid (fun x => bidi_range hck x)
 have HC:Hid (∀ (b:Nat) (W:World) (x:Int),Tbl W b t T → Calls Tryz.prog 113 #[.agg #[t.c0,t.c1,t.c2,t.c3,t.c4,t.c5,t.c6,t.c7,t.c8,t.c9,t.c10,t.c11],.int .i64 x] W fun e W' => e=.returned (.int .i64 (T.bidiOf x)) ∧ Below W.heap.size W W'):=Lib.hid fun b W x h => bidi_any t T x 0 1114111 W h.2 hsh.c3.1 hsh.c3.2.1
 have hml:xs.length ≤ 9223372036854775807:=by obtain ⟨_,_,_,h1,h2,_⟩:=HV.out;unfold maxLen at h2;omega
 clear hck hsh
 go_enter Tryz.func114,Tryz.ntmps114
 go_upto_region 1 with fail
 generalize w.alloc (.cells t.cells 26)=w1 at *
 obtain ⟨tb,htb⟩:∃ tb,w.heap.size=tb:=⟨_,rfl⟩
 rw [htb] at HT
 simp only [htb]
 go_wp2_with fail
 go_loopw [5] (fun si wr => ∃ (k:Nat),k ≤ xs.length ∧ si=.int .i64 ((k:Int) - 1) ∧ Hid (lastB T (xs.take k)=lastB T xs) ∧ Hid (Below w1.heap.size w1 wr)) (fun si _ => (intOf si + 1).toNat)
 case atStart => exact ⟨xs.length,by omega,rfl,Lib.hid (by rw [List.take_of_length_le (Nat.le_refl _)]),Lib.hid (Below.refl _ _)⟩
 case round =>
  obtain ⟨k,hk,rfl,HS,HBr⟩:=hrel
  cases k with
  | zero =>
    have g:¬ (0:Int) ≤ ((0:Nat):Int) - 1:=by omega
    have HL:Hid (lastM T xs=0):=Lib.hid (by unfold lastM;rw [← HS.out];simp [lastB])
    go_wp2_with fail
    go_ret
    exact ⟨ret_int (by rw [HL.out];rfl),below_w HB0.out HBr.out⟩
  | succ j =>
    have v2:((j + 1:Nat):Int) - 1=(j:Int):=by omega
    rw [v2]
    obtain ⟨x,hxk,_⟩:=get_of (show j < xs.length by omega)
    obtain ⟨_,_,hve,_,_,_,hcell⟩:=HV.out
    cases hve
    obtain ⟨ad,rfl,ha,hce⟩:=hcell j x hxk
    have e1:=cell_regrown ((HBr.out.cell (p:=ad.add j) (by rw [block_of_add];exact ha)).trans hce)
    have k0:(0:Int) ≤ (j:Int):=by omega
    have k1:(j:Int) < (xs.length:Int):=by omega
    have HTr:=Lib.hid (HT.out.later HBr.out)
    have HCx:Hid (∀ V,Below wr.heap.size wr V → Calls Tryz.prog 113 #[.agg #[t.c0,t.c1,t.c2,t.c3,t.c4,t.c5,t.c6,t.c7,t.c8,t.c9,t.c10,t.c11],.int .i64 x] V fun e V' => e=.returned (.int .i64 (T.bidiOf x)) ∧ Below V.heap.size V V'):=Lib.hid fun V hV => HC.out tb V x (HTr.out.later hV)
    have hr:=HR.out x
    have HST:Hid (lastB T xs=if T.bidiOf x=10 then lastB T (xs.take j) else T.bidiOf x):=Lib.hid (by
     rw [← HS.out]
     obtain ⟨h1,e⟩:=List.getElem?_eq_some_iff.1 hxk
     rw [List.take_succ_eq_append_getElem h1,last_snoc,e])
    clear hcell hxk ha hce
    go_upto_region 4 with fail
    obtain ⟨x0,x1,x2,x3,x4,x5,x6,x7,x8,x9,x10,x11⟩:=HTr.out.1.tabG
    refine wp_region_quiet_below (by kernel_rfl) (by kernel_rfl) ?_
    repeat (go_big_quiet_step (first | (go_at_call 113;with_reducible exact quiet_t HCx.out)))
    refine wpQuiet_nil ?_
    rintro _ ⟨⟨dq,osq⟩,rfl⟩
    have bq:=below_regrown wr dq osq
    clear x0 x1 x2 x3 x4 x5 x6 x7 x8 x9 x10 x11 e1 HCx HTr
    have HBq:=Lib.hid (below_then HBr.out (Nat.le_refl _) bq)
    generalize Go.Sort.grow (redrawn wr dq) osq=w5 at *
    clear bq HBr
    by_cases hm:T.bidiOf x=10
    ·have HN:Hid (lastB T (xs.take j)=lastB T xs):=Lib.hid (by rw [HST.out,if_pos hm])
     have g:(T.bidiOf x != 10)=false:=by rw [hm];rfl
     clear hm hr
     generalize T.bidiOf x=kx at *
     go_wp2_with fail
     go_roundw
     case rel => exact ⟨j,by omega,rfl,HN,HBq⟩
     case measure => simp [intOf] <;> omega
    ·have g:(T.bidiOf x != 10)=true:=by simpa using hm
     have HL:Hid (lastM T xs=2 ^ (T.bidiOf x).toNat):=Lib.hid (by unfold lastM;rw [HST.out,if_neg hm,if_neg (show ¬ T.bidiOf x < 0 by omega)])
     have HOF:=Lib.hid (fun W => of_any (T.bidiOf x) W hr.1 hr.2)
     have HLF:Hid ((((2 ^ (T.bidiOf x).toNat:Nat):Int))=((lastM T xs:Nat):Int)):=Lib.hid (by rw [HL.out])
     clear hm hr HL
     generalize ((2 ^ (T.bidiOf x).toNat:Nat):Int)=F at *
     generalize T.bidiOf x=kx at *
     go_wp2_with (go_at_call 112;refine (HOF.out _).mono ?_;rintro e w6 ⟨rfl,rfl⟩)
     go_ret
     exact ⟨ret_int HLF.out,below_w HB0.out HBq.out⟩
end Go.Proofs.YtjafpikjpipbkaaGreatDoor
namespace Go.Proofs.YtjafpikjpipbkaaGreatDoor
open Go.RowKit ND
def ruleB (b1 b2 b3 b4 b5 b6 b7 b8:Bool):Int :=
 if b1=true then (if b2=true then 2 else if b3=false then 3 else if b4=true ∧ b5=true then 4 else 0) else if b6=true then (if b7=true then 5 else if b8=false then 6 else 0) else 1
theorem ruleL_bits (T:Tab) (x:Int) (r:List Int):ruleL T (x :: r)=ruleB (inB (T.bidiOf x) [1,2]) (anyB T (x :: r) [0,11]) (inB (lastB T (x :: r)) [1,2,4,3]) (anyB T (x :: r) [4]) (anyB T (x :: r) [3]) (inB (T.bidiOf x) [0]) (anyB T (x :: r) [1,2,3,11]) (inB (lastB T (x :: r)) [0,4]):=by
 unfold ruleL ruleB
 have h1:(T.bidiOf x=1 ∨ T.bidiOf x=2) ↔ inB (T.bidiOf x) [1,2]=true:=by rw [inB_iff];simp
 have h2:T.bidiOf x=0 ↔ inB (T.bidiOf x) [0]=true:=by rw [inB_iff];simp
 simp only [h1,h2]
theorem rule_any (t:Tv) (T:Tab) (v:Value) (xs:List Int) (w:World) (ht:TabR w w.heap.size t T) (hck:T.check=0) (hv:Ints w w.heap.size .i64 v xs) :
  Calls Tryz.prog 64 #[t.val,v] w fun e w' => e=.returned (.int .i64 (ruleL T xs)) ∧ Below w.heap.size w w':=by
 obtain ⟨A,c,rfl,_⟩:=id hv
 have HB0:Hid (Below w.heap.size w (w.alloc (.cells t.cells 26))):=Lib.hid ((Below.refl _ _).alloc (Nat.le_refl _) _)
 have HT:Hid (Tbl (w.alloc (.cells t.cells 26)) w.heap.size t T):=Lib.hid ⟨Blk.new _ _ _,ht.later HB0.out⟩
 have HV:=Lib.hid (hv.later HB0.out)
 clear ht hv
 cases xs with
 | nil =>
   show Calls _ _ _ _ fun e w' => e=.returned (.int .i64 0) ∧ _
   clear hck
   go_enter Tryz.func64,Tryz.ntmps64
   go_wp2_with fail
   go_ret
   exact ⟨rfl,HB0.out⟩
 | cons x r =>
   rw [ruleL_bits]
   have hsh:=shape_of hck
   have HR:=fun x => bidi_range hck x
   have hr:=HR x
   have hF:2 ^ (T.bidiOf x).toNat < 4096:=Nat.pow_lt_pow_right (a:=2) (n:=12) (by decide) (by omega)
   have hM:=bmask_lt HR (x :: r)
   have hL:=lastM_lt HR (x :: r)
   have HC:Hid (∀ (V:World),Below (w.alloc (.cells t.cells 26)).heap.size (w.alloc (.cells t.cells 26)) V → Calls Tryz.prog 113 #[.agg #[t.c0,t.c1,t.c2,t.c3,t.c4,t.c5,t.c6,t.c7,t.c8,t.c9,t.c10,t.c11],.int .i64 x] V fun e V' => e=.returned (.int .i64 (T.bidiOf x)) ∧ Below V.heap.size V V'):=Lib.hid fun V hV => bidi_any t T x 0 1114111 V (HT.out.later hV).2 hsh.c3.1 hsh.c3.2.1
   have HOX:Hid (∀ (V:World),Below (w.alloc (.cells t.cells 26)).heap.size (w.alloc (.cells t.cells 26)) V → Calls Tryz.prog 112 #[.int .i64 (T.bidiOf x)] V fun e V' => e=.returned (.int .i64 ((2 ^ (T.bidiOf x).toNat:Nat):Int)) ∧ Below V.heap.size V V'):=Lib.hid fun V _ => (of_any _ V hr.1 hr.2).mono fun e w' ⟨he,hw⟩ => ⟨he,hw ▸ Below.refl _ _⟩
   have HCL:Hid (∀ (V:World),Below (w.alloc (.cells t.cells 26)).heap.size (w.alloc (.cells t.cells 26)) V → Calls Tryz.prog 110 #[.agg #[t.c0,t.c1,t.c2,t.c3,t.c4,t.c5,t.c6,t.c7,t.c8,t.c9,t.c10,t.c11],.slice A (x :: r).length c] V fun e V' => e=.returned (.int .i64 (bmask T (x :: r):Nat)) ∧ Below V.heap.size V V'):=Lib.hid fun V hV => classes_any t T _ _ V (HT.out.later hV).2 hck (HV.out.later hV)
   have HLA:Hid (∀ (V:World),Below (w.alloc (.cells t.cells 26)).heap.size (w.alloc (.cells t.cells 26)) V → Calls Tryz.prog 114 #[.agg #[t.c0,t.c1,t.c2,t.c3,t.c4,t.c5,t.c6,t.c7,t.c8,t.c9,t.c10,t.c11],.slice A (x :: r).length c] V fun e V' => e=.returned (.int .i64 (lastM T (x :: r):Nat)) ∧ Below V.heap.size V V'):=Lib.hid fun V hV => lastM_any t T _ _ V (HT.out.later hV).2 hck (HV.out.later hV)
   have HM1:Hid (∀ W,Calls Tryz.prog 111 #[.int .i64 ((2 ^ (T.bidiOf x).toNat):Nat),.int .i64 6] W fun e w' => e=.returned (.bool (inB (T.bidiOf x) [1,2])) ∧ W=w'):=Lib.hid fun W => meets_any _ _ (2 ^ (T.bidiOf x).toNat) 6 _ W rfl rfl hF (by decide) (meets_one set_rtl hr.1 hr.2)
   have HM2:Hid (∀ W,Calls Tryz.prog 111 #[.int .i64 ((bmask T (x :: r)):Nat),.int .i64 2049] W fun e w' => e=.returned (.bool (anyB T (x :: r) [0,11])) ∧ W=w'):=Lib.hid fun W => meets_any _ _ (bmask T (x :: r)) 2049 _ W rfl rfl hM (by decide) (meets_mask HR set_notRTL _)
   have HM3:Hid (∀ W,Calls Tryz.prog 111 #[.int .i64 ((lastM T (x :: r)):Nat),.int .i64 30] W fun e w' => e=.returned (.bool (inB (lastB T (x :: r)) [1,2,4,3])) ∧ W=w'):=Lib.hid fun W => meets_any _ _ (lastM T (x :: r)) 30 _ W rfl rfl hL (by decide) (meets_last HR set_closeRTL rfl _)
   have HM4:Hid (∀ W,Calls Tryz.prog 111 #[.int .i64 ((bmask T (x :: r)):Nat),.int .i64 16] W fun e w' => e=.returned (.bool (anyB T (x :: r) [4])) ∧ W=w'):=Lib.hid fun W => meets_any _ _ (bmask T (x :: r)) 16 _ W rfl rfl hM (by decide) (meets_mask HR set_EN _)
   have HM5:Hid (∀ W,Calls Tryz.prog 111 #[.int .i64 ((bmask T (x :: r)):Nat),.int .i64 8] W fun e w' => e=.returned (.bool (anyB T (x :: r) [3])) ∧ W=w'):=Lib.hid fun W => meets_any _ _ (bmask T (x :: r)) 8 _ W rfl rfl hM (by decide) (meets_mask HR set_AN _)
   have HM6:Hid (∀ W,Calls Tryz.prog 111 #[.int .i64 ((2 ^ (T.bidiOf x).toNat):Nat),.int .i64 1] W fun e w' => e=.returned (.bool (inB (T.bidiOf x) [0])) ∧ W=w'):=Lib.hid fun W => meets_any _ _ (2 ^ (T.bidiOf x).toNat) 1 _ W rfl rfl hF (by decide) (meets_one set_L hr.1 hr.2)
   have HM7:Hid (∀ W,Calls Tryz.prog 111 #[.int .i64 ((bmask T (x :: r)):Nat),.int .i64 2062] W fun e w' => e=.returned (.bool (anyB T (x :: r) [1,2,3,11])) ∧ W=w'):=Lib.hid fun W => meets_any _ _ (bmask T (x :: r)) 2062 _ W rfl rfl hM (by decide) (meets_mask HR set_notLTR _)
   have HM8:Hid (∀ W,Calls Tryz.prog 111 #[.int .i64 ((lastM T (x :: r)):Nat),.int .i64 17] W fun e w' => e=.returned (.bool (inB (lastB T (x :: r)) [0,4])) ∧ W=w'):=Lib.hid fun W => meets_any _ _ (lastM T (x :: r)) 17 _ W rfl rfl hL (by decide) (meets_last HR set_closeLTR rfl _)
   have HO4:Hid (∀ W,Calls Tryz.prog 112 #[.int .i64 4] W fun e w' => e=.returned (.int .i64 16) ∧ W=w'):=Lib.hid fun W => (of_any 4 W (by decide) (by decide)).mono fun e w' ⟨he,hw⟩ => ⟨he.trans rfl,hw⟩
   have HO3:Hid (∀ W,Calls Tryz.prog 112 #[.int .i64 3] W fun e w' => e=.returned (.int .i64 8) ∧ W=w'):=Lib.hid fun W => (of_any 3 W (by decide) (by decide)).mono fun e w' ⟨he,hw⟩ => ⟨he.trans rfl,hw⟩
   have HO0:Hid (∀ W,Calls Tryz.prog 112 #[.int .i64 0] W fun e w' => e=.returned (.int .i64 1) ∧ W=w'):=Lib.hid fun W => (of_any 0 W (by decide) (by decide)).mono fun e w' ⟨he,hw⟩ => ⟨he.trans rfl,hw⟩
   obtain ⟨ad,rfl,ha,hce⟩:∃ ad,A=some ad ∧ ad.block < (w.alloc (.cells t.cells 26)).heap.size ∧ (w.alloc (.cells t.cells 26)).cell? ad=some (.int .i64 x):=by
    obtain ⟨_,_,hve,_,_,_,hcell⟩:=HV.out
    cases hve
    obtain ⟨ad,e,ha,hc⟩:=hcell 0 x rfl
    exact ⟨ad,e,ha,by simpa [Addr.add] using hc⟩
   have hpos:(0:Int) < ((x :: r).length:Int):=by simp <;> omega
   have hne:(((x :: r).length:Int) == 0)=false:=by simp <;> omega
   clear hck hsh HR hr hF hM hL
   generalize ((2 ^ (T.bidiOf x).toNat:Nat):Int)=F at *
   generalize ((bmask T (x :: r):Nat):Int)=M at *
   generalize ((lastM T (x :: r):Nat):Int)=L at *
   generalize inB (T.bidiOf x) [1,2]=b1 at *
   generalize anyB T (x :: r) [0,11]=b2 at *
   generalize inB (lastB T (x :: r)) [1,2,4,3]=b3 at *
   generalize anyB T (x :: r) [4]=b4 at *
   generalize anyB T (x :: r) [3]=b5 at *
   generalize inB (T.bidiOf x) [0]=b6 at *
   generalize anyB T (x :: r) [1,2,3,11]=b7 at *
   generalize inB (lastB T (x :: r)) [0,4]=b8 at *
   generalize T.bidiOf x=kx at *
   generalize (x :: r).length=ln at *
   go_enter Tryz.func64,Tryz.ntmps64
   go_upto_region 1 with fail
   generalize w.alloc (.cells t.cells 26)=w1 at *
   have e1:=cell_regrown hce
   clear hce ha
   go_upto_region 3 with fail
   obtain ⟨x0,x1,x2,x3,x4,x5,x6,x7,x8,x9,x10,x11⟩:=HT.out.1.tabG
   refine wp_region_quiet_below (by kernel_rfl) (by kernel_rfl) ?_
   repeat (go_big_quiet_step (first | (go_at_call 113;with_reducible exact quiet_t HC.out) | (go_at_call 112;with_reducible exact quiet_t HOX.out) | (go_at_call 110;with_reducible exact quiet_t HCL.out) | (go_at_call 114;with_reducible exact quiet_t HLA.out)))
   refine wpQuiet_nil ?_
   rintro _ ⟨⟨dq,osq⟩,rfl⟩
   have bq:=below_regrown w1 dq osq
   clear x0 x1 x2 x3 x4 x5 x6 x7 x8 x9 x10 x11 e1 HC HOX HCL HLA
   have HBq:=Lib.hid bq
   generalize Go.Sort.grow (redrawn w1 dq) osq=w5 at *
   clear bq HT HV
   cases b1
   ·cases b6
    ·go_wp2_with (first | (go_at_call 112;((with_reducible refine (HO4.out _).mono ?_);rintro e w7 ⟨rfl,rfl⟩)) | (go_at_call 112;((with_reducible refine (HO3.out _).mono ?_);rintro e w7 ⟨rfl,rfl⟩)) | (go_at_call 112;((with_reducible refine (HO0.out _).mono ?_);rintro e w7 ⟨rfl,rfl⟩)) | (go_at_call 111;((with_reducible refine (HM1.out _).mono ?_);rintro e w6 ⟨rfl,rfl⟩)) | (go_at_call 111;((with_reducible refine (HM2.out _).mono ?_);rintro e w6 ⟨rfl,rfl⟩)) | (go_at_call 111;((with_reducible refine (HM3.out _).mono ?_);rintro e w6 ⟨rfl,rfl⟩)) | (go_at_call 111;((with_reducible refine (HM4.out _).mono ?_);rintro e w6 ⟨rfl,rfl⟩)) | (go_at_call 111;((with_reducible refine (HM5.out _).mono ?_);rintro e w6 ⟨rfl,rfl⟩)) | (go_at_call 111;((with_reducible refine (HM6.out _).mono ?_);rintro e w6 ⟨rfl,rfl⟩)) | (go_at_call 111;((with_reducible refine (HM7.out _).mono ?_);rintro e w6 ⟨rfl,rfl⟩)) | (go_at_call 111;((with_reducible refine (HM8.out _).mono ?_);rintro e w6 ⟨rfl,rfl⟩)))
     go_ret
     exact ⟨rfl,below_next HB0.out HBq.out⟩
    ·cases b7
     ·cases b8
      ·go_wp2_with (first | (go_at_call 112;((with_reducible refine (HO4.out _).mono ?_);rintro e w7 ⟨rfl,rfl⟩)) | (go_at_call 112;((with_reducible refine (HO3.out _).mono ?_);rintro e w7 ⟨rfl,rfl⟩)) | (go_at_call 112;((with_reducible refine (HO0.out _).mono ?_);rintro e w7 ⟨rfl,rfl⟩)) | (go_at_call 111;((with_reducible refine (HM1.out _).mono ?_);rintro e w6 ⟨rfl,rfl⟩)) | (go_at_call 111;((with_reducible refine (HM2.out _).mono ?_);rintro e w6 ⟨rfl,rfl⟩)) | (go_at_call 111;((with_reducible refine (HM3.out _).mono ?_);rintro e w6 ⟨rfl,rfl⟩)) | (go_at_call 111;((with_reducible refine (HM4.out _).mono ?_);rintro e w6 ⟨rfl,rfl⟩)) | (go_at_call 111;((with_reducible refine (HM5.out _).mono ?_);rintro e w6 ⟨rfl,rfl⟩)) | (go_at_call 111;((with_reducible refine (HM6.out _).mono ?_);rintro e w6 ⟨rfl,rfl⟩)) | (go_at_call 111;((with_reducible refine (HM7.out _).mono ?_);rintro e w6 ⟨rfl,rfl⟩)) | (go_at_call 111;((with_reducible refine (HM8.out _).mono ?_);rintro e w6 ⟨rfl,rfl⟩)))
       go_ret
       exact ⟨rfl,below_next HB0.out HBq.out⟩
      ·go_wp2_with (first | (go_at_call 112;((with_reducible refine (HO4.out _).mono ?_);rintro e w7 ⟨rfl,rfl⟩)) | (go_at_call 112;((with_reducible refine (HO3.out _).mono ?_);rintro e w7 ⟨rfl,rfl⟩)) | (go_at_call 112;((with_reducible refine (HO0.out _).mono ?_);rintro e w7 ⟨rfl,rfl⟩)) | (go_at_call 111;((with_reducible refine (HM1.out _).mono ?_);rintro e w6 ⟨rfl,rfl⟩)) | (go_at_call 111;((with_reducible refine (HM2.out _).mono ?_);rintro e w6 ⟨rfl,rfl⟩)) | (go_at_call 111;((with_reducible refine (HM3.out _).mono ?_);rintro e w6 ⟨rfl,rfl⟩)) | (go_at_call 111;((with_reducible refine (HM4.out _).mono ?_);rintro e w6 ⟨rfl,rfl⟩)) | (go_at_call 111;((with_reducible refine (HM5.out _).mono ?_);rintro e w6 ⟨rfl,rfl⟩)) | (go_at_call 111;((with_reducible refine (HM6.out _).mono ?_);rintro e w6 ⟨rfl,rfl⟩)) | (go_at_call 111;((with_reducible refine (HM7.out _).mono ?_);rintro e w6 ⟨rfl,rfl⟩)) | (go_at_call 111;((with_reducible refine (HM8.out _).mono ?_);rintro e w6 ⟨rfl,rfl⟩)))
       go_ret
       exact ⟨rfl,below_next HB0.out HBq.out⟩
     ·go_wp2_with (first | (go_at_call 112;((with_reducible refine (HO4.out _).mono ?_);rintro e w7 ⟨rfl,rfl⟩)) | (go_at_call 112;((with_reducible refine (HO3.out _).mono ?_);rintro e w7 ⟨rfl,rfl⟩)) | (go_at_call 112;((with_reducible refine (HO0.out _).mono ?_);rintro e w7 ⟨rfl,rfl⟩)) | (go_at_call 111;((with_reducible refine (HM1.out _).mono ?_);rintro e w6 ⟨rfl,rfl⟩)) | (go_at_call 111;((with_reducible refine (HM2.out _).mono ?_);rintro e w6 ⟨rfl,rfl⟩)) | (go_at_call 111;((with_reducible refine (HM3.out _).mono ?_);rintro e w6 ⟨rfl,rfl⟩)) | (go_at_call 111;((with_reducible refine (HM4.out _).mono ?_);rintro e w6 ⟨rfl,rfl⟩)) | (go_at_call 111;((with_reducible refine (HM5.out _).mono ?_);rintro e w6 ⟨rfl,rfl⟩)) | (go_at_call 111;((with_reducible refine (HM6.out _).mono ?_);rintro e w6 ⟨rfl,rfl⟩)) | (go_at_call 111;((with_reducible refine (HM7.out _).mono ?_);rintro e w6 ⟨rfl,rfl⟩)) | (go_at_call 111;((with_reducible refine (HM8.out _).mono ?_);rintro e w6 ⟨rfl,rfl⟩)))
      go_ret
      exact ⟨rfl,below_next HB0.out HBq.out⟩
   ·cases b2
    ·cases b3
     ·go_wp2_with (first | (go_at_call 112;((with_reducible refine (HO4.out _).mono ?_);rintro e w7 ⟨rfl,rfl⟩)) | (go_at_call 112;((with_reducible refine (HO3.out _).mono ?_);rintro e w7 ⟨rfl,rfl⟩)) | (go_at_call 112;((with_reducible refine (HO0.out _).mono ?_);rintro e w7 ⟨rfl,rfl⟩)) | (go_at_call 111;((with_reducible refine (HM1.out _).mono ?_);rintro e w6 ⟨rfl,rfl⟩)) | (go_at_call 111;((with_reducible refine (HM2.out _).mono ?_);rintro e w6 ⟨rfl,rfl⟩)) | (go_at_call 111;((with_reducible refine (HM3.out _).mono ?_);rintro e w6 ⟨rfl,rfl⟩)) | (go_at_call 111;((with_reducible refine (HM4.out _).mono ?_);rintro e w6 ⟨rfl,rfl⟩)) | (go_at_call 111;((with_reducible refine (HM5.out _).mono ?_);rintro e w6 ⟨rfl,rfl⟩)) | (go_at_call 111;((with_reducible refine (HM6.out _).mono ?_);rintro e w6 ⟨rfl,rfl⟩)) | (go_at_call 111;((with_reducible refine (HM7.out _).mono ?_);rintro e w6 ⟨rfl,rfl⟩)) | (go_at_call 111;((with_reducible refine (HM8.out _).mono ?_);rintro e w6 ⟨rfl,rfl⟩)))
      go_ret
      exact ⟨rfl,below_next HB0.out HBq.out⟩
     ·cases b4
      ·go_wp2_with (first | (go_at_call 112;((with_reducible refine (HO4.out _).mono ?_);rintro e w7 ⟨rfl,rfl⟩)) | (go_at_call 112;((with_reducible refine (HO3.out _).mono ?_);rintro e w7 ⟨rfl,rfl⟩)) | (go_at_call 112;((with_reducible refine (HO0.out _).mono ?_);rintro e w7 ⟨rfl,rfl⟩)) | (go_at_call 111;((with_reducible refine (HM1.out _).mono ?_);rintro e w6 ⟨rfl,rfl⟩)) | (go_at_call 111;((with_reducible refine (HM2.out _).mono ?_);rintro e w6 ⟨rfl,rfl⟩)) | (go_at_call 111;((with_reducible refine (HM3.out _).mono ?_);rintro e w6 ⟨rfl,rfl⟩)) | (go_at_call 111;((with_reducible refine (HM4.out _).mono ?_);rintro e w6 ⟨rfl,rfl⟩)) | (go_at_call 111;((with_reducible refine (HM5.out _).mono ?_);rintro e w6 ⟨rfl,rfl⟩)) | (go_at_call 111;((with_reducible refine (HM6.out _).mono ?_);rintro e w6 ⟨rfl,rfl⟩)) | (go_at_call 111;((with_reducible refine (HM7.out _).mono ?_);rintro e w6 ⟨rfl,rfl⟩)) | (go_at_call 111;((with_reducible refine (HM8.out _).mono ?_);rintro e w6 ⟨rfl,rfl⟩)))
       go_ret
       exact ⟨by simp [ruleB],below_next HB0.out HBq.out⟩
      ·cases b5
       ·go_wp2_with (first | (go_at_call 112;((with_reducible refine (HO4.out _).mono ?_);rintro e w7 ⟨rfl,rfl⟩)) | (go_at_call 112;((with_reducible refine (HO3.out _).mono ?_);rintro e w7 ⟨rfl,rfl⟩)) | (go_at_call 112;((with_reducible refine (HO0.out _).mono ?_);rintro e w7 ⟨rfl,rfl⟩)) | (go_at_call 111;((with_reducible refine (HM1.out _).mono ?_);rintro e w6 ⟨rfl,rfl⟩)) | (go_at_call 111;((with_reducible refine (HM2.out _).mono ?_);rintro e w6 ⟨rfl,rfl⟩)) | (go_at_call 111;((with_reducible refine (HM3.out _).mono ?_);rintro e w6 ⟨rfl,rfl⟩)) | (go_at_call 111;((with_reducible refine (HM4.out _).mono ?_);rintro e w6 ⟨rfl,rfl⟩)) | (go_at_call 111;((with_reducible refine (HM5.out _).mono ?_);rintro e w6 ⟨rfl,rfl⟩)) | (go_at_call 111;((with_reducible refine (HM6.out _).mono ?_);rintro e w6 ⟨rfl,rfl⟩)) | (go_at_call 111;((with_reducible refine (HM7.out _).mono ?_);rintro e w6 ⟨rfl,rfl⟩)) | (go_at_call 111;((with_reducible refine (HM8.out _).mono ?_);rintro e w6 ⟨rfl,rfl⟩)))
        go_ret
        exact ⟨by simp [ruleB],below_next HB0.out HBq.out⟩
       ·go_wp2_with (first | (go_at_call 112;((with_reducible refine (HO4.out _).mono ?_);rintro e w7 ⟨rfl,rfl⟩)) | (go_at_call 112;((with_reducible refine (HO3.out _).mono ?_);rintro e w7 ⟨rfl,rfl⟩)) | (go_at_call 112;((with_reducible refine (HO0.out _).mono ?_);rintro e w7 ⟨rfl,rfl⟩)) | (go_at_call 111;((with_reducible refine (HM1.out _).mono ?_);rintro e w6 ⟨rfl,rfl⟩)) | (go_at_call 111;((with_reducible refine (HM2.out _).mono ?_);rintro e w6 ⟨rfl,rfl⟩)) | (go_at_call 111;((with_reducible refine (HM3.out _).mono ?_);rintro e w6 ⟨rfl,rfl⟩)) | (go_at_call 111;((with_reducible refine (HM4.out _).mono ?_);rintro e w6 ⟨rfl,rfl⟩)) | (go_at_call 111;((with_reducible refine (HM5.out _).mono ?_);rintro e w6 ⟨rfl,rfl⟩)) | (go_at_call 111;((with_reducible refine (HM6.out _).mono ?_);rintro e w6 ⟨rfl,rfl⟩)) | (go_at_call 111;((with_reducible refine (HM7.out _).mono ?_);rintro e w6 ⟨rfl,rfl⟩)) | (go_at_call 111;((with_reducible refine (HM8.out _).mono ?_);rintro e w6 ⟨rfl,rfl⟩)))
        go_ret
        exact ⟨by simp [ruleB],below_next HB0.out HBq.out⟩
    ·go_wp2_with (first | (go_at_call 112;((with_reducible refine (HO4.out _).mono ?_);rintro e w7 ⟨rfl,rfl⟩)) | (go_at_call 112;((with_reducible refine (HO3.out _).mono ?_);rintro e w7 ⟨rfl,rfl⟩)) | (go_at_call 112;((with_reducible refine (HO0.out _).mono ?_);rintro e w7 ⟨rfl,rfl⟩)) | (go_at_call 111;((with_reducible refine (HM1.out _).mono ?_);rintro e w6 ⟨rfl,rfl⟩)) | (go_at_call 111;((with_reducible refine (HM2.out _).mono ?_);rintro e w6 ⟨rfl,rfl⟩)) | (go_at_call 111;((with_reducible refine (HM3.out _).mono ?_);rintro e w6 ⟨rfl,rfl⟩)) | (go_at_call 111;((with_reducible refine (HM4.out _).mono ?_);rintro e w6 ⟨rfl,rfl⟩)) | (go_at_call 111;((with_reducible refine (HM5.out _).mono ?_);rintro e w6 ⟨rfl,rfl⟩)) | (go_at_call 111;((with_reducible refine (HM6.out _).mono ?_);rintro e w6 ⟨rfl,rfl⟩)) | (go_at_call 111;((with_reducible refine (HM7.out _).mono ?_);rintro e w6 ⟨rfl,rfl⟩)) | (go_at_call 111;((with_reducible refine (HM8.out _).mono ?_);rintro e w6 ⟨rfl,rfl⟩)))
     go_ret
     exact ⟨rfl,below_next HB0.out HBq.out⟩
def rtlR (T:Tab) (xs:List Int):Bool:=accE T xs == 0 && anyB T xs [1,2,3]
theorem rtl_any (t:Tv) (T:Tab) (v:Value) (xs:List Int) (w:World) (ht:TabR w w.heap.size t T) (hg:Glob w) (hv:Ints w w.heap.size .i64 v xs) :
  Calls Tryz.prog 63 #[t.val,v] w fun e w' => e=.returned (.bool (rtlR T xs)) ∧ Below w.heap.size w w':=by
 obtain ⟨A,c,rfl,_⟩:=id hv
 have HB0:Hid (Below w.heap.size w (w.alloc (.cells t.cells 26))):=Lib.hid ((Below.refl _ _).alloc (Nat.le_refl _) _)
 have HT:Hid (Tbl (w.alloc (.cells t.cells 26)) w.heap.size t T):=Lib.hid ⟨Blk.new _ _ _,ht.later HB0.out⟩
 have HV:=Lib.hid (hv.later HB0.out)
 have HG:=Lib.hid (hg.later HB0.out)
 clear ht hv hg
 have HO:=Lib.hid (order_any t T _ xs _ HT.out.2 HG.out HV.out)
 by_cases h0:accE T xs=0
 ·have hck:=(accE_zero h0).1
  have HE:Hid (rtlR T xs=anyB T xs [1,2,3]):=Lib.hid (by unfold rtlR;rw [h0];rfl)
  have HCL:=Lib.hid (fun W (h:Below (w.alloc (.cells t.cells 26)).heap.size (w.alloc (.cells t.cells 26)) W) => classes_any t T _ xs W (HT.out.later h).2 hck (HV.out.later h))
  have HM:=Lib.hid (fun W => meets_any _ _ (bmask T xs) 14 _ W rfl rfl (bmask_lt (bidi_range hck) _) (by decide) (meets_mask (bidi_range hck) set_strong xs))
  rw [HE.out]
  rw [h0] at HO
  clear h0 hck HE
  generalize ordL T xs=ol at *
  generalize ((bmask T xs:Nat):Int)=M at *
  generalize anyB T xs [1,2,3]=bb at *
  go_enter Tryz.func63,Tryz.ntmps63
  go_upto_region 1 with fail
  generalize w.alloc (.cells t.cells 26)=w1 at *
  obtain ⟨x0,x1,x2,x3,x4,x5,x6,x7,x8,x9,x10,x11⟩:=HT.out.1.tab
  go_upto_region 2 with (go_at_call 37;refine HO.out.mono ?_;rintro e w2 ⟨u2,rfl,ho2,b2⟩;obtain ⟨A2,c2,rfl,_⟩:=id (Ints.of_own ho2);clear ho2)
  clear x0 x1 x2 x3 x4 x5 x6 x7 x8 x9 x10 x11
  obtain ⟨x0,x1,x2,x3,x4,x5,x6,x7,x8,x9,x10,x11⟩:=(HT.out.later b2).1.tab
  go_wp2_with (first
   | (go_at_call 110;refine (HCL.out _ b2).mono ?_;rintro e w3 ⟨rfl,b3⟩)
   | (go_at_call 111;refine (HM.out _).mono ?_;rintro e w4 ⟨rfl,rfl⟩))
  go_ret
  exact ⟨rfl,below_next (below_next HB0.out b2) b3⟩
 ·have HE:Hid (rtlR T xs=false):=Lib.hid (by unfold rtlR;rw [show (accE T xs == 0)=false by simpa using h0];rfl)
  have hb:(accE T xs == 0)=false:=by simpa using h0
  rw [HE.out]
  clear h0 HE
  generalize ordL T xs=ol at *
  generalize accE T xs=er at *
  go_enter Tryz.func63,Tryz.ntmps63
  go_upto_region 1 with fail
  generalize w.alloc (.cells t.cells 26)=w1 at *
  obtain ⟨x0,x1,x2,x3,x4,x5,x6,x7,x8,x9,x10,x11⟩:=HT.out.1.tab
  go_wp2_with (go_at_call 37;refine HO.out.mono ?_;rintro e w2 ⟨u2,rfl,ho2,b2⟩;obtain ⟨A2,c2,rfl,_⟩:=id (Ints.of_own ho2);clear ho2)
  go_ret
  exact ⟨rfl,below_next HB0.out b2⟩
end Go.Proofs.YtjafpikjpipbkaaGreatDoor
namespace Go.Proofs.YtjafpikjpipbkaaGreatDoor
open Go.RowKit ND
def firstA (T:Tab):Nat → List (List Int) → Option (Int × Int)
 | _,[] => none
 | i,l :: r => if accE T l ≠ 0 then some ((i:Int),accE T l) else firstA T (i + 1) r
def domR (T:Tab) (ls:List (List Int)):Int × Int:=match firstA T 0 ls with
 | some r => r
 | none => if ls.any (fun l => anyB T l [1,2,3])=true then rulesGo T 0 ls else (0,0)
theorem domR_some {T:Tab} {ls:List (List Int)} {r:Int × Int} (h:firstA T 0 ls=some r):domR T ls=r:=by unfold domR;rw [h]
theorem domR_none {T:Tab} {ls:List (List Int)} (h:firstA T 0 ls=none):domR T ls=if ls.any (fun l => anyB T l [1,2,3])=true then rulesGo T 0 ls else (0,0):=by unfold domR;rw [h]
theorem firstA_step {T:Tab} {ls:List (List Int)} {i:Nat} {l:List Int} (hl:ls[i]?=some l):firstA T i (ls.drop i)=if accE T l ≠ 0 then some ((i:Int),accE T l) else firstA T (i + 1) (ls.drop (i + 1)):=by
 obtain ⟨h1,e⟩:=List.getElem?_eq_some_iff.1 hl
 rw [List.drop_eq_getElem_cons h1,e,firstA]
theorem rulesGo_step {T:Tab} {ls:List (List Int)} {i:Nat} {l:List Int} (hl:ls[i]?=some l):rulesGo T i (ls.drop i)=if ruleL T l ≠ 0 then ((i:Int),19) else rulesGo T (i + 1) (ls.drop (i + 1)):=by
 obtain ⟨h1,e⟩:=List.getElem?_eq_some_iff.1 hl
 rw [List.drop_eq_getElem_cons h1,e,rulesGo]
theorem firstA_none {T:Tab}:∀ {ls:List (List Int)} {i:Nat},firstA T i ls=none ↔ ∀ l ∈ ls,accE T l=0:=by
 intro ls
 induction ls with
 | nil => intro i;simp [firstA]
 | cons l r ih =>
   intro i
   rw [firstA]
   by_cases h:accE T l=0
   ·rw [if_neg (by omega),ih];simp [h]
   ·rw [if_pos h];simp [h]
theorem take_any {α:Type} {p:α → Bool} {ls:List α} {i:Nat} {l:α} (hl:ls[i]?=some l):(ls.take (i + 1)).any p=((ls.take i).any p || p l):=by
 obtain ⟨h1,e⟩:=List.getElem?_eq_some_iff.1 hl
 rw [List.take_succ_eq_append_getElem h1,List.any_append,e];simp
end Go.Proofs.YtjafpikjpipbkaaGreatDoor
