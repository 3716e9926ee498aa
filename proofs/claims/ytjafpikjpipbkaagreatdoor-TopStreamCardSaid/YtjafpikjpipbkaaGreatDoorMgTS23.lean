/-
  Merged texts: lemmas and walks that the last text of this claim leans on.
-/
import Derived.Test.YtjafpikjpipbkaaGreatDoorMgTS10
import Derived.Test.YtjafpikjpipbkaaGreatDoorMgTS22
import Derived.Test.YtjafpikjpipbkaaGreatDoorMgTS20
import Derived.Test.YtjafpikjpipbkaaGreatDoorMgTS18
import Derived.Test.YtjafpikjpipbkaaGreatDoorMgTS9
import Derived.Test.YtjafpikjpipbkaaGreatDoorMgTS5
import Derived.Test.YtjafpikjpipbkaaGreatDoorMgTS3
set_option maxRecDepth 100000
set_option maxHeartbeats 40000000
namespace Go.Proofs.YtjafpikjpipbkaaGreatDoor
open Go.RowKit ND
def RetRaw (w:World) (e:Ending) (w':World):Prop:=∃ s,e=.returned (.string s) ∧ Below w.heap.size w w'
theorem ints_one (W:World) (c:Int):Ints (W.alloc (.cells #[.int .i64 c] 3)) (W.alloc (.cells #[.int .i64 c] 3)).heap.size .i64 (.slice (some ⟨W.heap.size,0,none⟩) 1 1) [c] :=
 ⟨_,_,rfl,Nat.le_refl _,by decide,(by intro h;cases h),fun i x hi => ⟨_,rfl,by simp,cells_new W [.int .i64 c] 3 i (.int .i64 x) (by
  cases i with
  | zero => simp at hi ⊢;exact hi
  | succ i => simp at hi)⟩⟩
theorem encodeL_len1 (c:Int):(encodeL [c]).1.length ≤ 4:=by
 cases h:scalarB c
 ·rw [encodeL_bad (k:=0) (x:=c) (by simp) rfl h];simp
 ·rw [encodeL_ok (by simp) (by simp [h])];exact encAll_len [c]
theorem getOf {α:Type} {xs:List α} {k:Nat} (h:k < xs.length):∃ x,xs[k]?=some x ∧ x ∈ xs:=⟨_,List.getElem?_eq_getElem h,List.getElem_mem h⟩
theorem raw_step {g:Nat} {w1 W W':World} (hb:Below g w1 W) (h:W.grownBy W' (some g)) (hl:g < W.heap.size):Below g w1 W':=hb.grown h (by omega) (by intro q hq;injection hq;omega)
theorem raw_any (v:Value) (xs:List Int) (w:World) (hv:Ints w w.heap.size .i64 v xs) :
  Calls Tryz.prog 5 #[v] w (RetRaw w):=by
 obtain ⟨A,c,rfl,_⟩:=id hv
 obtain ⟨g,hg⟩:∃ g,g=w.heap.size:=⟨_,rfl⟩
 have HV:=Lib.hid hv
 clear hv
 go_enter Tryz.func5,Tryz.ntmps5
 go_wp2_with fail
 refine (from_any _ _ _ w).mono ?_
 rintro e w1 ⟨rfl,rfl⟩
 have hal:Below w.heap.size w (w.alloc (.cells #[.slice A xs.length c,.int .i64 0] 96)):=(Below.refl _ _).alloc (Nat.le_refl _) _
 have HS:Hid (Src (w.alloc (.cells #[.slice A xs.length c,.int .i64 0] 96)) g (.slice A xs.length c) xs.length):=Lib.hid ⟨0,by omega,by rw [hg];exact Blk.new _ _ _⟩
 have HB:=Lib.hid hal
 have HI:Hid (Ints (w.alloc (.cells #[.slice A xs.length c,.int .i64 0] 96)) g .i64 (.slice A xs.length c) xs):=Lib.hid (by rw [hg];exact HV.out.below hal)
 clear hal HV
 have HBg:Hid (Below g w (w.alloc (.cells #[.slice A xs.length c,.int .i64 0] 96))):=Lib.hid (by rw [hg];exact HB.out)
 rw [← hg]
 have HGE:=Lib.hid hg
 clear HB hg
 generalize World.alloc w _=w1 at *
 obtain ⟨V,hV⟩:∃ V,V=Value.slice A xs.length c:=⟨_,rfl⟩
 rw [← hV] at HS HI
 clear hV
 have HN:=Lib.hid (fun W (m:Int) (h:Src W g V xs.length) (hb:Below g w1 W) (h0:0 < m) (h1:m ≤ 1000000) => next_src W g V xs m (HI.out.below hb) h h0 h1)
 have HP:=Lib.hid (fun W (h:Src W g V xs.length) (hb:Below g w1 W) => point_src W g V xs (HI.out.below hb) h)
 have HD:=Lib.hid (fun W (h:Src W g V xs.length) (hb:Below g w1 W) => word_src W g V xs (HI.out.below hb) h)
 go_wp2_with fail
 refine (HN.out w1 3 HS.out (Below.refl _ _) (by decide) (by decide)).mono ?_
 rintro e w2 ⟨r,rfl,hr0,hr1,hs2,hg2⟩
 have HB2:=Lib.hid (raw_step (Below.refl _ _) hg2 HS.out.lt)
 have HS2:=Lib.hid hs2
 clear hs2 hg2 HS
 go_wp2_with fail
 go_loopw [4,5] (fun o n wr => ∃ (k:Nat) (s:ByteArray),k ≤ 3 ∧ n=.int .i64 k ∧ o=.string s ∧ s.size ≤ 100 * (3 - k) ∧ Hid (Src wr g V xs.length) ∧ Hid (Below g w1 wr)) (fun _ n _ => (intOf n).toNat)
 case atStart => exact ⟨(1 + r).toNat,⟨#[]⟩,by omega,by congr 1;omega,rfl,Nat.zero_le _,HS2,HB2⟩
 case round =>
  obtain ⟨k,s,hk,rfl,rfl,hsz,HS,HB⟩:=hrel
  by_cases hlt:0 < k
  ·have kk:(0:Int) < (k:Int):=by omega
   go_wp2_with fail
   refine (HN.out wr 8 HS.out HB.out (by decide) (by decide)).mono ?_
   rintro e w3 ⟨q,rfl,q0,q1,hs3,hg3⟩
   have HB3:=Lib.hid (raw_step HB.out hg3 HS.out.lt)
   have HS3:=Lib.hid hs3
   have hc2:q=0 ∨ q=1 ∨ q=2 ∨ q=3 ∨ ((q == 0)=false ∧ (q == 1)=false ∧ (q == 2)=false ∧ (q == 3)=false):=by
    have:q=0 ∨ q=1 ∨ q=2 ∨ q=3 ∨ 4 ≤ q:=by omega
    rcases this with h | h | h | h | h
    ·exact .inl h
    ·exact .inr (.inl h)
    ·exact .inr (.inr (.inl h))
    ·exact .inr (.inr (.inr (.inl h)))
    ·exact .inr (.inr (.inr (.inr ⟨beq_eq_false_iff_ne.2 (by omega),beq_eq_false_iff_ne.2 (by omega),beq_eq_false_iff_ne.2 (by omega),beq_eq_false_iff_ne.2 (by omega)⟩)))
   clear hs3 hg3 q0 q1 HS HB
   rcases hc2 with rfl | rfl | rfl | rfl | ⟨q0,q1,q2,q3⟩
   ·go_wp2_with fail
    have hal:Below w3.heap.size w3 (w3.alloc (.cells #[.string ⟨#[120,110,45,45,98,99,104,101,114,45,107,118,97]⟩,.string ⟨#[88,78,45,45,97]⟩,.string ⟨#[120,110,45,45]⟩,.string ⟨#[120,110,45,45,97,98,99,45]⟩,.string ⟨#[97,45,45,98]⟩,.string ⟨#[45,97]⟩,.string ⟨#[97,98,45,45,99]⟩,.string ⟨#[120,110,45,45,109,103,98,97]⟩] 9)):=(Below.refl _ _).alloc (Nat.le_refl _) _
    refine (HN.out _ 8 (HS3.out.alloc (.cells #[.string ⟨#[120,110,45,45,98,99,104,101,114,45,107,118,97]⟩,.string ⟨#[88,78,45,45,97]⟩,.string ⟨#[120,110,45,45]⟩,.string ⟨#[120,110,45,45,97,98,99,45]⟩,.string ⟨#[97,45,45,98]⟩,.string ⟨#[45,97]⟩,.string ⟨#[97,98,45,45,99]⟩,.string ⟨#[120,110,45,45,109,103,98,97]⟩] 9)) (HB3.out.trans (hal.mono (Nat.le_of_lt HS3.out.lt))) (by decide) (by decide)).mono ?_
    rintro e w4 ⟨m,rfl,m0,m1,hs4,hg4⟩
    have hk:=cell_kept w3.heap.size (cells_new w3 [.string ⟨#[120,110,45,45,98,99,104,101,114,45,107,118,97]⟩,.string ⟨#[88,78,45,45,97]⟩,.string ⟨#[120,110,45,45]⟩,.string ⟨#[120,110,45,45,97,98,99,45]⟩,.string ⟨#[97,45,45,98]⟩,.string ⟨#[45,97]⟩,.string ⟨#[97,98,45,45,99]⟩,.string ⟨#[120,110,45,45,109,103,98,97]⟩] 9) hg4 (by simp) (by have:=HS3.out.lt;omega)
    obtain ⟨n,rfl⟩:=Int.eq_ofNat_of_zero_le m0
    have hm:n < 8:=by omega
    obtain ⟨x,hx,hxm⟩:=getOf (xs:=([⟨#[120,110,45,45,98,99,104,101,114,45,107,118,97]⟩,⟨#[88,78,45,45,97]⟩,⟨#[120,110,45,45]⟩,⟨#[120,110,45,45,97,98,99,45]⟩,⟨#[97,45,45,98]⟩,⟨#[45,97]⟩,⟨#[97,98,45,45,99]⟩,⟨#[120,110,45,45,109,103,98,97]⟩]:List ByteArray)) (k:=n) hm
    have k0:=hk n (.string x) (by rw [show ([.string ⟨#[120,110,45,45,98,99,104,101,114,45,107,118,97]⟩,.string ⟨#[88,78,45,45,97]⟩,.string ⟨#[120,110,45,45]⟩,.string ⟨#[120,110,45,45,97,98,99,45]⟩,.string ⟨#[97,45,45,98]⟩,.string ⟨#[45,97]⟩,.string ⟨#[97,98,45,45,99]⟩,.string ⟨#[120,110,45,45,109,103,98,97]⟩]:List Value)=([⟨#[120,110,45,45,98,99,104,101,114,45,107,118,97]⟩,⟨#[88,78,45,45,97]⟩,⟨#[120,110,45,45]⟩,⟨#[120,110,45,45,97,98,99,45]⟩,⟨#[97,45,45,98]⟩,⟨#[45,97]⟩,⟨#[97,98,45,45,99]⟩,⟨#[120,110,45,45,109,103,98,97]⟩]:List ByteArray).map Value.string from rfl,List.getElem?_map,hx];rfl)
    have hsx:x.size ≤ 13:=(show ∀ c ∈ ([⟨#[120,110,45,45,98,99,104,101,114,45,107,118,97]⟩,⟨#[88,78,45,45,97]⟩,⟨#[120,110,45,45]⟩,⟨#[120,110,45,45,97,98,99,45]⟩,⟨#[97,45,45,98]⟩,⟨#[45,97]⟩,⟨#[97,98,45,45,99]⟩,⟨#[120,110,45,45,109,103,98,97]⟩]:List ByteArray),c.size ≤ 13 by decide) x hxm
    have HS4:=Lib.hid hs4
    have HB4:=Lib.hid (raw_step (HB3.out.trans (hal.mono (Nat.le_of_lt HS3.out.lt))) hg4 (HS3.out.alloc (.cells #[.string ⟨#[120,110,45,45,98,99,104,101,114,45,107,118,97]⟩,.string ⟨#[88,78,45,45,97]⟩,.string ⟨#[120,110,45,45]⟩,.string ⟨#[120,110,45,45,97,98,99,45]⟩,.string ⟨#[97,45,45,98]⟩,.string ⟨#[45,97]⟩,.string ⟨#[97,98,45,45,99]⟩,.string ⟨#[120,110,45,45,109,103,98,97]⟩] 9)).lt)
    have hsz4:(s ++ x).size ≤ 100 * (3 - k) + 60:=by rw [ByteArray.size_append];omega
    have hcat:s.size + x.size ≤ 1000:=by omega
    clear hk hx hxm hs4 hg4 hal m0 m1
    by_cases hk1:1 < k
    ·have kk1:(1:Int) < (k:Int):=by omega
     go_wp2_with fail
     go_roundw
     case rel => exact ⟨k - 1,_,by omega,by congr 1;omega,rfl,by have h1:(⟨#[46]⟩:ByteArray).size=1:=rfl;simp only [ByteArray.size_append] at *;omega,HS4,HB4⟩
     case measure => simp [intOf];omega
    ·have kk1:decide ((1:Int) < (k:Int))=false:=decide_eq_false (by omega)
     go_wp2_with fail
     go_roundw
     case rel => exact ⟨k - 1,_,by omega,by congr 1;omega,rfl,by omega,HS4,HB4⟩
     case measure => simp [intOf];omega
   ·go_wp2_with fail
    have hal:Below w3.heap.size w3 (w3.alloc (.cells #[.string ⟨#[195]⟩,.string ⟨#[237,160,128]⟩,.string ⟨#[]⟩,.string ⟨#[65,45,98]⟩,.string ⟨#[32]⟩,.string ⟨#[226,128,141]⟩] 9)):=(Below.refl _ _).alloc (Nat.le_refl _) _
    refine (HN.out _ 6 (HS3.out.alloc (.cells #[.string ⟨#[195]⟩,.string ⟨#[237,160,128]⟩,.string ⟨#[]⟩,.string ⟨#[65,45,98]⟩,.string ⟨#[32]⟩,.string ⟨#[226,128,141]⟩] 9)) (HB3.out.trans (hal.mono (Nat.le_of_lt HS3.out.lt))) (by decide) (by decide)).mono ?_
    rintro e w4 ⟨m,rfl,m0,m1,hs4,hg4⟩
    have hk:=cell_kept w3.heap.size (cells_new w3 [.string ⟨#[195]⟩,.string ⟨#[237,160,128]⟩,.string ⟨#[]⟩,.string ⟨#[65,45,98]⟩,.string ⟨#[32]⟩,.string ⟨#[226,128,141]⟩] 9) hg4 (by simp) (by have:=HS3.out.lt;omega)
    obtain ⟨n,rfl⟩:=Int.eq_ofNat_of_zero_le m0
    have hm:n < 6:=by omega
    obtain ⟨x,hx,hxm⟩:=getOf (xs:=([⟨#[195]⟩,⟨#[237,160,128]⟩,⟨#[]⟩,⟨#[65,45,98]⟩,⟨#[32]⟩,⟨#[226,128,141]⟩]:List ByteArray)) (k:=n) hm
    have k0:=hk n (.string x) (by rw [show ([.string ⟨#[195]⟩,.string ⟨#[237,160,128]⟩,.string ⟨#[]⟩,.string ⟨#[65,45,98]⟩,.string ⟨#[32]⟩,.string ⟨#[226,128,141]⟩]:List Value)=([⟨#[195]⟩,⟨#[237,160,128]⟩,⟨#[]⟩,⟨#[65,45,98]⟩,⟨#[32]⟩,⟨#[226,128,141]⟩]:List ByteArray).map Value.string from rfl,List.getElem?_map,hx];rfl)
    have hsx:x.size ≤ 13:=(show ∀ c ∈ ([⟨#[195]⟩,⟨#[237,160,128]⟩,⟨#[]⟩,⟨#[65,45,98]⟩,⟨#[32]⟩,⟨#[226,128,141]⟩]:List ByteArray),c.size ≤ 13 by decide) x hxm
    have HS4:=Lib.hid hs4
    have HB4:=Lib.hid (raw_step (HB3.out.trans (hal.mono (Nat.le_of_lt HS3.out.lt))) hg4 (HS3.out.alloc (.cells #[.string ⟨#[195]⟩,.string ⟨#[237,160,128]⟩,.string ⟨#[]⟩,.string ⟨#[65,45,98]⟩,.string ⟨#[32]⟩,.string ⟨#[226,128,141]⟩] 9)).lt)
    have hsz4:(s ++ x).size ≤ 100 * (3 - k) + 60:=by rw [ByteArray.size_append];omega
    have hcat:s.size + x.size ≤ 1000:=by omega
    clear hk hx hxm hs4 hg4 hal m0 m1
    by_cases hk1:1 < k
    ·have kk1:(1:Int) < (k:Int):=by omega
     go_wp2_with fail
     go_roundw
     case rel => exact ⟨k - 1,_,by omega,by congr 1;omega,rfl,by have h1:(⟨#[46]⟩:ByteArray).size=1:=rfl;simp only [ByteArray.size_append] at *;omega,HS4,HB4⟩
     case measure => simp [intOf];omega
    ·have kk1:decide ((1:Int) < (k:Int))=false:=decide_eq_false (by omega)
     go_wp2_with fail
     go_roundw
     case rel => exact ⟨k - 1,_,by omega,by congr 1;omega,rfl,by omega,HS4,HB4⟩
     case measure => simp [intOf];omega
   ·go_wp2_with fail
    refine (HN.out _ 4 HS3.out HB3.out (by decide) (by decide)).mono ?_
    rintro e w4 ⟨m,rfl,m0,m1,hs4,hg4⟩
    have HS4:=Lib.hid hs4
    have HB4:=Lib.hid (raw_step HB3.out hg4 HS3.out.lt)
    clear hs4 hg4 HS3 HB3
    go_wp2_with fail
    go_loopw [4,6] (fun o n wr => ∃ (j:Nat) (s1:ByteArray),j ≤ 5 ∧ n=.int .i64 j ∧ o=.string s1 ∧ s1.size + 4 * j ≤ 100 * (3 - k) + 20 ∧ Hid (Src wr g V xs.length) ∧ Hid (Below g w1 wr)) (fun _ n _ => (intOf n).toNat)
    case atStart => exact ⟨(1 + m).toNat,s,by omega,by congr 1;omega,rfl,by omega,HS4,HB4⟩
    case round =>
     obtain ⟨j,s1,hj,rfl,rfl,hs1z,HS5,HB5⟩:=hrel
     by_cases hl2:0 < j
     ·have kk2:(0:Int) < (j:Int):=by omega
      go_wp2_with fail
      refine (HP.out _ HS5.out HB5.out).mono ?_
      rintro e w5 ⟨c5,rfl,_,hs5,hg5⟩
      have HB6:=Lib.hid (raw_step HB5.out hg5 HS5.out.lt)
      have HS6:=Lib.hid hs5
      have hal:Below w5.heap.size w5 (w5.alloc (.cells #[.int .i64 c5] 3)):=(Below.refl _ _).alloc (Nat.le_refl _) _
      have HE:=Lib.hid (refEnc_any _ [c5] _ (ints_one w5 c5))
      have HS7:=Lib.hid (HS6.out.alloc (.cells #[.int .i64 c5] 3))
      have HB7:=Lib.hid (HB6.out.trans (hal.mono (Nat.le_of_lt HS6.out.lt)))
      clear hs5 hg5 hal HS5 HB5
      go_wp2_with fail
      refine HE.out.mono ?_
      rintro e w6 ⟨rfl,b6⟩
      have hel:(ByteArray.mk (encodeL [c5]).1.toArray).size ≤ 4:=by have:=encodeL_len1 c5;simpa [ByteArray.size] using this
      have HS8:Hid (Src w6 g V xs.length):=Lib.hid (by obtain ⟨i,hi,hb⟩:=HS7.out;exact ⟨i,hi,hb.later b6⟩)
      have HB8:=Lib.hid (HB7.out.trans (b6.mono (Nat.le_of_lt HS7.out.lt)))
      clear b6 HE HS7 HB7
      generalize (encodeL [c5]).2=en at *
      generalize ByteArray.mk (encodeL [c5]).1.toArray=x5 at *
      have hcat:s1.size + x5.size ≤ 1000:=by omega
      go_wp2_with fail
      go_roundw
      case rel => exact ⟨j - 1,_,by omega,by congr 1;omega,rfl,by simp only [ByteArray.size_append] at *;omega,HS8,HB8⟩
      case measure => simp [intOf];omega
     ·have kk2:decide ((0:Int) < (j:Int))=false:=decide_eq_false (by omega)
      have hs6z:s1.size ≤ 100 * (3 - k) + 20:=by omega
      have hcat:s1.size ≤ 1000:=by omega
      by_cases hk1:1 < k
      ·have kk1:(1:Int) < (k:Int):=by omega
       go_wp2_with fail
       go_roundw
       case rel => exact ⟨k - 1,_,by omega,by congr 1;omega,rfl,by have h1:(⟨#[46]⟩:ByteArray).size=1:=rfl;simp only [ByteArray.size_append] at *;omega,HS5,HB5⟩
       case measure => simp [intOf];omega
      ·have kk1:decide ((1:Int) < (k:Int))=false:=decide_eq_false (by omega)
       go_wp2_with fail
       go_roundw
       case rel => exact ⟨k - 1,_,by omega,by congr 1;omega,rfl,by omega,HS5,HB5⟩
       case measure => simp [intOf];omega
   ·go_wp2_with fail
    refine (HN.out _ 4 HS3.out HB3.out (by decide) (by decide)).mono ?_
    rintro e w4 ⟨m,rfl,m0,m1,hs4,hg4⟩
    have HS4:=Lib.hid hs4
    have HB4:=Lib.hid (raw_step HB3.out hg4 HS3.out.lt)
    clear hs4 hg4 HS3 HB3
    go_wp2_with fail
    go_loopw [4,6] (fun o n wr => ∃ (j:Nat) (s1:ByteArray),j ≤ 5 ∧ n=.int .i64 j ∧ o=.string s1 ∧ s1.size + 4 * j ≤ 100 * (3 - k) + 20 ∧ Hid (Src wr g V xs.length) ∧ Hid (Below g w1 wr)) (fun _ n _ => (intOf n).toNat)
    case atStart => exact ⟨(1 + m).toNat,s,by omega,by congr 1;omega,rfl,by omega,HS4,HB4⟩
    case round =>
     obtain ⟨j,s1,hj,rfl,rfl,hs1z,HS5,HB5⟩:=hrel
     by_cases hl2:0 < j
     ·have kk2:(0:Int) < (j:Int):=by omega
      go_wp2_with fail
      refine (HP.out _ HS5.out HB5.out).mono ?_
      rintro e w5 ⟨c5,rfl,_,hs5,hg5⟩
      have HB6:=Lib.hid (raw_step HB5.out hg5 HS5.out.lt)
      have HS6:=Lib.hid hs5
      have hal:Below w5.heap.size w5 (w5.alloc (.cells #[.int .i64 c5] 3)):=(Below.refl _ _).alloc (Nat.le_refl _) _
      have HE:=Lib.hid (refEnc_any _ [c5] _ (ints_one w5 c5))
      have HS7:=Lib.hid (HS6.out.alloc (.cells #[.int .i64 c5] 3))
      have HB7:=Lib.hid (HB6.out.trans (hal.mono (Nat.le_of_lt HS6.out.lt)))
      clear hs5 hg5 hal HS5 HB5
      go_wp2_with fail
      refine HE.out.mono ?_
      rintro e w6 ⟨rfl,b6⟩
      have hel:(ByteArray.mk (encodeL [c5]).1.toArray).size ≤ 4:=by have:=encodeL_len1 c5;simpa [ByteArray.size] using this
      have HS8:Hid (Src w6 g V xs.length):=Lib.hid (by obtain ⟨i,hi,hb⟩:=HS7.out;exact ⟨i,hi,hb.later b6⟩)
      have HB8:=Lib.hid (HB7.out.trans (b6.mono (Nat.le_of_lt HS7.out.lt)))
      clear b6 HE HS7 HB7
      generalize (encodeL [c5]).2=en at *
      generalize ByteArray.mk (encodeL [c5]).1.toArray=x5 at *
      have hcat:s1.size + x5.size ≤ 1000:=by omega
      go_wp2_with fail
      go_roundw
      case rel => exact ⟨j - 1,_,by omega,by congr 1;omega,rfl,by simp only [ByteArray.size_append] at *;omega,HS8,HB8⟩
      case measure => simp [intOf];omega
     ·have kk2:decide ((0:Int) < (j:Int))=false:=decide_eq_false (by omega)
      have hs6z:s1.size ≤ 100 * (3 - k) + 20:=by omega
      have hcat:s1.size ≤ 1000:=by omega
      by_cases hk1:1 < k
      ·have kk1:(1:Int) < (k:Int):=by omega
       go_wp2_with fail
       go_roundw
       case rel => exact ⟨k - 1,_,by omega,by congr 1;omega,rfl,by have h1:(⟨#[46]⟩:ByteArray).size=1:=rfl;simp only [ByteArray.size_append] at *;omega,HS5,HB5⟩
       case measure => simp [intOf];omega
      ·have kk1:decide ((1:Int) < (k:Int))=false:=decide_eq_false (by omega)
       go_wp2_with fail
       go_roundw
       case rel => exact ⟨k - 1,_,by omega,by congr 1;omega,rfl,by omega,HS5,HB5⟩
       case measure => simp [intOf];omega
   ·go_wp2_with fail
    refine (HN.out _ 5 HS3.out HB3.out (by decide) (by decide)).mono ?_
    rintro e w4 ⟨m,rfl,m0,m1,hs4,hg4⟩
    have HS4:=Lib.hid hs4
    have HB4:=Lib.hid (raw_step HB3.out hg4 HS3.out.lt)
    clear hs4 hg4 HS3 HB3
    go_wp2_with fail
    go_loopw [4,9] (fun o n wr => ∃ (j:Nat) (s1:ByteArray),j ≤ 5 ∧ n=.int .i64 j ∧ o=.string s1 ∧ s1.size + 4 * j ≤ 100 * (3 - k) + 20 ∧ Hid (Src wr g V xs.length) ∧ Hid (Below g w1 wr)) (fun _ n _ => (intOf n).toNat)
    case atStart => exact ⟨(1 + m).toNat,s,by omega,by congr 1;omega,rfl,by omega,HS4,HB4⟩
    case round =>
     obtain ⟨j,s1,hj,rfl,rfl,hs1z,HS5,HB5⟩:=hrel
     by_cases hl2:0 < j
     ·have kk2:(0:Int) < (j:Int):=by omega
      go_wp2_with fail
      refine (HD.out _ HS5.out HB5.out).mono ?_
      rintro e w5 ⟨c5,rfl,_,hs5,hg5⟩
      have HB6:=Lib.hid (raw_step HB5.out hg5 HS5.out.lt)
      have HS6:=Lib.hid hs5
      have hal:Below w5.heap.size w5 (w5.alloc (.cells #[.int .i64 c5] 3)):=(Below.refl _ _).alloc (Nat.le_refl _) _
      have HE:=Lib.hid (refEnc_any _ [c5] _ (ints_one w5 c5))
      have HS7:=Lib.hid (HS6.out.alloc (.cells #[.int .i64 c5] 3))
      have HB7:=Lib.hid (HB6.out.trans (hal.mono (Nat.le_of_lt HS6.out.lt)))
      clear hs5 hg5 hal HS5 HB5
      go_wp2_with fail
      refine HE.out.mono ?_
      rintro e w6 ⟨rfl,b6⟩
      have hel:(ByteArray.mk (encodeL [c5]).1.toArray).size ≤ 4:=by have:=encodeL_len1 c5;simpa [ByteArray.size] using this
      have HS8:Hid (Src w6 g V xs.length):=Lib.hid (by obtain ⟨i,hi,hb⟩:=HS7.out;exact ⟨i,hi,hb.later b6⟩)
      have HB8:=Lib.hid (HB7.out.trans (b6.mono (Nat.le_of_lt HS7.out.lt)))
      clear b6 HE HS7 HB7
      generalize (encodeL [c5]).2=en at *
      generalize ByteArray.mk (encodeL [c5]).1.toArray=x5 at *
      have hcat:s1.size + x5.size ≤ 1000:=by omega
      go_wp2_with fail
      go_roundw
      case rel => exact ⟨j - 1,_,by omega,by congr 1;omega,rfl,by simp only [ByteArray.size_append] at *;omega,HS8,HB8⟩
      case measure => simp [intOf];omega
     ·have kk2:decide ((0:Int) < (j:Int))=false:=decide_eq_false (by omega)
      have hs6z:s1.size ≤ 100 * (3 - k) + 20:=by omega
      have hcat:s1.size ≤ 1000:=by omega
      by_cases hk1:1 < k
      ·have kk1:(1:Int) < (k:Int):=by omega
       go_wp2_with fail
       go_roundw
       case rel => exact ⟨k - 1,_,by omega,by congr 1;omega,rfl,by have h1:(⟨#[46]⟩:ByteArray).size=1:=rfl;simp only [ByteArray.size_append] at *;omega,HS5,HB5⟩
       case measure => simp [intOf];omega
      ·have kk1:decide ((1:Int) < (k:Int))=false:=decide_eq_false (by omega)
       go_wp2_with fail
       go_roundw
       case rel => exact ⟨k - 1,_,by omega,by congr 1;omega,rfl,by omega,HS5,HB5⟩
       case measure => simp [intOf];omega
  ·have kk:decide ((0:Int) < (k:Int))=false:=decide_eq_false (by omega)
   have HF:Hid (Below w.heap.size w wr):=Lib.hid (by rw [← HGE.out];exact HBg.out.trans HB.out)
   go_wp2_with fail
   go_ret
   exact ⟨_,rfl,HF.out⟩
end Go.Proofs.YtjafpikjpipbkaaGreatDoor
namespace Go.Proofs.YtjafpikjpipbkaaGreatDoor
open Go.RowKit
theorem join_take {ls:List (List Int)} {k:Nat} {y:List Int} (h:ls[k]?=some y):joinL (ls.take (k + 1))=(if k=0 then [] else joinL (ls.take k) ++ [46]) ++ y:=by
 rw [ND.take_snoc_get h]
 by_cases h0:k=0
 ·subst h0
  rw [if_pos rfl]
  rfl
 ·rw [if_neg h0,joinL_snoc _ _ (by
   intro e
   have hl:=(List.getElem?_eq_some_iff.1 h).1
   have h9:(ls.take k).length=0:=by rw [e];rfl
   rw [List.length_take] at h9
   omega)]
  simp
theorem joinL_le:∀ (ls:List (List Int)) (k:Nat),(joinL (ls.take k)).length ≤ (joinL ls).length
 | [],k => by simp
 | [a],k => by
   cases k with
   | zero => simp [joinL]
   | succ k => simp
 | a :: b :: r,k => by
   match k with
   | 0 => simp [joinL]
   | 1 => show (joinL [a]).length ≤ (a ++ 46 :: joinL (b :: r)).length;simp [joinL]
   | k + 2 =>
     have h:=joinL_le (b :: r) (k + 1)
     show (a ++ 46 :: joinL (b :: r.take k)).length ≤ (a ++ 46 :: joinL (b :: r)).length
     simp only [List.take_succ_cons] at h
     simp only [List.length_append,List.length_cons]
     omega
theorem join_any (v:Value) (ls:List (List Int)) (w:World) (hv:Lists w w.heap.size v ls) (hs:(joinL ls).length ≤ 900000) :
  Calls Tryz.prog 16 #[v] w (RetRow w (joinL ls)):=by
 obtain ⟨A,c,rfl,hc1,hc2,_,hcell⟩:=hv
 have HC:=Lib.hid hcell;clear hcell
 have hl:ls.length ≤ 9223372036854775807:=by unfold maxLen at hc2;omega
 clear hc1 hc2
 obtain ⟨i0,hi,hz0,hz1,hz2⟩:=info_parts Tryz.infoInt'
 have HLE:=Lib.hid (fun k => Nat.le_trans (joinL_le ls k) hs)
 obtain ⟨R,HR⟩:∃ R,Hid (R=joinL ls):=⟨_,Lib.hid rfl⟩
 rw [← HR.out]
 clear hs
 go_enter Tryz.func16,Tryz.ntmps16
 go_wp2_with fail
 go_loopw [3,8] (fun so si wr => ∃ (k:Nat) (acc:List Int) (A9:Option Addr) (c9:Nat),k ≤ ls.length ∧ si=.int .i64 k ∧ so=.slice A9 acc.length c9 ∧ Hid (acc=joinL (ls.take k)) ∧ Hid (wr.ownsRow w.heap.size 3 1 (.slice A9 acc.length c9) acc.length (acc.map (Value.int .i64))) ∧ Hid (Below w.heap.size w wr)) (fun _ si _ => ls.length - (intOf si).toNat)
 case atStart => exact ⟨0,[],none,0,by omega,rfl,rfl,Lib.hid rfl,Lib.hid (World.ownsRow_nil _ _ _ _),Lib.hid (Below.refl _ _)⟩
 case round =>
  obtain ⟨k,acc,A9,c9,hk,rfl,rfl,HA,HO,HB⟩:=hrel
  by_cases hlt:k < ls.length
  ·obtain ⟨ys,hxk,_⟩:=get_el hlt
   obtain ⟨ad,u,rfl,ha,e1',hi'⟩:=HC.out k ys hxk
   have HI:=Lib.hid (hi'.below HB.out |>.more HB.out.size)
   obtain ⟨Ay,cy,rfl,_⟩:=id hi'
   have e1:=(HB.out.cell (p:=ad.add k) (by rw [block_of_add];exact ha)).trans e1'
   have HX:=Lib.hid hxk
   have hal:acc.length ≤ 900000:=by rw [HA.out];exact HLE.out k
   have HN0:=Lib.hid (join_take HX.out)
   have hlen:acc.length + ys.length ≤ 900000:=by
    have h1:=HLE.out (k + 1)
    rw [HN0.out] at h1
    by_cases h0:k=0
    ·rw [if_pos h0] at h1
     have:acc=[]:=by rw [HA.out,h0];rfl
     rw [this];simpa using h1
    ·rw [if_neg h0,← HA.out] at h1
     simp at h1;omega
   have k0:(0:Int) ≤ (k:Int):=by omega
   have k1:(k:Int) < (ls.length:Int):=by omega
   clear hxk ha e1'
   by_cases h0:k=0
   ·have y1:¬ (0:Int) < (k:Int):=by omega
    have y2:decide (0 < (k:Int))=false:=by simp;omega
    have y3:decide (0 < k)=false:=by simp;omega
    have HN:Hid (acc ++ ys=joinL (ls.take (k + 1))):=Lib.hid (by
     have:acc=[]:=by rw [HA.out,h0];rfl
     rw [HN0.out,if_pos h0,this])
    clear h0
    go_wp2_with (at_builtin;refine wpList_append_ints (by rfl) (.tmp 18) (.tmp 19) rfl Tryz.underlying22 hi hz0 hz1 hz2 wr.heap.size w.heap.size (.slice A9 acc.length c9) acc (.slice Ay ys.length cy) ys rfl HO.out rfl HI.out (by omega) HB.out.size ?_;intro v6 w6 ho6 hg6 _;obtain ⟨A6,c6,rfl,_⟩:=id (Ints.of_own ho6);have HO6:=Lib.hid ho6;have HB6:=Lib.hid (HB.out.grown hg6 HB.out.size (fun q hq => (HO.out.lt q hq).1));clear ho6 hg6)
    go_roundw
    case rel => exact ⟨k + 1,acc ++ ys,A6,c6,by omega,by go_num,(by first | rfl | (simp;done)),HN,HO6,HB6⟩
    case measure => simp [intOf];omega
   ·have y1:(0:Int) < (k:Int):=by omega
    have y3:0 < k:=by omega
    have HN:Hid (acc ++ [46] ++ ys=joinL (ls.take (k + 1))):=Lib.hid (by rw [HN0.out,if_neg h0,HA.out])
    clear h0
    go_upto_region 7 with (at_builtin;refine wpList_append_ints (by rfl) (.tmp 15) (.tmp 16) rfl Tryz.underlying22 hi hz0 hz1 hz2 (wr.heap.size + 1) w.heap.size (.slice A9 acc.length c9) acc (.slice (some ⟨wr.heap.size,0,none⟩) 1 1) [46] rfl (HO.out.alloc _) rfl (by have h:=Ints.of_own (own_new wr 3 [46] (by simp));simpa using h) (by simp;omega) (by have:=HB.out.size;simp;omega) ?_;intro v5 w5 ho5 hg5 _;generalize hac:acc ++ [46]=acc5 at ho5;have HA5:=Lib.hid hac;clear hac;obtain ⟨A5,c5,rfl,_⟩:=id (Ints.of_own ho5);have HO5:=Lib.hid ho5;have HB5':=Lib.hid ((Below.refl wr.heap.size wr).alloc (Nat.le_refl _) (.cells #[.int .i64 46] 3));have HB5:=Lib.hid ((HB.out.alloc HB.out.size (.cells #[.int .i64 46] 3)).grown hg5 (by have:=HB.out.size;simp;omega) (fun q hq => (HO.out.lt q hq).1));have HG5:=Lib.hid hg5;clear ho5 hg5)
    have HI5:=Lib.hid (hi'.below HB5.out |>.more HB5.out.size)
    have HS5:=Lib.hid HB5.out.size
    clear hi'
    go_wp2_with (at_builtin;refine wpList_append_ints (by rfl) (.tmp 18) (.tmp 19) rfl Tryz.underlying22 hi hz0 hz1 hz2 w5.heap.size w.heap.size (.slice A5 acc5.length c5) acc5 (.slice Ay ys.length cy) ys rfl HO5.out rfl HI5.out (by rw [← HA5.out];simp;omega) HS5.out ?_;intro v6 w6 ho6 hg6 _;obtain ⟨A6,c6,rfl,_⟩:=id (Ints.of_own ho6);have HO6:=Lib.hid ho6;have HB6:=Lib.hid (HB5.out.grown hg6 HS5.out (fun q hq => (HO5.out.lt q hq).1));clear ho6 hg6)
    go_roundw
    case rel => exact ⟨k + 1,acc5 ++ ys,A6,c6,by omega,by go_num,(by first | rfl | (simp;done)),by rw [← HA5.out];exact HN,HO6,HB6⟩
    case measure => simp [intOf];omega
  ·have HE:Hid (R=acc):=Lib.hid (by rw [HR.out,HA.out,List.take_of_length_le (by omega)])
   go_wp2_with fail
   go_ret
   rw [HE.out]
   exact ⟨_,rfl,HO.out,HB.out⟩
end Go.Proofs.YtjafpikjpipbkaaGreatDoor
namespace Go.Proofs.YtjafpikjpipbkaaGreatDoor
open Go.RowKit ND
def RetUsual (w:World) (e:Ending) (w':World):Prop :=
 ∃ u0 u1 u2 u3 u4 u5:Int,e=.returned (.agg #[.int .i64 u0,.int .i64 u1,.int .i64 u2,.int .i64 u3,.int .i64 u4,.int .i64 u5]) ∧ (0 ≤ u0 ∧ u0 ≤ 8) ∧ (0 ≤ u1 ∧ u1 ≤ 254) ∧ (0 ≤ u2 ∧ u2 ≤ 5) ∧ (0 ≤ u3 ∧ u3 ≤ 11) ∧ (0 ≤ u4 ∧ u4 ≤ 60) ∧ (u5=0 ∨ u5=1 ∨ u5=4) ∧ Below w.heap.size w w'
theorem usual_any (c:Int) (w:World):Calls Tryz.prog 20 #[.int .i64 c] w (RetUsual w):=by
 by_cases q173:c=173
 ·subst q173;(go_enter Tryz.func20,Tryz.ntmps20;go_wp2;all_goals exact bodyPost_ret (v:=.agg #[.int .i64 8,.int .i64 0,.int .i64 5,.int .i64 9,.int .i64 1,.int .i64 4]) (by simp [results,Tryz.results20,go_sem]) rfl ⟨8,0,5,9,1,4,rfl,by omega,by omega,by omega,by omega,by omega,by omega,Below.alloc (Below.refl _ _) (Nat.le_refl _) _⟩)
 by_cases q8204:c=8204
 ·subst q8204;(go_enter Tryz.func20,Tryz.ntmps20;go_wp2;all_goals exact bodyPost_ret (v:=.agg #[.int .i64 8,.int .i64 0,.int .i64 5,.int .i64 9,.int .i64 1,.int .i64 4]) (by simp [results,Tryz.results20,go_sem]) rfl ⟨8,0,5,9,1,4,rfl,by omega,by omega,by omega,by omega,by omega,by omega,Below.alloc (Below.refl _ _) (Nat.le_refl _) _⟩)
 by_cases q8205:c=8205
 ·subst q8205;(go_enter Tryz.func20,Tryz.ntmps20;go_wp2;all_goals exact bodyPost_ret (v:=.agg #[.int .i64 8,.int .i64 0,.int .i64 5,.int .i64 9,.int .i64 1,.int .i64 4]) (by simp [results,Tryz.results20,go_sem]) rfl ⟨8,0,5,9,1,4,rfl,by omega,by omega,by omega,by omega,by omega,by omega,Below.alloc (Below.refl _ _) (Nat.le_refl _) _⟩)
 by_cases q183:c=183
 ·subst q183;(go_enter Tryz.func20,Tryz.ntmps20;go_wp2;all_goals exact bodyPost_ret (v:=.agg #[.int .i64 5,.int .i64 0,.int .i64 0,.int .i64 8,.int .i64 1,.int .i64 1]) (by simp [results,Tryz.results20,go_sem]) rfl ⟨5,0,0,8,1,1,rfl,by omega,by omega,by omega,by omega,by omega,by omega,Below.alloc (Below.refl _ _) (Nat.le_refl _) _⟩)
 by_cases q885:c=885
 ·subst q885;(go_enter Tryz.func20,Tryz.ntmps20;go_wp2;all_goals exact bodyPost_ret (v:=.agg #[.int .i64 5,.int .i64 0,.int .i64 0,.int .i64 8,.int .i64 1,.int .i64 1]) (by simp [results,Tryz.results20,go_sem]) rfl ⟨5,0,0,8,1,1,rfl,by omega,by omega,by omega,by omega,by omega,by omega,Below.alloc (Below.refl _ _) (Nat.le_refl _) _⟩)
 by_cases q12539:c=12539
 ·subst q12539;(go_enter Tryz.func20,Tryz.ntmps20;go_wp2;all_goals exact bodyPost_ret (v:=.agg #[.int .i64 5,.int .i64 0,.int .i64 0,.int .i64 8,.int .i64 1,.int .i64 1]) (by simp [results,Tryz.results20,go_sem]) rfl ⟨5,0,0,8,1,1,rfl,by omega,by omega,by omega,by omega,by omega,by omega,Below.alloc (Below.refl _ _) (Nat.le_refl _) _⟩)
 by_cases q803:c=803
 ·subst q803;(go_enter Tryz.func20,Tryz.ntmps20;go_wp2;all_goals exact bodyPost_ret (v:=.agg #[.int .i64 2,.int .i64 220,.int .i64 5,.int .i64 10,.int .i64 2,.int .i64 1]) (by simp [results,Tryz.results20,go_sem]) rfl ⟨2,220,5,10,2,1,rfl,by omega,by omega,by omega,by omega,by omega,by omega,Below.alloc (Below.refl _ _) (Nat.le_refl _) _⟩)
 by_cases q2381:c=2381
 ·subst q2381;(go_enter Tryz.func20,Tryz.ntmps20;go_wp2;all_goals exact bodyPost_ret (v:=.agg #[.int .i64 2,.int .i64 9,.int .i64 5,.int .i64 10,.int .i64 20,.int .i64 1]) (by simp [results,Tryz.results20,go_sem]) rfl ⟨2,9,5,10,20,1,rfl,by omega,by omega,by omega,by omega,by omega,by omega,Below.alloc (Below.refl _ _) (Nat.le_refl _) _⟩)
 by_cases q1072:c=1072
 ·subst q1072;(go_enter Tryz.func20,Tryz.ntmps20;go_wp2;all_goals exact bodyPost_ret (v:=.agg #[.int .i64 1,.int .i64 0,.int .i64 0,.int .i64 0,.int .i64 5,.int .i64 1]) (by simp [results,Tryz.results20,go_sem]) rfl ⟨1,0,0,0,5,1,rfl,by omega,by omega,by omega,by omega,by omega,by omega,Below.alloc (Below.refl _ _) (Nat.le_refl _) _⟩)
 by_cases q1488:c=1488
 ·subst q1488;(go_enter Tryz.func20,Tryz.ntmps20;go_wp2;all_goals exact bodyPost_ret (v:=.agg #[.int .i64 1,.int .i64 0,.int .i64 0,.int .i64 1,.int .i64 11,.int .i64 1]) (by simp [results,Tryz.results20,go_sem]) rfl ⟨1,0,0,1,11,1,rfl,by omega,by omega,by omega,by omega,by omega,by omega,Below.alloc (Below.refl _ _) (Nat.le_refl _) _⟩)
 by_cases q1523:c=1523
 ·subst q1523;(go_enter Tryz.func20,Tryz.ntmps20;go_wp2;all_goals exact bodyPost_ret (v:=.agg #[.int .i64 1,.int .i64 0,.int .i64 0,.int .i64 1,.int .i64 11,.int .i64 1]) (by simp [results,Tryz.results20,go_sem]) rfl ⟨1,0,0,1,11,1,rfl,by omega,by omega,by omega,by omega,by omega,by omega,Below.alloc (Below.refl _ _) (Nat.le_refl _) _⟩)
 by_cases q1576:c=1576
 ·subst q1576;(go_enter Tryz.func20,Tryz.ntmps20;go_wp2;all_goals exact bodyPost_ret (v:=.agg #[.int .i64 1,.int .i64 0,.int .i64 3,.int .i64 2,.int .i64 12,.int .i64 1]) (by simp [results,Tryz.results20,go_sem]) rfl ⟨1,0,3,2,12,1,rfl,by omega,by omega,by omega,by omega,by omega,by omega,Below.alloc (Below.refl _ _) (Nat.le_refl _) _⟩)
 by_cases q1577:c=1577
 ·subst q1577;(go_enter Tryz.func20,Tryz.ntmps20;go_wp2;all_goals exact bodyPost_ret (v:=.agg #[.int .i64 1,.int .i64 0,.int .i64 3,.int .i64 2,.int .i64 12,.int .i64 1]) (by simp [results,Tryz.results20,go_sem]) rfl ⟨1,0,3,2,12,1,rfl,by omega,by omega,by omega,by omega,by omega,by omega,Below.alloc (Below.refl _ _) (Nat.le_refl _) _⟩)
 by_cases q1632:c=1632
 ·subst q1632;(go_enter Tryz.func20,Tryz.ntmps20;go_wp2;all_goals exact bodyPost_ret (v:=.agg #[.int .i64 3,.int .i64 0,.int .i64 0,.int .i64 3,.int .i64 1,.int .i64 1]) (by simp [results,Tryz.results20,go_sem]) rfl ⟨3,0,0,3,1,1,rfl,by omega,by omega,by omega,by omega,by omega,by omega,Below.alloc (Below.refl _ _) (Nat.le_refl _) _⟩)
 by_cases q1776:c=1776
 ·subst q1776;(go_enter Tryz.func20,Tryz.ntmps20;go_wp2;all_goals exact bodyPost_ret (v:=.agg #[.int .i64 3,.int .i64 0,.int .i64 0,.int .i64 4,.int .i64 1,.int .i64 1]) (by simp [results,Tryz.results20,go_sem]) rfl ⟨3,0,0,4,1,1,rfl,by omega,by omega,by omega,by omega,by omega,by omega,Below.alloc (Below.refl _ _) (Nat.le_refl _) _⟩)
 by_cases q19968:c=19968
 ·subst q19968;(go_enter Tryz.func20,Tryz.ntmps20;go_wp2;all_goals exact bodyPost_ret (v:=.agg #[.int .i64 1,.int .i64 0,.int .i64 0,.int .i64 0,.int .i64 6,.int .i64 1]) (by simp [results,Tryz.results20,go_sem]) rfl ⟨1,0,0,0,6,1,rfl,by omega,by omega,by omega,by omega,by omega,by omega,Below.alloc (Below.refl _ _) (Nat.le_refl _) _⟩)
 have b173:(c == 173)=false:=by simpa using q173
 have b8204:(c == 8204)=false:=by simpa using q8204
 have b8205:(c == 8205)=false:=by simpa using q8205
 have b183:(c == 183)=false:=by simpa using q183
 have b885:(c == 885)=false:=by simpa using q885
 have b12539:(c == 12539)=false:=by simpa using q12539
 have b803:(c == 803)=false:=by simpa using q803
 have b2381:(c == 2381)=false:=by simpa using q2381
 have b1072:(c == 1072)=false:=by simpa using q1072
 have b1488:(c == 1488)=false:=by simpa using q1488
 have b1523:(c == 1523)=false:=by simpa using q1523
 have b1576:(c == 1576)=false:=by simpa using q1576
 have b1577:(c == 1577)=false:=by simpa using q1577
 have b1632:(c == 1632)=false:=by simpa using q1632
 have b1776:(c == 1776)=false:=by simpa using q1776
 have b19968:(c == 19968)=false:=by simpa using q19968
 clear q173 q8204 q8205 q183 q885 q12539 q803 q2381 q1072 q1488 q1523 q1576 q1577 q1632 q1776 q19968
 by_cases r769:769 ≤ c ∧ c ≤ 837
 ·obtain ⟨h1,h2⟩:=r769
  (go_enter Tryz.func20,Tryz.ntmps20;go_wp2;all_goals exact bodyPost_ret (v:=.agg #[.int .i64 2,.int .i64 230,.int .i64 5,.int .i64 10,.int .i64 2,.int .i64 1]) (by simp [results,Tryz.results20,go_sem]) rfl ⟨2,230,5,10,2,1,rfl,by omega,by omega,by omega,by omega,by omega,by omega,Below.alloc (Below.refl _ _) (Nat.le_refl _) _⟩)
 by_cases r945:945 ≤ c ∧ c ≤ 947
 ·obtain ⟨h1,h2⟩:=r945
  (go_enter Tryz.func20,Tryz.ntmps20;go_wp2;all_goals exact bodyPost_ret (v:=.agg #[.int .i64 1,.int .i64 0,.int .i64 0,.int .i64 0,.int .i64 4,.int .i64 1]) (by simp [results,Tryz.results20,go_sem]) rfl ⟨1,0,0,0,4,1,rfl,by omega,by omega,by omega,by omega,by omega,by omega,Below.alloc (Below.refl _ _) (Nat.le_refl _) _⟩)
 by_cases r7680:7680 ≤ c ∧ c ≤ 7684
 ·obtain ⟨h1,h2⟩:=r7680
  (go_enter Tryz.func20,Tryz.ntmps20;go_wp2;all_goals exact bodyPost_ret (v:=.agg #[.int .i64 1,.int .i64 0,.int .i64 0,.int .i64 0,.int .i64 3,.int .i64 1]) (by simp [results,Tryz.results20,go_sem]) rfl ⟨1,0,0,0,3,1,rfl,by omega,by omega,by omega,by omega,by omega,by omega,Below.alloc (Below.refl _ _) (Nat.le_refl _) _⟩)
 (go_enter Tryz.func20,Tryz.ntmps20;go_wp2;all_goals exact bodyPost_ret (v:=.agg #[.int .i64 6,.int .i64 0,.int .i64 0,.int .i64 8,.int .i64 1,.int .i64 0]) (by simp [results,Tryz.results20,go_sem]) rfl ⟨6,0,0,8,1,0,rfl,by omega,by omega,by omega,by omega,by omega,by omega,Below.alloc (Below.refl _ _) (Nat.le_refl _) _⟩)
end Go.Proofs.YtjafpikjpipbkaaGreatDoor
