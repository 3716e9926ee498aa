/-
  Merged texts: lemmas and walks that the last text of this claim leans on.
-/
import Derived.Test.YtjafpikjpipbkaaGreatDoorMgTS17
import Derived.Test.YtjafpikjpipbkaaGreatDoorMgTS16
import Derived.Test.YtjafpikjpipbkaaGreatDoorMgTS1
import Derived.Test.YtjafpikjpipbkaaGreatDoorMgTS11
import Derived.Shelf.Abstract
import Derived.Test.YtjafpikjpipbkaaGreatDoorMgTS5
import Derived.Test.YtjafpikjpipbkaaGreatDoorMgTS10
import Derived.Test.YtjafpikjpipbkaaGreatDoorMgTS13
import Derived.Test.YtjafpikjpipbkaaGreatDoorMgTS9
import Derived.Test.YtjafpikjpipbkaaGreatDoorMgTS3
set_option maxRecDepth 100000
set_option maxHeartbeats 40000000
namespace Go.Proofs.YtjafpikjpipbkaaGreatDoor
open Go.RowKit ND
theorem ofInt_i64 (a:Nat) (ha:a < 9223372036854775808):(BitVec.ofInt 64 (a:Int)).toNat=a:=by
 rw [BitVec.ofInt_natCast,BitVec.toNat_ofNat];exact Nat.mod_eq_of_lt (by omega)
theorem i64_and_nat (a b:Nat) (ha:a < 9223372036854775808) (hb:b < 9223372036854775808):bits .and .i64 (a:Int) (b:Int)=((a &&& b:Nat):Int):=by
 have hx:a &&& b < 2 ^ 63:=Nat.and_lt_two_pow _ (by omega)
 show IntKind.i64.wrap ((BitVec.ofInt 64 (a:Int) &&& BitVec.ofInt 64 (b:Int)).toNat:Int)=_
 rw [BitVec.toNat_and,ofInt_i64 a ha,ofInt_i64 b hb,IntKind.wrap_i64]
 omega
theorem i64_or_nat (a b:Nat) (ha:a < 9223372036854775808) (hb:b < 9223372036854775808):bits .or .i64 (a:Int) (b:Int)=((a ||| b:Nat):Int):=by
 have hx:a ||| b < 2 ^ 63:=Nat.or_lt_two_pow (by omega) (by omega)
 show IntKind.i64.wrap ((BitVec.ofInt 64 (a:Int) ||| BitVec.ofInt 64 (b:Int)).toNat:Int)=_
 rw [BitVec.toNat_or,ofInt_i64 a ha,ofInt_i64 b hb,IntKind.wrap_i64]
 omega
theorem bv_of {x:Int} {n:Nat} (hn:n < 256) (h:x=(n:Int)):Value.int .u8 x=bv (UInt8.ofNat n):=by
 unfold bv;rw [u8_ofNat_toNat hn,h]
theorem low6 {m:Nat} (hm:m < 9223372036854775808):bits .or .i64 128 (bits .and .i64 (m:Int) 63) % 256=((128 + m % 64:Nat):Int):=by
 have e1:bits .and .i64 (m:Int) 63=((m % 64:Nat):Int):=by
  have h:=i64_and_nat m 63 hm (by omega)
  rw [nat_mask6] at h
  exact h
 have e2:bits .or .i64 128 ((m % 64:Nat):Int)=((128 + m % 64:Nat):Int):=by
  have h:=i64_or_nat 128 (m % 64) (by omega) (by omega)
  rw [nat_join 6 128 (m % 64) (by decide) (by omega)] at h
  exact h
 rw [e1,e2];omega
theorem hi5 {m:Nat} (hm:m < 32):bits .or .i64 192 (m:Int) % 256=((192 + m:Nat):Int):=by
 have h:=i64_or_nat 192 m (by omega) (by omega)
 rw [nat_join 5 192 m (by decide) (by omega)] at h
 have e:((192:Nat):Int)=192:=rfl
 rw [e] at h
 rw [h];omega
theorem hi4 {m:Nat} (hm:m < 16):bits .or .i64 224 (m:Int) % 256=((224 + m:Nat):Int):=by
 have h:=i64_or_nat 224 m (by omega) (by omega)
 rw [nat_join 4 224 m (by decide) (by omega)] at h
 have e:((224:Nat):Int)=224:=rfl
 rw [e] at h
 rw [h];omega
theorem hi3 {m:Nat} (hm:m < 8):bits .or .i64 240 (m:Int) % 256=((240 + m:Nat):Int):=by
 have h:=i64_or_nat 240 m (by omega) (by omega)
 rw [nat_join 3 240 m (by decide) (by omega)] at h
 have e:((240:Nat):Int)=240:=rfl
 rw [e] at h
 rw [h];omega
theorem put_end {w w1:World} {base:Nat} {v v':Value} {acc:List UInt8} {o:Obj} {l:List UInt8} {e:TypeId} {k:Nat} {news:List Value} (hown:w.ownsRow base e 1 v acc.length (acc.map bv)) (hB:base ≤ w.heap.size)
  (h1:w1.ownsRow base e 1 v' (acc.length + k) (acc.map bv ++ news)) (hl:k=l.length) (hn:news=l.map bv) (hg:(w.alloc o).grownBy w1 v.ownBlock) :
  w1.ownsRow base e 1 v' (acc ++ l).length ((acc ++ l).map bv) ∧ Below base w w1:=by
 subst hl;subst hn
 refine ⟨by simpa using h1,?_⟩
 exact ((Below.refl base w).alloc hB o).grown hg (by simp;omega) (fun k hk => (hown.lt k hk).1)
theorem encN_2 {n:Nat} (h1:128 ≤ n) (h2:n < 2048):encN n=[UInt8.ofNat (192 + n / 64),UInt8.ofNat (128 + n % 64)]:=by
 unfold encN;rw [if_neg (by omega),if_pos h2]
theorem encN_3 {n:Nat} (h1:2048 ≤ n) (h2:n < 65536):encN n=[UInt8.ofNat (224 + n / 4096),UInt8.ofNat (128 + n / 64 % 64),UInt8.ofNat (128 + n % 64)]:=by
 unfold encN;rw [if_neg (by omega),if_neg (by omega),if_pos h2]
theorem encN_4 {n:Nat} (h1:65536 ≤ n):encN n=[UInt8.ofNat (240 + n / 262144),UInt8.ofNat (128 + n / 4096 % 64),UInt8.ofNat (128 + n / 64 % 64),UInt8.ofNat (128 + n % 64)]:=by
 unfold encN;rw [if_neg (by omega),if_neg (by omega),if_neg (by omega)]
theorem put_1 (n:Nat) (w:World) (base:Nat) (v:Value) (acc:List UInt8) (h:n < 128) (hown:w.ownsRow base 5 1 v acc.length (acc.map bv)) (hB:base ≤ w.heap.size) (hl:acc.length ≤ 1000000) :
  Calls Tryz.prog 101 #[v,.int .i64 n] w fun e w' => ∃ v',e=.returned v' ∧ w'.ownsRow base 5 1 v' (acc ++ encN n).length ((acc ++ encN n).map bv) ∧ Below base w w':=by
 have hsc:scalarB n=true:=(scalarB_iff _).2 (by omega)
 obtain ⟨i0,hi,hz0,hz1,hz2⟩:=info_parts Tryz.infoU8
 have hlen:=Lib.hid (fun w => length_any n w)
 have e:lenC n=1:=by rw [lenC_yes hsc,if_pos (by omega)]
 rw [e] at hlen
 clear e hsc
 have HO:=Lib.hid hown
 go_enter Tryz.func101,Tryz.ntmps101
 go_wp2_with (first | (go_at_call 43;refine (hlen.out _).mono ?_;rintro e w' ⟨rfl,rfl⟩) | (at_builtin;refine wpList_append_own _ rfl _ _ 143 rfl base 5 i0 (.int .u8 0) 1 1 Tryz.underlying143 hi hz0 hz1 hz2 rfl (by decide) _ _ _ rfl (hown.alloc _) ⟨w.heap.size,0,none⟩ 1 1 [.int .u8 (n:Int)] rfl rfl (cell_one_new _ _ _) ?c1 ?c2 ?c3 ?c4 ?_))
 case c1 => intro u hu;simp at hu;subst hu;rfl
 case c2 => unfold maxLen;omega
 case c3 => omega
 case c4 => simp;omega
 intro v' w1 hown1 hgrow _
 have hE:=put_end (l:=[UInt8.ofNat n]) HO.out hB hown1 rfl (by rw [List.map_cons,List.map_nil,← bv_of (by omega) rfl]) hgrow
 clear hown1 hgrow hown
 have e:encN n=[UInt8.ofNat n]:=by unfold encN;rw [if_pos h]
 rw [← e] at hE
 clear e
 have HE:=Lib.hid hE;clear hE
 go_wp2
 go_ret
 exact ⟨v',rfl,HE.out⟩
theorem put_2 (n:Nat) (w:World) (base:Nat) (v:Value) (acc:List UInt8) (h:128 ≤ n) (h':n < 2048) (hown:w.ownsRow base 5 1 v acc.length (acc.map bv)) (hB:base ≤ w.heap.size) (hl:acc.length ≤ 1000000) :
  Calls Tryz.prog 101 #[v,.int .i64 n] w fun e w' => ∃ v',e=.returned v' ∧ w'.ownsRow base 5 1 v' (acc ++ encN n).length ((acc ++ encN n).map bv) ∧ Below base w w':=by
 have hsc:scalarB n=true:=(scalarB_iff _).2 (by omega)
 obtain ⟨i0,hi,hz0,hz1,hz2⟩:=info_parts Tryz.infoU8
 have hlen:=Lib.hid (fun w => length_any n w)
 have e:lenC n=2:=by rw [lenC_yes hsc,if_neg (by omega),if_pos (by omega)]
 rw [e] at hlen
 clear e hsc
 have HO:=Lib.hid hown
 go_enter Tryz.func101,Tryz.ntmps101
 go_wp2_with (first | (go_at_call 43;refine (hlen.out _).mono ?_;rintro e w' ⟨rfl,rfl⟩) | (at_builtin;refine wpList_append_own _ rfl _ _ 143 rfl base 5 i0 (.int .u8 0) 1 1 Tryz.underlying143 hi hz0 hz1 hz2 rfl (by decide) _ _ _ rfl (hown.alloc _) ⟨w.heap.size,0,none⟩ 2 2 [.int .u8 (bits .or .i64 192 ((n:Int) / 64) % 256),.int .u8 (bits .or .i64 128 (bits .and .i64 (n:Int) 63) % 256)] rfl rfl (cells_new _ _ _) ?c1 ?c2 ?c3 ?c4 ?_))
 case c1 => intro u hu;simp at hu;rcases hu with rfl | rfl <;> rfl
 case c2 => unfold maxLen;omega
 case c3 => omega
 case c4 => simp;omega
 intro v' w1 hown1 hgrow _
 have hE:=put_end (l:=encN n) HO.out hB hown1 (by rw [encN_2 h h'];rfl) (by rw [encN_2 h h',List.map_cons,List.map_cons,List.map_nil,← bv_of (by omega) (hi5 (m:=n / 64) (by omega)),← bv_of (by omega) (low6 (m:=n) (by omega))];rfl) hgrow
 clear hown1 hgrow hown
 have HE:=Lib.hid hE;clear hE
 go_wp2
 go_ret
 exact ⟨v',rfl,HE.out⟩
theorem put_3 (n:Nat) (w:World) (base:Nat) (v:Value) (acc:List UInt8) (h:2048 ≤ n) (h':n < 65536) (hsc:scalarB n=true) (hown:w.ownsRow base 5 1 v acc.length (acc.map bv)) (hB:base ≤ w.heap.size) (hl:acc.length ≤ 1000000) :
  Calls Tryz.prog 101 #[v,.int .i64 n] w fun e w' => ∃ v',e=.returned v' ∧ w'.ownsRow base 5 1 v' (acc ++ encN n).length ((acc ++ encN n).map bv) ∧ Below base w w':=by
 obtain ⟨i0,hi,hz0,hz1,hz2⟩:=info_parts Tryz.infoU8
 have hlen:=Lib.hid (fun w => length_any n w)
 have e:lenC n=3:=by rw [lenC_yes hsc,if_neg (by omega),if_neg (by omega),if_pos (by omega)]
 rw [e] at hlen
 clear e hsc
 have HO:=Lib.hid hown
 go_enter Tryz.func101,Tryz.ntmps101
 go_wp2_with (first | (go_at_call 43;refine (hlen.out _).mono ?_;rintro e w' ⟨rfl,rfl⟩) | (at_builtin;refine wpList_append_own _ rfl _ _ 143 rfl base 5 i0 (.int .u8 0) 1 1 Tryz.underlying143 hi hz0 hz1 hz2 rfl (by decide) _ _ _ rfl (hown.alloc _) ⟨w.heap.size,0,none⟩ 3 3 [.int .u8 (bits .or .i64 224 ((n:Int) / 4096) % 256),.int .u8 (bits .or .i64 128 (bits .and .i64 ((n:Int) / 64) 63) % 256),.int .u8 (bits .or .i64 128 (bits .and .i64 (n:Int) 63) % 256)] rfl rfl (cells_new _ _ _) ?c1 ?c2 ?c3 ?c4 ?_))
 case c1 => intro u hu;simp at hu;rcases hu with rfl | rfl | rfl <;> rfl
 case c2 => unfold maxLen;omega
 case c3 => omega
 case c4 => simp;omega
 intro v' w1 hown1 hgrow _
 have hE:=put_end (l:=encN n) HO.out hB hown1 (by rw [encN_3 h h'];rfl) (by rw [encN_3 h h',List.map_cons,List.map_cons,List.map_cons,List.map_nil,← bv_of (by omega) (hi4 (m:=n / 4096) (by omega)),← bv_of (by omega) (low6 (m:=n / 64) (by omega)),← bv_of (by omega) (low6 (m:=n) (by omega))];rfl) hgrow
 clear hown1 hgrow hown
 have HE:=Lib.hid hE;clear hE
 go_wp2
 go_ret
 exact ⟨v',rfl,HE.out⟩
theorem put_4 (n:Nat) (w:World) (base:Nat) (v:Value) (acc:List UInt8) (h:65536 ≤ n) (hsc:scalarB n=true) (hown:w.ownsRow base 5 1 v acc.length (acc.map bv)) (hB:base ≤ w.heap.size) (hl:acc.length ≤ 1000000) :
  Calls Tryz.prog 101 #[v,.int .i64 n] w fun e w' => ∃ v',e=.returned v' ∧ w'.ownsRow base 5 1 v' (acc ++ encN n).length ((acc ++ encN n).map bv) ∧ Below base w w':=by
 have hs:=(scalarB_iff _).1 hsc
 obtain ⟨i0,hi,hz0,hz1,hz2⟩:=info_parts Tryz.infoU8
 have hlen:=Lib.hid (fun w => length_any n w)
 have e:lenC n=4:=by rw [lenC_yes hsc,if_neg (by omega),if_neg (by omega),if_neg (by omega)]
 rw [e] at hlen
 clear e hsc
 have HO:=Lib.hid hown
 go_enter Tryz.func101,Tryz.ntmps101
 go_wp2_with (first | (go_at_call 43;refine (hlen.out _).mono ?_;rintro e w' ⟨rfl,rfl⟩) | (at_builtin;refine wpList_append_own _ rfl _ _ 143 rfl base 5 i0 (.int .u8 0) 1 1 Tryz.underlying143 hi hz0 hz1 hz2 rfl (by decide) _ _ _ rfl (hown.alloc _) ⟨w.heap.size,0,none⟩ 4 4 [.int .u8 (bits .or .i64 240 ((n:Int) / 262144) % 256),.int .u8 (bits .or .i64 128 (bits .and .i64 ((n:Int) / 4096) 63) % 256),.int .u8 (bits .or .i64 128 (bits .and .i64 ((n:Int) / 64) 63) % 256),.int .u8 (bits .or .i64 128 (bits .and .i64 (n:Int) 63) % 256)] rfl rfl (cells_new _ _ _) ?c1 ?c2 ?c3 ?c4 ?_))
 case c1 => intro u hu;simp at hu;rcases hu with rfl | rfl | rfl | rfl <;> rfl
 case c2 => unfold maxLen;omega
 case c3 => omega
 case c4 => simp;omega
 intro v' w1 hown1 hgrow _
 have hE:=put_end (l:=encN n) HO.out hB hown1 (by rw [encN_4 h];rfl) (by rw [encN_4 h,List.map_cons,List.map_cons,List.map_cons,List.map_cons,List.map_nil,← bv_of (by omega) (hi3 (m:=n / 262144) (by omega)),← bv_of (by omega) (low6 (m:=n / 4096) (by omega)),← bv_of (by omega) (low6 (m:=n / 64) (by omega)),← bv_of (by omega) (low6 (m:=n) (by omega))];rfl) hgrow
 clear hown1 hgrow hown
 have HE:=Lib.hid hE;clear hE
 go_wp2
 go_ret
 exact ⟨v',rfl,HE.out⟩
theorem put_any (c:Int) (w:World) (base:Nat) (v:Value) (acc:List UInt8) (hsc:scalarB c=true) (hown:w.ownsRow base 5 1 v acc.length (acc.map bv)) (hB:base ≤ w.heap.size) (hl:acc.length ≤ 1000000) :
  Calls Tryz.prog 101 #[v,.int .i64 c] w fun e w' => ∃ v',e=.returned v' ∧ w'.ownsRow base 5 1 v' (acc ++ encC c).length ((acc ++ encC c).map bv) ∧ Below base w w':=by
 have hs:=(scalarB_iff _).1 hsc
 obtain ⟨n,rfl⟩:=Int.eq_ofNat_of_zero_le hs.1
 rw [encC,Int.toNat_natCast]
 by_cases h1:n < 128
 ·exact put_1 n w base v acc h1 hown hB hl
 ·by_cases h2:n < 2048
  ·exact put_2 n w base v acc (by omega) h2 hown hB hl
  ·by_cases h3:n < 65536
   ·exact put_3 n w base v acc (by omega) h3 hsc hown hB hl
   ·exact put_4 n w base v acc (by omega) hsc hown hB hl
end Go.Proofs.YtjafpikjpipbkaaGreatDoor
namespace Go.Proofs.YtjafpikjpipbkaaGreatDoor
open Go.RowKit ND
def RetDcd (w:World) (r:List Int × Nat × Nat) (e:Ending) (w':World):Prop :=
 ∃ v,e=.returned (.tuple #[v,.int .i64 r.2.1,.int .i64 r.2.2]) ∧ Ints w' w'.heap.size .i64 v r.1 ∧ Below w.heap.size w w'
def RetEnc (w:World) (r:List UInt8 × Nat) (e:Ending) (w':World):Prop :=
 e=.returned (.tuple #[.string ⟨r.1.toArray⟩,.int .i64 r.2]) ∧ Below w.heap.size w w'
theorem decodeL_full {l:List UInt8} (h:4096 < l.length):decodeL l=([],0,7):=by unfold decodeL;rw [if_pos h]
theorem decodeL_bad {l:List UInt8} (h:l.length ≤ 4096) (h2:(scanL l).2 < l.length):decodeL l=([],(scanL l).2,9):=by unfold decodeL;rw [if_neg (by omega),if_pos h2]
theorem decodeL_ok {l:List UInt8} (h:l.length ≤ 4096) (h2:l.length ≤ (scanL l).2):decodeL l=((scanL l).1,0,0):=by unfold decodeL;rw [if_neg (by omega),if_neg (by omega)]
theorem size_list (s:ByteArray):s.data.toList.length=s.size:=by rw [Array.length_toList];rfl
theorem encAll_snoc (cs:List Int) (c:Int):encAll (cs ++ [c])=encAll cs ++ encC c:=by simp [encAll]
theorem encAll_len (cs:List Int):(encAll cs).length ≤ 4 * cs.length:=by
 induction cs with
 | nil => simp [encAll]
 | cons c cs ih =>
   have h:(encC c).length ≤ 4:=by unfold encC encN;repeat (first | split | simp)
   simp only [encAll,List.flatMap_cons,List.length_append,List.length_cons] at ih ⊢
   omega
theorem take_snoc_of {xs:List Int} {k:Nat} {x:Int} (h:xs[k]?=some x):xs.take (k + 1)=xs.take k ++ [x]:=by
 obtain ⟨h1,h2⟩:=List.getElem?_eq_some_iff.1 h
 rw [List.take_succ_eq_append_getElem h1,h2]
theorem encodeL_full {cs:List Int} (h:4096 < cs.length):encodeL cs=([],7):=by unfold encodeL;rw [if_pos h]
theorem encodeL_ok {cs:List Int} (h:cs.length ≤ 4096) (h2:∀ c ∈ cs,scalarB c=true):encodeL cs=(encAll cs,0):=by
 unfold encodeL;rw [if_neg (by omega),if_pos (List.all_eq_true.2 h2)]
theorem encodeL_bad {cs:List Int} {k:Nat} {x:Int} (h:cs.length ≤ 4096) (h1:cs[k]?=some x) (h2:scalarB x=false):encodeL cs=([],3):=by
 unfold encodeL
 rw [if_neg (by omega),if_neg]
 intro h3
 have:=List.all_eq_true.1 h3 x (List.mem_of_getElem? h1)
 rw [h2] at this
 cases this
end Go.Proofs.YtjafpikjpipbkaaGreatDoor
namespace Go.Proofs.YtjafpikjpipbkaaGreatDoor
open Go.RowKit ND
theorem enc_any (v:Value) (xs:List Int) (w:World) (hv:Ints w w.heap.size .i64 v xs):Calls Tryz.prog 59 #[v] w (RetEnc w (encodeL xs)):=by
 obtain ⟨A,c,rfl,hc1,hc2,_,hcell⟩:=hv
 have HC:=Lib.hid hcell;clear hcell
 have hc2':c ≤ 9223372036854775807:=by unfold maxLen at hc2;omega
 clear hc2
 by_cases h:4096 < xs.length
 ·rw [encodeL_full h]
  go_enter Tryz.func59,Tryz.ntmps59
  go_wp2_with fail
  go_ret2
  exact ⟨rfl,Below.refl _ _⟩
 ·have hl:xs.length ≤ 4096:=by omega
  clear h
  go_enter Tryz.func59,Tryz.ntmps59
  go_wp2_with fail
  go_loopw [4,12] (fun b i wr => ∃ (k:Nat),k ≤ xs.length ∧ i=.int .i64 k ∧ wr.ownsRow w.heap.size 5 1 b (encAll (xs.take k)).length ((encAll (xs.take k)).map bv) ∧
    Hid (∀ x ∈ xs.take k,scalarB x=true) ∧ Below w.heap.size w wr) (fun _ i _ => xs.length - (intOf i).toNat)
  case atStart => exact ⟨0,by omega,rfl,World.ownsRow_nil _ _ _ _,Lib.hid (by simp),Below.refl _ _⟩
  case round =>
   obtain ⟨k,hk,rfl,hown,HS,hbel⟩:=hrel
   by_cases hlt:k < xs.length
   ·obtain ⟨x,hxk,hxm⟩:=get_of hlt
    obtain ⟨ad,rfl,hb,hce⟩:=HC.out k x hxk
    have hce':=(hbel.cell (p:=ad.add k) (by rw [block_of_add];exact hb)).trans hce
    have HXK:=Lib.hid hxk
    clear hce hxk hxm hb
    cases hsx:scalarB x
    ·have hsc:=Lib.hid (fun W => scalar_any x W)
     rw [hsx] at hsc
     have HX:=Lib.hid (encodeL_bad hl HXK.out hsx)
     clear hsx
     go_wp2_with (go_at_call 84;refine (hsc.out _).mono ?_;rintro e w1 ⟨rfl,rfl⟩)
     go_ret2
     rw [HX.out]
     exact ⟨rfl,hbel⟩
    ·have hsc:=Lib.hid (fun W => scalar_any x W)
     rw [hsx] at hsc
     have HSX:=Lib.hid hsx
     clear hsx
     go_wp2_with fail
     refine (hsc.out _).mono ?_
     rintro e w1 ⟨rfl,rfl⟩
     go_wp2_with fail
     have hel:=encAll_len (xs.take k)
     rw [List.length_take] at hel
     refine (put_any x _ w.heap.size _ (encAll (xs.take k)) HSX.out hown hbel.size (by omega)).mono ?_
     rintro e w1 ⟨v',rfl,hown',b1⟩
     have hbel1:=hbel.trans b1
     clear hown hbel b1 hel
     have e1:encAll (xs.take (k + 1))=encAll (xs.take k) ++ encC x:=by rw [take_snoc_of HXK.out,encAll_snoc]
     rw [← e1] at hown'
     clear e1
     go_wp2_with fail
     go_roundw
     case rel =>
      refine ⟨k + 1,by omega,by go_num,hown',Lib.hid ?_,hbel1⟩
      intro y hy
      rw [take_snoc_of HXK.out,List.mem_append,List.mem_singleton] at hy
      rcases hy with hy | rfl
      ·exact HS.out y hy
      ·exact HSX.out
     case measure => simp [intOf];omega
   ·obtain rfl:k=xs.length:=by omega
    rw [List.take_length] at hown HS
    have HX:=Lib.hid (encodeL_ok hl HS.out)
    have hcv:=bytes_of_ownsT (P:=Tryz.prog) 143 9 (ownsT_of hown) Tryz.underlying143 Tryz.underlying5 Tryz.underlying9
    clear hown
    go_wp2_with fail
    go_ret2
    rw [HX.out]
    exact ⟨rfl,hbel⟩
end Go.Proofs.YtjafpikjpipbkaaGreatDoor
namespace Go.Proofs.YtjafpikjpipbkaaGreatDoor
open Go.RowKit ND
section
variable {P:Program} {f:FuncId} {tys:Array TypeId} {a:Act} {o:Oper} {w:World}
end
end Go.Proofs.YtjafpikjpipbkaaGreatDoor
namespace Go.Proofs.YtjafpikjpipbkaaGreatDoor
open Go.RowKit ND
theorem act_fun {a:Act} {n:Nat} (hs:a.tmps.size=n) (hd:a.defers=[]):∃ f:Nat → Value,(∀ i,i < n → a.tmps[i]?=some (f i)) ∧ a=⟨((List.range n).map f).toArray,[]⟩:=by
 refine ⟨fun i => (a.tmps[i]?).getD undef,fun i hi => by show _=some ((a.tmps[i]?).getD undef);rw [Array.getElem?_eq_getElem (by omega)];rfl,?_⟩
 obtain ⟨ts,ds⟩:=a
 simp only at hs hd ⊢
 subst hd
 congr 1
 rw [← ts.toArray_toList]
 congr 1
 refine List.ext_getElem? fun i => ?_
 by_cases hi:i < n
 ·rw [List.getElem?_map,List.getElem?_range hi,List.getElem?_eq_getElem (by simpa [hs] using hi)]
  simp [hs,hi]
 ·rw [List.getElem?_eq_none (by simpa [hs] using hi),List.getElem?_eq_none (by simpa using hi)]
section
variable {P:Program} {o:Oper} {a:Act} {X:World} {K:Act → World → Prop} {Q:Exit → Act → World → Prop}
theorem ob_extract {x:Operand} {k:Nat} {vs:Array Value} {u:Value} (ho:o.op=.extract x k) (hx:a.eval x=.tuple vs) (hu:vs[k]?=some u) (h:K (a.put o.dst u) X):o.wp P a X K Q:=by
 unfold Oper.wp execOp
 rw [ho]
 simp only [hx,Instr.extract,hu]
 exact h
end
end Go.Proofs.YtjafpikjpipbkaaGreatDoor
namespace Go.Proofs.YtjafpikjpipbkaaGreatDoor
open Go.RowKit
def Lists (w:World) (B:Nat) (v:Value) (yss:List (List Int)):Prop :=
 ∃ A c,v=.slice A yss.length c ∧ yss.length ≤ c ∧ c ≤ maxLen ∧ (A=none → c=0) ∧
  ∀ i ys,yss[i]?=some ys → ∃ ad u,A=some ad ∧ ad.block < B ∧ w.cell? (ad.add i)=some u ∧ Ints w B .i64 u ys
section
variable {w w':World} {B B':Nat} {v:Value} {yss:List (List Int)}
theorem Lists.keep (h:Lists w B v yss) (hk:∀ p:Addr,p.block < B → w'.cell? p=w.cell? p):Lists w' B v yss:=by
 obtain ⟨A,c,hv,h1,h2,h3,h4⟩:=h
 refine ⟨A,c,hv,h1,h2,h3,fun i x hi => ?_⟩
 obtain ⟨ad,u,e,hb,c0,hi'⟩:=h4 i x hi
 exact ⟨ad,u,e,hb,(hk _ (by rw [block_of_add];exact hb)).trans c0,hi'.keep hk⟩
theorem Lists.more (h:Lists w B v yss) (hB:B ≤ B'):Lists w B' v yss:=by
 obtain ⟨A,c,hv,h1,h2,h3,h4⟩:=h
 refine ⟨A,c,hv,h1,h2,h3,fun i x hi => ?_⟩
 obtain ⟨ad,u,e,hb,c0,hi'⟩:=h4 i x hi
 exact ⟨ad,u,e,by omega,c0,hi'.more hB⟩
theorem Lists.below (h:Lists w B v yss) (hb:Below B w w'):Lists w' B v yss:=h.keep fun _ hp => hb.cell hp
theorem Lists.later (h:Lists w w.heap.size v yss) (hb:Below w.heap.size w w'):Lists w' w'.heap.size v yss:=(h.below hb).more hb.size
theorem Lists.none_:Lists w B (.slice none 0 0) []:=⟨none,0,rfl,Nat.le_refl _,Nat.zero_le _,fun _ => rfl,fun _ _ h => by simp at h⟩
theorem Lists.at_ (h:Lists w B v yss) {i:Nat} {ys:List Int} (hi:yss[i]?=some ys):∃ A c ad A' c',v=.slice A yss.length c ∧ A=some ad ∧ ad.block < B ∧ w.cell? (ad.add i)=some (.slice A' ys.length c') ∧ Ints w B .i64 (.slice A' ys.length c') ys:=by
 obtain ⟨A,c,hv,_,_,_,h4⟩:=h
 obtain ⟨ad,u,e,hb,c0,hi'⟩:=h4 i ys hi
 obtain ⟨A',c',rfl,_⟩:=id hi'
 exact ⟨A,c,ad,A',c',hv,e,hb,c0,hi'⟩
end
def LRow (w:World) (base:Nat) (v:Value) (yss:List (List Int)):Prop :=
 ∃ vs:List Value,vs.length=yss.length ∧ w.ownsRow base 22 1 v yss.length vs ∧
  ∀ (i:Nat) (u:Value) (ys:List Int),vs[i]?=some u → yss[i]?=some ys → ∃ A c,u=.slice A ys.length c ∧ Ints w w.heap.size .i64 u ys ∧ ∀ ad,A=some ad → ad.block < w.heap.size ∧ v.ownBlock ≠ some ad.block
section
variable {w w':World} {base:Nat} {v:Value} {yss:List (List Int)}
theorem LRow.shape (h:LRow w base v yss):∃ A c,v=.slice A yss.length c:=by
 obtain ⟨vs,_,ho,_⟩:=h
 rcases ho.2 with ⟨rfl,h0⟩ | ⟨g,cap,cur,rfl,_⟩
 ·exact ⟨none,0,by rw [h0]⟩
 ·exact ⟨_,_,rfl⟩
theorem LRow.later (h:LRow w base v yss) (hb:Below w.heap.size w w'):LRow w' base v yss:=by
 obtain ⟨vs,hl,ho,hr⟩:=h
 refine ⟨vs,hl,own_later ho hb,fun i u ys hi hy => ?_⟩
 obtain ⟨A,c,e,hi',hd⟩:=hr i u ys hi hy
 exact ⟨A,c,e,hi'.later hb,fun ad ha => ⟨Nat.lt_of_lt_of_le (hd ad ha).1 hb.size,(hd ad ha).2⟩⟩
theorem LRow.lists (h:LRow w base v yss):Lists w w.heap.size v yss:=by
 obtain ⟨vs,hl,ho,hr⟩:=h
 rcases ho.2 with ⟨rfl,h0⟩ | ⟨g,cap,cur,rfl,hbg,hgg,hnc,hcm,hcs,htake⟩
 ·obtain rfl:yss=[]:=List.eq_nil_of_length_eq_zero h0
  exact Lists.none_
 ·refine ⟨_,_,rfl,hnc,hcm,(by simp),fun i ys hi => ?_⟩
  obtain ⟨u,hu⟩:∃ u,vs[i]?=some u:=⟨_,List.getElem?_eq_getElem (by rw [hl];exact (List.getElem?_eq_some_iff.1 hi).1)⟩
  obtain ⟨A,c,rfl,hi',_⟩:=hr i u ys hu hi
  exact ⟨_,_,rfl,(own_base ho g rfl).2,ho.cells (g:=g) rfl i _ hu,hi'⟩
theorem ints_far {w w':World} {v:Value} {v' u:Value} {A:Option Addr} {c:Nat} {ys:List Int} (hg:Gr w v w' v') (hi:Ints w w.heap.size .i64 u ys) (hu:u=.slice A ys.length c) (hd:∀ ad,A=some ad → v.ownBlock ≠ some ad.block):Ints w' w'.heap.size .i64 u ys:=by
 obtain ⟨A',c',e,h1,h2,h3,h4⟩:=hi
 rw [e] at hu;cases hu
 refine ⟨A,c,e,h1,h2,h3,fun i x hx => ?_⟩
 obtain ⟨ad,e2,hb,hc⟩:=h4 i x hx
 refine ⟨ad,e2,Nat.lt_of_lt_of_le hb hg.1.2.2.2.1,?_⟩
 rw [← hc]
 exact World.cell?_of_block (by rw [block_of_add];exact hg.1.2.2.2.2 _ (fun hm => hd ad e2 (mem_ownS.1 hm)) hb)
end
end Go.Proofs.YtjafpikjpipbkaaGreatDoor
namespace Go.Proofs.YtjafpikjpipbkaaGreatDoor
open Go.RowKit
def splitStep (o:List (List Int)) (c:Int):List (List Int):=if c=46 then o ++ [[]] else o.dropLast ++ [o.getLastD [] ++ [c]]
def splitL (l:List Int):List (List Int):=l.foldl splitStep [[]]
def joinL:List (List Int) → List Int
 | [] => []
 | [a] => a
 | a :: b :: r => a ++ 46 :: joinL (b :: r)
theorem joinL_snoc:∀ (o:List (List Int)) (a:List Int),o ≠ [] → joinL (o ++ [a])=joinL o ++ 46 :: a
 | [],_,h => absurd rfl h
 | [x],a,_ => rfl
 | x :: y :: r,a,_ => by
   show x ++ 46 :: joinL (y :: r ++ [a])=x ++ 46 :: joinL (y :: r) ++ 46 :: a
   rw [joinL_snoc (y :: r) a (by simp)]
   simp
theorem joinL_last (o:List (List Int)) (a:List Int) (c:Int):joinL (o ++ [a ++ [c]])=joinL (o ++ [a]) ++ [c]:=by
 by_cases h:o=[]
 ·subst h;rfl
 ·rw [joinL_snoc _ _ h,joinL_snoc _ _ h];simp
theorem splitStep_ne (o:List (List Int)) (c:Int):splitStep o c ≠ []:=by
 unfold splitStep
 split <;> simp
theorem join_step {o:List (List Int)} (h:o ≠ []) (c:Int):joinL (splitStep o c)=joinL o ++ [c]:=by
 unfold splitStep
 by_cases hc:c=46
 ·rw [if_pos hc,joinL_snoc _ _ h,hc]
 ·rw [if_neg hc,joinL_last]
  have e:o.dropLast ++ [o.getLastD []]=o:=by
   rw [List.getLastD_eq_getLast?,List.getLast?_eq_some_getLast h,Option.getD_some]
   exact List.dropLast_concat_getLast h
  rw [e]
theorem join_fold:∀ (l:List Int) (o:List (List Int)),o ≠ [] → joinL (l.foldl splitStep o)=joinL o ++ l
 | [],o,_ => by simp
 | c :: r,o,h => by
   rw [List.foldl_cons,join_fold r _ (splitStep_ne _ _),join_step h]
   simp
theorem join_split (l:List Int):joinL (splitL l)=l:=by
 unfold splitL
 rw [join_fold l [[]] (by simp)]
 rfl
theorem split_all {P:Int → Prop}:∀ (l:List Int) (o:List (List Int)),(∀ x ∈ l,P x) → (∀ y ∈ o,∀ x ∈ y,P x) → ∀ y ∈ l.foldl splitStep o,∀ x ∈ y,P x
 | [],_,_,ho => ho
 | c :: r,o,hl,ho => by
   rw [List.foldl_cons]
   refine split_all r _ (fun x hx => hl x (List.mem_cons_of_mem _ hx)) ?_
   unfold splitStep
   intro y hy x hx
   split at hy
   ·rcases List.mem_append.1 hy with hy | hy
    ·exact ho y hy x hx
    ·simp at hy;subst hy;cases hx
   ·rcases List.mem_append.1 hy with hy | hy
    ·exact ho y (List.dropLast_subset _ hy) x hx
    ·simp only [List.mem_singleton] at hy
     subst hy
     rcases List.mem_append.1 hx with hx | hx
     ·by_cases hn:o=[]
      ·subst hn;simp at hx
      ·rw [List.getLastD_eq_getLast?,List.getLast?_eq_some_getLast hn,Option.getD_some] at hx
       exact ho _ (List.getLast_mem hn) x hx
     ·simp at hx;subst hx;exact hl _ List.mem_cons_self
theorem splitL_all {P:Int → Prop} {l:List Int} (h:∀ x ∈ l,P x):∀ y ∈ splitL l,∀ x ∈ y,P x:=split_all l [[]] h (by simp)
theorem split_len:∀ (l:List Int) (o:List (List Int)),(l.foldl splitStep o).length ≤ o.length + l.length
 | [],o => by simp
 | c :: r,o => by
   have h:=split_len r (splitStep o c)
   have h2:(splitStep o c).length ≤ o.length + 1:=by
    unfold splitStep
    split <;> simp <;> omega
   rw [List.foldl_cons,List.length_cons]
   omega
def xnB (y:List Int):Bool:=y.take 4 == [120,110,45,45]
end Go.Proofs.YtjafpikjpipbkaaGreatDoor
namespace Go.Proofs.YtjafpikjpipbkaaGreatDoor
open Go.RowKit
theorem grown_of_gr {w w':World} {v v':Value} (h:Gr w v w' v'):w.grownBy w' v.ownBlock :=
 ⟨h.1.1,h.1.2.1,h.1.2.2.1,h.1.2.2.2.1,fun k hk hne => h.1.2.2.2.2 k (fun hm => hne (mem_ownS.1 hm).symm) hk⟩
section
variable {w w':World} {base:Nat} {v:Value} {yss:List (List Int)} {av:Option Nat}
theorem own_other {e:TypeId} {size n:Nat} {vo v':Value} {xs:List Value} (h:w.ownsRow base e size vo n xs) (hg:Gr w v w' v') (hne:∀ g,v.ownBlock=some g → vo.ownBlock ≠ some g):w'.ownsRow base e size vo n xs :=
 h.kept (grown_of_gr hg) (by
  cases hv:vo.ownBlock with
  | none => exact .inl rfl
  | some g => exact .inr fun e => hne g e.symm hv)
end
end Go.Proofs.YtjafpikjpipbkaaGreatDoor
namespace Go.Proofs.YtjafpikjpipbkaaGreatDoor
open Go.RowKit
def SplS (base:Nat) (w:World) (vo:Value) (done:List (List Int)) (vl:Value) (last:List Int):Prop :=
 ∃ (vs:List Value),vs.length=done.length ∧ w.ownsRow base 22 1 vo (done.length + 1) (vs ++ [vl]) ∧ w.ownsRow base 3 1 vl last.length (last.map (Value.int .i64)) ∧
  (∀ g,vl.ownBlock=some g → vo.ownBlock ≠ some g) ∧
  ∀ (i:Nat) (u:Value) (ys:List Int),vs[i]?=some u → done[i]?=some ys → ∃ A c,u=.slice A ys.length c ∧ Ints w w.heap.size .i64 u ys ∧ ∀ ad,A=some ad → ad.block < w.heap.size ∧ vo.ownBlock ≠ some ad.block ∧ vl.ownBlock ≠ some ad.block
section
variable {w w':World} {base:Nat} {vo vl:Value} {done:List (List Int)} {last:List Int}
theorem SplS.later (h:SplS base w vo done vl last) (hb:Below w.heap.size w w'):SplS base w' vo done vl last:=by
 obtain ⟨vs,hl,ho,hv,hn,hr⟩:=h
 refine ⟨vs,hl,own_later ho hb,own_later hv hb,hn,fun i u ys hi hy => ?_⟩
 obtain ⟨A,c,e,hi',hd⟩:=hr i u ys hi hy
 exact ⟨A,c,e,hi'.later hb,fun ad ha => ⟨Nat.lt_of_lt_of_le (hd ad ha).1 hb.size,(hd ad ha).2⟩⟩
theorem own_shape {e:TypeId} {size n:Nat} {v:Value} {xs:List Value} (h:w.ownsRow base e size v n xs):∃ A c,v=.slice A n c ∧ ∀ ad,A=some ad → v.ownBlock=some ad.block:=by
 rcases h.2 with ⟨rfl,h0⟩ | ⟨g,cap,cur,rfl,_⟩
 ·exact ⟨none,0,by rw [h0],fun ad ha => by cases ha⟩
 ·exact ⟨_,_,rfl,fun ad ha => by cases ha;rfl⟩
theorem SplS.toL (h:SplS base w vo done vl last):LRow w base vo (done ++ [last]):=by
 obtain ⟨vs,hl,ho,hv,hn,hr⟩:=h
 refine ⟨vs ++ [vl],by simp [hl],by simpa using ho,fun i u ys hi hy => ?_⟩
 by_cases hlt:i < done.length
 ·rw [List.getElem?_append_left (by omega)] at hi hy
  obtain ⟨A,c,e,h1,h2⟩:=hr i u ys hi hy
  exact ⟨A,c,e,h1,fun ad ha => ⟨(h2 ad ha).1,(h2 ad ha).2.1⟩⟩
 ·rw [List.getElem?_append_right (by omega)] at hi hy
  have hi0:i - done.length=0:=by
   have:=(List.getElem?_eq_some_iff.1 hy).1
   simp at this;omega
  rw [hi0] at hy
  rw [hl,hi0] at hi
  simp at hi hy
  subst hi hy
  obtain ⟨A,c,e,hA⟩:=own_shape hv
  exact ⟨A,c,e,Ints.of_own hv,fun ad ha => ⟨(own_base hv _ (hA ad ha)).2,hn _ (hA ad ha)⟩⟩
theorem SplS.len (h:SplS base w vo done vl last):∃ A c g cap,vl=.slice A last.length c ∧ vo=.slice (some ⟨g,0,none⟩) (done.length + 1) cap ∧ w.cell? ⟨g,done.length,none⟩=some vl ∧ w.frozen? ⟨g,done.length,none⟩=false ∧ base ≤ g ∧ vl.ownBlock ≠ some g ∧ w.ownsRow base 3 1 vl last.length (last.map (Value.int .i64)):=by
 obtain ⟨vs,hl,ho,hv,hn,hr⟩:=h
 obtain ⟨A,c,e,_⟩:=own_shape hv
 rcases ho.2 with ⟨rfl,h0⟩ | ⟨g,cap,cur,rfl,hbg,hgg,hnc,hcm,hcs,htake⟩
 ·omega
 ·refine ⟨A,c,g,cap,e,rfl,?_,ho.frozenAt _,hbg,fun hg => hn g hg rfl,hv⟩
  exact (ho.cellAt done.length (by omega)).trans (by rw [List.getElem?_append_right (by omega)];simp [hl])
theorem SplS.next (h:SplS base w vo done vl last) {vo':Value} (hg:Gr w vo w' vo') (ho':∀ ws:List Value,w.ownsRow base 22 1 vo (done.length + 1) ws → w'.ownsRow base 22 1 vo' (done.length + 1 + 1) (ws ++ [.slice none 0 0])) :
  SplS base w' vo' (done ++ [last]) (.slice none 0 0) []:=by
 obtain ⟨vs,hl,ho,hv,hn,hr⟩:=id h
 have hsz:=hg.1.2.2.2.1
 have hne:∀ (A:Option Addr),(∀ ad,A=some ad → ad.block < w.heap.size ∧ vo.ownBlock ≠ some ad.block) → ∀ ad,A=some ad → ad.block < w'.heap.size ∧ vo'.ownBlock ≠ some ad.block ∧ (Value.slice none 0 0).ownBlock ≠ some ad.block:=fun A h1 ad ha => by
  refine ⟨by have:=(h1 ad ha).1;omega,fun he => ?_,fun he => by cases he⟩
  rcases hg.2 with h3 | h3
  ·rw [h3] at he;exact (h1 ad ha).2 he
  ·have:=h3 _ he
   have:=(h1 ad ha).1
   omega
 refine ⟨vs ++ [vl],by simp [hl],by simpa using ho' _ ho,World.ownsRow_nil _ _ _ _,(fun g he => by cases he),fun i u ys hi hy => ?_⟩
 by_cases hlt:i < done.length
 ·rw [List.getElem?_append_left (by omega)] at hi hy
  obtain ⟨A,c,e,h1,h2⟩:=hr i u ys hi hy
  exact ⟨A,c,e,ints_far hg h1 e fun ad ha => (h2 ad ha).2.1,hne A fun ad ha => ⟨(h2 ad ha).1,(h2 ad ha).2.1⟩⟩
 ·rw [List.getElem?_append_right (by omega)] at hi hy
  have hi0:i - done.length=0:=by
   have:=(List.getElem?_eq_some_iff.1 hy).1
   simp at this;omega
  rw [hi0] at hy
  rw [hl,hi0] at hi
  simp at hi hy
  subst hi hy
  obtain ⟨A,c,e,hA⟩:=own_shape hv
  have hd:∀ ad,A=some ad → ad.block < w.heap.size ∧ vo.ownBlock ≠ some ad.block:=fun ad ha => ⟨(own_base hv _ (hA ad ha)).2,hn _ (hA ad ha)⟩
  exact ⟨A,c,e,ints_far hg (Ints.of_own hv) e fun ad ha => (hd ad ha).2,hne A hd⟩
theorem SplS.put {w1:World} {g cap:Nat} {vl':Value} {last':List Int} (h:SplS base w vo done vl last) (hvo:vo=.slice (some ⟨g,0,none⟩) (done.length + 1) cap) (hg:Gr w vl w1 vl') (hv':w1.ownsRow base 3 1 vl' last'.length (last'.map (Value.int .i64))) :
  SplS base (w1.setCell ⟨g,done.length,none⟩ vl') vo done vl' last':=by
 obtain ⟨vs,hl,ho,hv,hn,hr⟩:=id h
 have hsz:=hg.1.2.2.2.1
 have hob:vo.ownBlock=some g:=by rw [hvo];rfl
 have hgl:g < w.heap.size:=(own_base ho g hob).2
 have hvg:vl'.ownBlock ≠ some g:=fun he => by
  rcases hg.2 with h3 | h3
  ·rw [h3] at he;exact hn g he hob
  ·have:=h3 _ he;omega
 have hG:Gr w1 vo (w1.setCell ⟨g,done.length,none⟩ vl') vo:=⟨⟨rfl,rfl,rfl,by simp [World.setCell],fun q hq hl => Below.heap_setCell w1 ⟨g,done.length,none⟩ vl' q (by rintro rfl;exact hq (mem_ownS.2 hob))⟩,.inl rfl⟩
 have ho1:w1.ownsRow base 22 1 vo (done.length + 1) (vs ++ [vl]):=own_other ho hg fun g' h1 h2 => hn g' h1 h2
 refine ⟨vs,hl,?_,own_other hv' hG fun g' h1 h2 => ?_,fun g' h1 h2 => ?_,fun i u ys hi hy => ?_⟩
 ·subst hvo
  have h5:=(ho1.stored done.length vl').1
  rwa [List.set_append_right _ _ (by omega),show done.length - vs.length=0 by omega,List.set_cons_zero] at h5
 ·rw [hob] at h1;cases h1;exact hvg h2
 ·rw [hob] at h2;cases h2;exact hvg h1
 ·obtain ⟨A,c,e,h1,h2⟩:=hr i u ys hi hy
  refine ⟨A,c,e,ints_far hG (ints_far hg h1 e fun ad ha => (h2 ad ha).2.2) e fun ad ha => (h2 ad ha).2.1,fun ad ha => ⟨?_,(h2 ad ha).2.1,fun he => ?_⟩⟩
  ·have:=(h2 ad ha).1
   simp [World.setCell];omega
  ·rcases hg.2 with h3 | h3
   ·rw [h3] at he;exact (h2 ad ha).2.2 he
   ·have:=h3 _ he;have:=(h2 ad ha).1;omega
end
theorem SplS.at6 {w w1:World} {base g cap:Nat} {vo vl vl':Value} {done:List (List Int)} {last:List Int} (h:SplS base w vo done vl last) (hvo:vo=.slice (some ⟨g,0,none⟩) (done.length + 1) cap) (hg:Gr w vl w1 vl') :
  w1.cell? ⟨g,done.length,none⟩=some vl ∧ w1.frozen? ⟨g,done.length,none⟩=false:=by
 obtain ⟨vs,hl,ho,hv,hn,hr⟩:=id h
 have ho1:w1.ownsRow base 22 1 vo (done.length + 1) (vs ++ [vl]):=own_other ho hg fun g' h1 h2 => hn g' h1 h2
 subst hvo
 exact ⟨(ho1.cellAt done.length (by omega)).trans (by rw [List.getElem?_append_right (by omega)];simp [hl]),ho1.frozenAt _⟩
theorem wpList_append_sliceG {P:Program} {ops:Array Oper} {rest:List Oper} {o:Oper} {a:Act} {w:World} {Q:Exit → Act → World → Prop} {T:TypeId} {i0:TypeInfo} (hw:Region.wanted o (yielded ops a.tmps)=true) (s x:Operand)
  (ho:o.op=.call { callee:=.builtin .append,args:=#[s,x],argTypes:=#[T,T] }) (ht:P.underlying T=some (.slice 22)) (hi:P.info? 22=some i0) (hz:i0.zero=some (.slice none 0 0)) (h1:i0.size=1) (h2:i0.bytes=24)
  (base:Nat) (v:Value) (nn:Nat) (ws:List Value) (ad:Addr) (A:Option Addr) (nl c:Nat) (hs:a.eval s=v) (hown0:w.ownsRow base 22 1 v nn ws) (hx:a.eval x=.slice (some ad) 1 1) (hc:w.cell? ad=some (.slice A nl c)) (hl:nn ≤ 1000000) (hb:base ≤ w.heap.size)
  (h:∀ v' w',(∀ ws2:List Value,w.ownsRow base 22 1 v nn ws2 → w'.ownsRow base 22 1 v' (nn + 1) (ws2 ++ [.slice A nl c])) → Gr w v w' v' → wpList P ops Q rest (a.put o.dst v') w'):wpList P ops Q (o :: rest) a w:=by
 refine wpList_step fun K hK => ?_
 rw [if_pos hw]
 have hwl:ws.length=nn:=by have:=hown0.1;simpa using this
 have hnews:∀ (j:Nat) (q:Value),[Value.slice A nl c][j]?=some q → w.cell? (ad.add j)=some q:=by
  intro j q hq
  cases j with
  | zero => simp at hq;subst hq;rw [← hc];simp [Addr.add]
  | succ j => simp at hq
 have hone:∀ q ∈ [Value.slice A nl c],q.oneCell'=true:=by intro q hq;simp at hq;subst hq;rfl
 obtain ⟨v',w',hr,ho',hg',_⟩:=run_append_own (P:=P) w base T o.type 22 i0 (.slice none 0 0) 1 24 ht hi hz h1 h2 rfl (by omega) v nn ws hown0 ad 1 1 [.slice A nl c] (by simp) hnews hone (by unfold maxLen;omega) (by omega) hb
 have hst:v'.ownBlock=v.ownBlock ∨ ∀ g,v'.ownBlock=some g → w.heap.size ≤ g:=by
  have h63':nn + 1 ≤ maxLen:=by unfold maxLen;omega
  rcases hown0.2 with ⟨rfl,h0⟩ | ⟨g,cap,cur,rfl,hbg,hg,hnc,hcm,hcs,htake⟩
  ·have hx:ws=[]:=List.eq_nil_of_length_eq_zero (by omega)
   obtain ⟨v2,w2,e2,ho2,_⟩:=run_append_own (P:=P) w w.heap.size T o.type 22 i0 (.slice none 0 0) 1 24 ht hi hz h1 h2 rfl (by omega) (.slice none 0 0) 0 [] (World.ownsRow_nil _ _ _ _) ad 1 1 [.slice A nl c] (by simp) hnews hone (by unfold maxLen;omega) (by omega) (Nat.le_refl _)
   rw [hr] at e2;cases e2
   exact .inr fun g hg => (own_base ho2 g hg).1
  ·by_cases hroom:nn + 1 ≤ cap
   ·have e2:=run_append_room (P:=P) w T o.type 22 i0 ht hi g nn cap cur hg ad 1 1 [.slice A nl c] (by simp [h1]) hnews hone hroom (by rw [h1,hcs];simp;omega)
    rw [hr] at e2;cases e2
    exact .inl rfl
   ·obtain ⟨v2,w2,e2,ho2,_⟩:=run_append_arg_grows (P:=P) w T o.type 22 i0 (.slice none 0 0) 1 24 ht hi hz h1 h2 rfl (by omega) ⟨g,0,none⟩ nn cap ws hown0.1 (hown0.cells (g:=g) rfl) ad 1 1 [.slice A nl c] (by simp) hnews (by omega) h63' (by omega)
    rw [hr] at e2;cases e2
    exact .inr fun q hq => (own_base ho2 q hq).1
 have hG:Gr w v w' v':=⟨onlyIn.of_own hg' fun g hg => mem_ownS.2 hg,hst⟩
 have h3:=hK _ _ (h v' w' (fun ws2 ho2 => by
  obtain ⟨v3,w3,hr3,ho3,_⟩:=run_append_own (P:=P) w base T o.type 22 i0 (.slice none 0 0) 1 24 ht hi hz h1 h2 rfl (by omega) v nn ws2 ho2 ad 1 1 [.slice A nl c] (by simp) hnews hone (by unfold maxLen;omega) (by omega) hb
  rw [hr] at hr3;cases hr3
  exact ho3) hG)
 unfold Oper.wp execOp
 simp only [ho,resolve,invoke,builtin,Sem.run_bind,Sem.run_pure,Result.andThen_ok,List.map_toArray,List.map_cons,List.map_nil,hs,hx,hr]
 exact h3
end Go.Proofs.YtjafpikjpipbkaaGreatDoor
namespace Go.Proofs.YtjafpikjpipbkaaGreatDoor
open Go.RowKit
theorem Tryz.infoRowS:(Tryz.prog.info? 22).map (fun i => (i.zero,i.size,i.bytes))=some (some (.slice none 0 0),1,24):=by kernel_rfl
def RetL (w:World) (R:List (List Int)) (e:Ending) (w':World):Prop:=∃ v,e=.returned v ∧ LRow w' w.heap.size v R ∧ Below w.heap.size w w'
theorem splitL_next {xs:List Int} {k:Nat} {x:Int} {done:List (List Int)} {last:List Int} (h:splitL (xs.take k)=done ++ [last]) (hx:xs[k]?=some x):splitL (xs.take (k + 1))=if x=46 then done ++ [last] ++ [[]] else done ++ [last ++ [x]]:=by
 rw [ND.take_snoc_get hx]
 unfold splitL at h ⊢
 rw [List.foldl_append,h]
 show splitStep (done ++ [last]) x=_
 unfold splitStep
 split
 ·rfl
 ·simp
theorem labels_any (v:Value) (xs:List Int) (w:World) (hv:Ints w w.heap.size .i64 v xs) (hs:xs.length ≤ 900000) :
  Calls Tryz.prog 15 #[v] w (RetL w (splitL xs)):=by
 obtain ⟨A,c,rfl,hc1,hc2,_,hcell⟩:=hv
 have HC:=Lib.hid hcell;clear hcell
 have hl:xs.length ≤ 9223372036854775807:=by omega
 clear hc1 hc2
 obtain ⟨i0,hi,hz0,hz1,hz2⟩:=info_parts Tryz.infoInt'
 obtain ⟨j0,hj,hy0,hy1,hy2⟩:=info_parts Tryz.infoRowS
 obtain ⟨R,HR⟩:∃ R,Hid (R=splitL xs):=⟨_,Lib.hid rfl⟩
 rw [← HR.out]
 go_enter Tryz.func15,Tryz.ntmps15
 go_wp2_with fail
 go_loopw [3,10] (fun so si wr => ∃ (k:Nat) (done:List (List Int)) (vl:Value) (last:List Int) (g cap:Nat),k ≤ xs.length ∧ si=.int .i64 k ∧ so=.slice (some ⟨g,0,none⟩) (done.length + 1) cap ∧ done.length ≤ k ∧ last.length ≤ k ∧ Hid (splitL (xs.take k)=done ++ [last]) ∧ Hid (SplS w.heap.size wr (.slice (some ⟨g,0,none⟩) (done.length + 1) cap) done vl last) ∧ Hid (Below w.heap.size w wr)) (fun _ si _ => xs.length - (intOf si).toNat)
 case atStart =>
  refine ⟨0,[],.slice none 0 0,[],w.heap.size,1,by omega,rfl,rfl,by simp,by simp,Lib.hid rfl,Lib.hid ⟨[],rfl,?_,World.ownsRow_nil _ _ _ _,(fun g he => by cases he),fun i u ys h => by simp at h⟩,Lib.hid ((Below.refl _ _).alloc (Nat.le_refl _) _)⟩
  exact ⟨by simp,.inr ⟨w.heap.size,1,#[.slice none 0 0],rfl,Nat.le_refl _,heap_alloc_new w _,Nat.le_refl _,by unfold maxLen;omega,by simp,by simp⟩⟩
 case round =>
  obtain ⟨k,done,vl,last,g,cap,hk,rfl,rfl,hd,hla,HS,HP,HB⟩:=hrel
  obtain ⟨A9,c9,g',cap',rfl,e9,hcell9,hfz9,hg9,hn9,hv9⟩:=HP.out.len
  cases e9
  by_cases hlt:k < xs.length
  ·obtain ⟨x,hxk,_⟩:=get_of hlt
   obtain ⟨ad,rfl,ha,e1'⟩:=HC.out k x hxk
   have e1:=(HB.out.cell (p:=ad.add k) (by rw [block_of_add];exact ha)).trans e1'
   have HN0:=Lib.hid (splitL_next HS.out hxk)
   have k0:(0:Int) ≤ (k:Int):=by omega
   have k1:(k:Int) < (xs.length:Int):=by omega
   clear hxk ha e1'
   by_cases h0:x=46
   ·have y1:(x == 46)=true:=beq_iff_eq.2 h0
    have HN:Hid (splitL (xs.take (k + 1))=done ++ [last] ++ [[]]):=Lib.hid (by rw [HN0.out,if_pos h0])
    clear h0
    obtain ⟨vs,hvl,hvo,_⟩:=id HP.out
    have HVO:=Lib.hid hvo
    have HPA:=Lib.hid (HP.out.later ((Below.refl wr.heap.size wr).alloc (Nat.le_refl _) (.cells #[.slice none 0 0] 22)))
    clear hvo hvl
    go_wp2_with (at_builtin;refine wpList_append_sliceG (by rfl) (.tmp 16) (.tmp 17) rfl Tryz.underlying29 hj hy0 hy1 hy2 w.heap.size (.slice (some ⟨g,0,none⟩) (done.length + 1) cap) (done.length + 1) (vs ++ [.slice A9 last.length c9]) ⟨wr.heap.size,0,none⟩ none 0 0 rfl (HVO.out.alloc _) rfl ((Blk.new wr 22 #[.slice none 0 0]).cell 0) (by omega) (by have:=HB.out.size;simp;omega) ?_;intro v6 w6 ho6 hg6;have HP6:=Lib.hid (HPA.out.next hg6 ho6);have HB6:=Lib.hid ((HB.out.alloc HB.out.size (.cells #[.slice none 0 0] 22)).trans (hg6.below (fun g' h => by cases h;exact hg9) (by have:=HB.out.size;simp;omega)));obtain ⟨_,_,g6,cap6,_,rfl,_⟩:=id HP6.out.len;clear ho6 hg6)
    go_roundw
    case rel => exact ⟨k + 1,done ++ [last],_,[],g6,cap6,by omega,by go_num,by simp,by simp;omega,by simp,HN,HP6,HB6⟩
    case measure => simp [intOf];omega
   ·have y1:(x == 46)=false:=beq_eq_false_iff_ne.2 h0
    have HN:Hid (splitL (xs.take (k + 1))=done ++ [last ++ [x]]):=Lib.hid (by rw [HN0.out,if_neg h0])
    clear h0
    have HVA:=Lib.hid hv9
    have HPA:=Lib.hid (HP.out.later ((Below.refl wr.heap.size wr).alloc (Nat.le_refl _) (.cells #[.int .i64 x] 3)))
    go_wp2_with (at_builtin;refine wpList_append_gr (by rfl) (.tmp 27) (.tmp 29) rfl Tryz.underlying22 hi hz0 hz1 hz2 (wr.heap.size + 1) w.heap.size (.slice A9 last.length c9) last (.slice (some ⟨wr.heap.size,0,none⟩) 1 1) [x] rfl (HVA.out.alloc _) rfl (by have h:=Ints.of_own (own_new wr 3 [x] (by simp));simpa using h) (by simp;omega) (by have:=HB.out.size;simp;omega) ?_;intro v6 w6 ho6 hg6;have HP6:=Lib.hid (HPA.out.put rfl hg6 ho6);obtain ⟨hcl6,hfr6⟩:=HPA.out.at6 rfl hg6;have HB6:=Lib.hid (((HB.out.alloc HB.out.size (.cells #[.int .i64 x] 3)).trans (hg6.below (fun g' h => (own_base HVA.out g' h).1) (by have:=HB.out.size;simp;omega))).setCell (p:=⟨g,done.length,none⟩) hg9 v6);obtain ⟨A6,c6,rfl,_⟩:=own_shape ho6;clear ho6 hg6)
    rw [show (last ++ [x]).length=last.length + 1 by simp] at HP6 HB6
    go_roundw
    case rel => exact ⟨k + 1,done,_,last ++ [x],g,cap,by omega,by go_num,rfl,by omega,by simp;omega,HN,HP6,HB6⟩
    case measure => simp [intOf];omega
  ·have HE:Hid (R=done ++ [last]):=Lib.hid (by rw [HR.out,← HS.out,List.take_of_length_le (by omega)])
   go_wp2_with fail
   go_ret
   rw [HE.out]
   exact ⟨_,rfl,HP.out.toL,HB.out⟩
end Go.Proofs.YtjafpikjpipbkaaGreatDoor
