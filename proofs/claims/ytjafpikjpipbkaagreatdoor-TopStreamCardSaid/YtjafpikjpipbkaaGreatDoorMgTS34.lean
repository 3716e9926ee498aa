/-
  Merged texts: lemmas and walks that the last text of this claim leans on.
-/
import Derived.Test.YtjafpikjpipbkaaGreatDoorMgTS33
import Derived.Test.YtjafpikjpipbkaaGreatDoorMgTS29
import Derived.Test.YtjafpikjpipbkaaGreatDoorMgTS17
import Derived.Test.YtjafpikjpipbkaaGreatDoorMgTS23
import Derived.Test.YtjafpikjpipbkaaGreatDoorMgTS18
import Derived.Test.YtjafpikjpipbkaaGreatDoorMgTS26
import Derived.Test.YtjafpikjpipbkaaGreatDoorMgTS31
import Derived.Test.YtjafpikjpipbkaaGreatDoorMgTS27
set_option maxRecDepth 100000
set_option maxHeartbeats 40000000
namespace Go.Proofs.YtjafpikjpipbkaaGreatDoor
open Go.RowKit ND
def T0:Tab:=⟨[],[],[],[],[],[],[],[],[],[],[],[]⟩
theorem T0_check:T0.check=0:=by decide +kernel
theorem T0_dec:decodeL [65]=([65],0,0):=by decide +kernel
theorem T0_map:mapR T0 [65]=([97],0,0):=by decide +kernel
theorem T0_nfc:nfcR T0 [97]=([97],0):=by decide +kernel
theorem T0_split:splitL [97]=[[97]]:=by decide +kernel
theorem T0_lab:labI [97]=false:=by kernel_rfl
theorem T0_dom:(domR T0 [[97]]).2=0:=by decide +kernel
theorem T0_key:keyR T0 [97]=([97],0):=by decide +kernel
theorem T0_join:joinL [[97]]=[97]:=by decide +kernel
theorem T0_enc:encodeL [97]=([97],0):=by decide +kernel
theorem T0_acc:accE T0 [97]=0:=by decide +kernel
theorem T0_good:GoodV T0 [97]:=by
 refine ⟨T0_acc,by simp,?_,by decide,?_,?_,by decide,?_⟩
 ·decide +kernel
 ·intro x hx;simp at hx;subst hx;decide +kernel
 ·intro x hx;simp at hx;subst hx;decide +kernel
 ·intro x hx;simp at hx;subst hx;unfold plainC;decide
theorem scheck_one (s:ByteArray) (b c:Nat) (w:World) (h:w.cell? ⟨b,0,none⟩=some (.string s)) (h0:(s.toList == (⟨#[]⟩:ByteArray).toList)=false) (h1:s.size ≤ 63) :
  Calls Tryz.prog 242 #[.slice (some ⟨b,0,none⟩) 1 c] w fun e w' => e=.returned (.tuple #[.int .i64 0,.int .i64 0]) ∧ w=w':=by
 have y1:decide ((63:Int) < (s.size:Int))=false:=decide_eq_false (by omega)
 have y2:decide ((253:Int) < (s.size:Int))=false:=decide_eq_false (by omega)
 have h0':s.toList.isEmpty=false:=by
  cases hl:s.toList with
  | nil => rw [hl] at h0;simp at h0
  | cons a l => rfl
 go_enter Tryz.func242,Tryz.ntmps242
 go_wp2_with fail
 refine wp_loop_rounds 2 ?_
 rw [rounds_succ]
 go_wp2_with fail
 rw [rounds_succ]
 go_wp2_with fail
 refine wp_loop_rounds 2 ?_
 rw [rounds_succ]
 go_wp2_with fail
 rw [rounds_succ]
 go_wp2_with fail
 go_ret2
 exact ⟨rfl,rfl⟩
theorem join_one (s sep:ByteArray) (b c:Nat) (w:World) (h:w.cell? ⟨b,0,none⟩=some (.string s)) :
  Calls Tryz.prog 250 #[.slice (some ⟨b,0,none⟩) 1 c,.string sep] w fun e w' => e=.returned (.string s) ∧ w=w':=by
 go_enter Tryz.func250,Tryz.ntmps250
 go_wp2_with fail
 go_ret
 exact ⟨rfl,rfl⟩
theorem sname_one (s:ByteArray) (b c:Nat) (w:World) (h:w.cell? ⟨b,0,none⟩=some (.string s)) (h0:(s.toList == (⟨#[]⟩:ByteArray).toList)=false) (h1:s.size ≤ 63) :
  Calls Tryz.prog 243 #[.slice (some ⟨b,0,none⟩) 1 c] w fun e w' => e=.returned (.tuple #[.string s,.int .i64 0]) ∧ w=w':=by
 have HC:=Lib.hid (scheck_one s b c w h h0 h1)
 have HJ:=Lib.hid (fun sep => join_one s sep b c w h)
 clear h0
 go_enter Tryz.func243,Tryz.ntmps243
 go_wp2_with (first | (go_at_call 242;refine HC.out.mono ?_;rintro e w1 ⟨rfl,rfl⟩) | (go_at_call 250;refine (HJ.out _).mono ?_;rintro e w2 ⟨rfl,rfl⟩))
 go_ret2
 exact ⟨rfl,rfl⟩
theorem processA (t:Tv) (w:World) (ht:TabR w w.heap.size t T0) (hg:Glob w) :
  Calls Tryz.prog 6 #[t.val,.string ⟨#[65]⟩] w fun e w' => ∃ v a,e=.returned (.tuple #[v,.int .i64 a,.int .i64 0]) ∧ Lists w' w'.heap.size v [[97]] ∧ Below w.heap.size w w':=by
 refine (process_any t T0 ⟨#[65]⟩ w ht hg).mono ?_
 rintro e w' ⟨v,a,k,he,hb,h1,h2⟩
 have hk:k=0:=h2 [65] [97] [97] ⟨T0_check,by kernel_rfl,⟨0,T0_dec⟩,⟨0,T0_map⟩,T0_nfc⟩ ⟨by rw [T0_split];intro y hy;simp at hy;subst hy;exact ⟨T0_lab,T0_good⟩,by rw [T0_split];exact T0_dom⟩
 obtain ⟨p,q,n,ls,ho,hl,hs⟩:=h1 hk
 have hd:=ho.dec
 obtain ⟨a1,hd⟩:=ho.dec
 rw [show ((⟨#[65]⟩:ByteArray).data.toList)=[65] from rfl,T0_dec] at hd
 injection hd with hp _
 subst hp
 obtain ⟨a2,hm⟩:=ho.map
 rw [T0_map] at hm
 injection hm with hq _
 subst hq
 have hn:=ho.nfc
 rw [T0_nfc] at hn
 injection hn with hn _
 subst hn
 rw [hs (by rw [T0_split];intro y hy;simp at hy;subst hy;exact T0_lab),T0_split] at hl
 subst hk
 exact ⟨v,a,he,hl,hb⟩
def RetAsc (w:World) (e:Ending) (w':World):Prop :=
 ∃ v,e=.returned (.tuple #[v,.string ⟨#[97]⟩,.int .i64 0,.int .i64 0]) ∧ Lists w' w'.heap.size v [[97]] ∧ Below w.heap.size w w'
theorem asciiA (t:Tv) (w:World) (ht:TabR w w.heap.size t T0) (hg:Glob w) :
  Calls Tryz.prog 233 #[t.val,.string ⟨#[65]⟩] w (RetAsc w):=by
 have HB0:Hid (Below w.heap.size w (w.alloc (.cells t.cells 26))):=Lib.hid ((Below.refl _ _).alloc (Nat.le_refl _) _)
 have HT:Hid (Tbl (w.alloc (.cells t.cells 26)) w.heap.size t T0):=Lib.hid ⟨Blk.new _ _ _,ht.later HB0.out⟩
 have HP:=Lib.hid (processA t _ HT.out.2 (hg.later HB0.out))
 obtain ⟨i0,hi,hz0,hz1,hz2⟩:=info_parts Tryz.infoStr
 clear ht hg
 go_enter Tryz.func233,Tryz.ntmps233
 go_upto_region 1 with fail
 generalize w.alloc (.cells t.cells 26)=w1 at *
 obtain ⟨x0,x1,x2,x3,x4,x5,x6,x7,x8,x9,x10,x11⟩:=HT.out.1.tab
 go_upto_region 2 with (go_at_call 6;refine HP.out.mono ?_;rintro e w2 ⟨v,a,rfl,hl,b2⟩)
 have HL:=Lib.hid hl
 have HB2:=Lib.hid (below_next HB0.out b2)
 obtain ⟨A,c,ad,A',c',rfl,rfl,hadb,hce,hin⟩:=hl.at_ (i:=0) rfl
 have HI:=Lib.hid hin
 have hce0:=cell_zero hce
 clear x0 x1 x2 x3 x4 x5 x6 x7 x8 x9 x10 x11 HT HP hl b2 hce hin HB0
 have HA:=Lib.hid (aencode_any _ _ w2 HI.out (by simp))
 go_wp2_with fail
 refine wp_loop_rounds 2 ?_
 rw [rounds_succ]
 go_upto_region 9 with (go_at_call 104;refine HA.out.mono ?_;rintro e w3 ⟨s,k,rfl,_,hs,b3⟩)
 obtain ⟨rfl,rfl⟩:=hs (by decide) (by simp) (by simp)
 have HL3:=Lib.hid (HL.out.later b3)
 have HB3:=Lib.hid (HB2.out.trans (b3.mono HB2.out.size))
 clear hce0 HI HA HL HB2 hs b3
 go_wp2_with (at_builtin;refine wpList_append_own _ rfl _ _ 62 rfl w3.heap.size 9 i0 (.string ⟨#[]⟩) 1 16 Tryz.underlying62 hi hz0 hz1 hz2 rfl (by decide) _ _ _ rfl (World.ownsRow_nil _ _ _ _) ⟨w3.heap.size,0,none⟩ 1 1 [.string ⟨(asB [97]).toArray⟩] rfl rfl (cells_new _ [_] _) ?c2 ?c3 ?c4 ?c5 ?_)
 case c2 => intro u hu;simp at hu;subst hu;rfl
 case c3 => unfold maxLen;omega
 case c4 => omega
 case c5 => simp
 intro v4 w4 ho4 hg4 _
 have b4:Below w3.heap.size w3 w4:=((Below.refl _ w3).alloc (Nat.le_refl _) _).grown hg4 (by simp) (by intro k hk;cases hk)
 have HL4:=Lib.hid (HL3.out.later b4)
 have HB4:=Lib.hid (HB3.out.trans (b4.mono HB3.out.size))
 obtain ⟨g,cap,rfl,hbg,hgl,hnc,hcm,hcs⟩:=own_at ho4 (by omega)
 have d0:w4.cell? ⟨g,0,none⟩=some (.string ⟨#[97]⟩):=hcs 0 _ rfl
 have HC:=Lib.hid (scheck_one ⟨#[97]⟩ g cap w4 d0 (by kernel_rfl) (by decide))
 have HN:=Lib.hid (sname_one ⟨#[97]⟩ g cap w4 d0 (by kernel_rfl) (by decide))
 clear ho4 hg4 b4 hcs HL3 HB3
 go_wp2_with fail
 rw [rounds_succ]
 go_wp2_with (first | (go_at_call 242;refine HC.out.mono ?_;rintro e w5 ⟨rfl,rfl⟩) | (go_at_call 243;refine HN.out.mono ?_;rintro e w6 ⟨rfl,rfl⟩))
 exact bodyPost_ret (v:=.tuple #[.slice (some ad) 1 c,.string ⟨#[97]⟩,.int .i64 0,.int .i64 0]) (by simp [results,Tryz.results233,go_sem]) rfl ⟨_,rfl,HL4.out,HB4.out⟩
theorem toA (t:Tv) (w:World) (ht:TabR w w.heap.size t T0) (hg:Glob w) :
  Calls Tryz.prog 224 #[t.val,.string ⟨#[65]⟩] w fun e w' => e=.returned (.tuple #[.string ⟨#[97]⟩,.int .i64 0,.int .i64 0]) ∧ Below w.heap.size w w':=by
 have HB0:Hid (Below w.heap.size w (w.alloc (.cells t.cells 26))):=Lib.hid ((Below.refl _ _).alloc (Nat.le_refl _) _)
 have HT:Hid (Tbl (w.alloc (.cells t.cells 26)) w.heap.size t T0):=Lib.hid ⟨Blk.new _ _ _,ht.later HB0.out⟩
 have HP:=Lib.hid (asciiA t _ HT.out.2 (hg.later HB0.out))
 clear ht hg
 go_enter Tryz.func224,Tryz.ntmps224
 go_upto_region 1 with fail
 generalize w.alloc (.cells t.cells 26)=w1 at *
 obtain ⟨x0,x1,x2,x3,x4,x5,x6,x7,x8,x9,x10,x11⟩:=HT.out.1.tab
 go_wp2_with (go_at_call 233;refine HP.out.mono ?_;rintro e w2 ⟨v,rfl,_,b2⟩)
 go_ret3
 exact ⟨rfl,below_next HB0.out b2⟩
theorem toU (t:Tv) (w:World) (ht:TabR w w.heap.size t T0) (hg:Glob w) :
  Calls Tryz.prog 225 #[t.val,.string ⟨#[65]⟩] w fun e w' => e=.returned (.tuple #[.string ⟨#[97]⟩,.int .i64 0,.int .i64 0]) ∧ Below w.heap.size w w':=by
 have HB0:Hid (Below w.heap.size w (w.alloc (.cells t.cells 26))):=Lib.hid ((Below.refl _ _).alloc (Nat.le_refl _) _)
 have HT:Hid (Tbl (w.alloc (.cells t.cells 26)) w.heap.size t T0):=Lib.hid ⟨Blk.new _ _ _,ht.later HB0.out⟩
 have HP:=Lib.hid (asciiA t _ HT.out.2 (hg.later HB0.out))
 have HJ:=Lib.hid (fun v W (h:Lists W W.heap.size v [[97]]) => join_any v [[97]] W h (by rw [T0_join];decide))
 rw [T0_join] at HJ
 have HE:=Lib.hid (fun v W (h:Ints W W.heap.size .i64 v [97]) => enc_any v [97] W h)
 rw [T0_enc] at HE
 clear ht hg
 go_enter Tryz.func225,Tryz.ntmps225
 go_upto_region 1 with fail
 generalize w.alloc (.cells t.cells 26)=w1 at *
 obtain ⟨x0,x1,x2,x3,x4,x5,x6,x7,x8,x9,x10,x11⟩:=HT.out.1.tab
 go_upto_region 4 with (go_at_call 233;refine HP.out.mono ?_;rintro e w2 ⟨v,rfl,hl,b2⟩)
 have HX:=Lib.hid (HJ.out _ w2 hl)
 have HB2:=Lib.hid (below_next HB0.out b2)
 clear x0 x1 x2 x3 x4 x5 x6 x7 x8 x9 x10 x11 hl b2 HP HT HB0
 go_wp2_with (first | (go_at_call 16;refine HX.out.mono ?_;rintro e w3 ⟨u,rfl,ho,b3⟩;have HY:=Lib.hid (HE.out _ w3 (Ints.of_own ho));have HB3:=Lib.hid (HB2.out.trans (b3.mono HB2.out.size));clear ho b3) | (go_at_call 59;refine HY.out.mono ?_;rintro e w4 ⟨rfl,b4⟩))
 go_ret3
 exact ⟨rfl,HB3.out.trans (b4.mono HB3.out.size)⟩
theorem sasciiA (v:Value) (w:World) (hv:Ints w w.heap.size .i64 v [97]) :
  Calls Tryz.prog 234 #[v] w fun e w' => e=.returned (.bool true) ∧ w=w':=by
 obtain ⟨A,c,rfl,hc1,hc2,_,hcell⟩:=hv
 obtain ⟨ad,rfl,hb,hce⟩:=hcell 0 97 rfl
 have hce0:=cell_zero hce
 clear hcell hce
 show Calls _ _ #[.slice (some ad) 1 c] _ _
 go_enter Tryz.func234,Tryz.ntmps234
 go_wp2_with fail
 refine wp_loop_rounds 2 ?_
 rw [rounds_succ]
 go_wp2_with fail
 rw [rounds_succ]
 go_wp2_with fail
 go_ret
 exact ⟨rfl,rfl⟩
theorem levelA (t:Tv) (v:Value) (w:World) (ht:TabR w w.heap.size t T0) (hg:Glob w) (hv:Ints w w.heap.size .i64 v [97]) :
  Calls Tryz.prog 226 #[t.val,v] w fun e w' => e=.returned (.tuple #[.int .i64 1,.int .i64 0]) ∧ Below w.heap.size w w':=by
 have HB0:Hid (Below w.heap.size w (w.alloc (.cells t.cells 26))):=Lib.hid ((Below.refl _ _).alloc (Nat.le_refl _) _)
 have HT:Hid (Tbl (w.alloc (.cells t.cells 26)) w.heap.size t T0):=Lib.hid ⟨Blk.new _ _ _,ht.later HB0.out⟩
 have HO:=Lib.hid (order_any t T0 v [97] _ HT.out.2 (hg.later HB0.out) (hv.later HB0.out))
 rw [T0_acc] at HO
 have HV:=Lib.hid (hv.later HB0.out)
 clear ht hg hv
 go_enter Tryz.func226,Tryz.ntmps226
 go_upto_region 1 with fail
 generalize w.alloc (.cells t.cells 26)=w1 at *
 obtain ⟨x0,x1,x2,x3,x4,x5,x6,x7,x8,x9,x10,x11⟩:=HT.out.1.tab
 go_upto_region 4 with (go_at_call 37;refine HO.out.mono ?_;rintro e w2 ⟨u,rfl,_,b2⟩)
 have HS:=Lib.hid (sasciiA v w2 (HV.out.later b2))
 have HB2:=Lib.hid (below_next HB0.out b2)
 clear x0 x1 x2 x3 x4 x5 x6 x7 x8 x9 x10 x11 b2 HO HT
 go_wp2_with (go_at_call 234;refine HS.out.mono ?_;rintro e w3 ⟨rfl,rfl⟩)
 go_ret2
 exact ⟨rfl,HB2.out⟩
theorem keyA (t:Tv) (v:Value) (w:World) (ht:TabR w w.heap.size t T0) (hg:Glob w) (hv:Ints w w.heap.size .i64 v [97]) :
  Calls Tryz.prog 227 #[t.val,v] w fun e w' => e=.returned (.tuple #[.string ⟨#[97]⟩,.int .i64 0]) ∧ Below w.heap.size w w':=by
 refine (skKey_any t T0 v [97] w ht hg hv).mono ?_
 rintro e w' ⟨he,hb⟩
 rw [T0_key] at he
 exact ⟨he,hb⟩
theorem canonA (t:Tv) (w:World) (ht:TabR w w.heap.size t T0) (hg:Glob w) :
  Calls Tryz.prog 211 #[t.val,.string ⟨#[65]⟩] w fun e w' => e=.returned (.tuple #[.agg #[.string ⟨#[97]⟩,.string ⟨#[97]⟩,.string ⟨#[97]⟩],.int .i64 0]) ∧ Below w.heap.size w w':=by
 have HB0:Hid (Below w.heap.size w ((w.alloc (.cells t.cells 26)).alloc (.cells #[.string ⟨#[]⟩,.string ⟨#[]⟩,.string ⟨#[]⟩] 209))):=Lib.hid (below_new2 _ _ _)
 have HT:Hid (Tbl ((w.alloc (.cells t.cells 26)).alloc (.cells #[.string ⟨#[]⟩,.string ⟨#[]⟩,.string ⟨#[]⟩] 209)) w.heap.size t T0):=Lib.hid ⟨(Blk.new _ _ _).alloc _,ht.later HB0.out⟩
 have HR:Hid (Blk ((w.alloc (.cells t.cells 26)).alloc (.cells #[.string ⟨#[]⟩,.string ⟨#[]⟩,.string ⟨#[]⟩] 209)) (w.heap.size + 1) 209 #[.string ⟨#[]⟩,.string ⟨#[]⟩,.string ⟨#[]⟩]):=Lib.hid (blk_new2 _ _ _ _)
 have HG:=Lib.hid (fun V (h:Below w.heap.size w V) => hg.later h)
 have k0:((⟨#[97]⟩:ByteArray).toList == (⟨#[]⟩:ByteArray).toList)=false:=by kernel_rfl
 clear ht hg
 go_enter Tryz.func211,Tryz.ntmps211
 go_upto_region 1 with fail
 generalize (w.alloc (.cells t.cells 26)).alloc (.cells #[.string ⟨#[]⟩,.string ⟨#[]⟩,.string ⟨#[]⟩] 209)=w1 at *
 obtain ⟨x0,x1,x2,x3,x4,x5,x6,x7,x8,x9,x10,x11⟩:=HT.out.1.tab
 have H1:=Lib.hid (toA t w1 HT.out.2 (HG.out w1 HB0.out))
 go_upto_region 4 with (go_at_call 224;refine H1.out.mono ?_;rintro e w2 ⟨rfl,b2⟩)
 have HT2:=Lib.hid (HT.out.later b2)
 have HR2:=Lib.hid (HR.out.later b2)
 have HB2:=Lib.hid (HB0.out.trans (b2.mono HB0.out.size))
 clear x0 x1 x2 x3 x4 x5 x6 x7 x8 x9 x10 x11 b2 H1 HT HR HB0
 obtain ⟨x0,x1,x2,x3,x4,x5,x6,x7,x8,x9,x10,x11⟩:=HT2.out.1.tab
 have H1:=Lib.hid (toU t w2 HT2.out.2 (HG.out w2 HB2.out))
 go_upto_region 7 with (go_at_call 225;refine H1.out.mono ?_;rintro e w3 ⟨rfl,b3⟩)
 have HT3:=Lib.hid (HT2.out.later b3)
 have HR3:=Lib.hid (HR2.out.later b3)
 have HB3:=Lib.hid (HB2.out.trans (b3.mono HB2.out.size))
 clear x0 x1 x2 x3 x4 x5 x6 x7 x8 x9 x10 x11 b3 H1 HT2 HR2 HB2
 obtain ⟨x0,x1,x2,x3,x4,x5,x6,x7,x8,x9,x10,x11⟩:=HT3.out.1.tab
 have H1:=Lib.hid (processA t w3 HT3.out.2 (HG.out w3 HB3.out))
 go_upto_region 8 with (go_at_call 6;refine H1.out.mono ?_;rintro e w4 ⟨v,a,rfl,hl,b4⟩)
 have HT4:=Lib.hid (HT3.out.later b4)
 have HR4:=Lib.hid (HR3.out.later b4)
 have HB4:=Lib.hid (HB3.out.trans (b4.mono HB3.out.size))
 clear x0 x1 x2 x3 x4 x5 x6 x7 x8 x9 x10 x11 b4 H1 HT3 HR3 HB3
 obtain ⟨A,c,ad,A',c',hv,rfl,hadb,hce,hin⟩:=hl.at_ (i:=0) rfl
 change v=.slice (some ad) 1 c at hv
 change w4.cell? (ad.add 0)=some (.slice A' 1 c') at hce
 change Ints w4 w4.heap.size .i64 (.slice A' 1 c') [97] at hin
 subst hv
 have HI:=Lib.hid hin
 have HCE:=Lib.hid (cell_zero hce)
 clear hl hce hin
 go_upto_region 12 with fail
 have HLV:Hid (∀ V,Below w4.heap.size w4 V → Calls Tryz.prog 226 #[.agg #[t.c0,t.c1,t.c2,t.c3,t.c4,t.c5,t.c6,t.c7,t.c8,t.c9,t.c10,t.c11],.slice A' 1 c'] V fun e V' => e=.returned (.tuple #[.int .i64 1,.int .i64 0]) ∧ Below V.heap.size V V'):=Lib.hid fun V hV => levelA t _ V (HT4.out.later hV).2 (HG.out V (HB4.out.trans (hV.mono HB4.out.size))) (HI.out.later hV)
 have HKV:Hid (∀ V,Below w4.heap.size w4 V → Calls Tryz.prog 227 #[.agg #[t.c0,t.c1,t.c2,t.c3,t.c4,t.c5,t.c6,t.c7,t.c8,t.c9,t.c10,t.c11],.slice A' 1 c'] V fun e V' => e=.returned (.tuple #[.string ⟨#[97]⟩,.int .i64 0]) ∧ Below V.heap.size V V'):=Lib.hid fun V hV => keyA t _ V (HT4.out.later hV).2 (HG.out V (HB4.out.trans (hV.mono HB4.out.size))) (HI.out.later hV)
 obtain ⟨x0,x1,x2,x3,x4,x5,x6,x7,x8,x9,x10,x11⟩:=HT4.out.1.tabG
 have e0:=cell_regrown HCE.out
 refine wp_region_quiet_below (by kernel_rfl) (by kernel_rfl) ?_
 repeat (go_big_quiet_step ((go_at_call 226;with_reducible exact quiet_t HLV.out)))
 refine wpQuiet_nil ?_
 rintro _ ⟨⟨dq,osq⟩,rfl⟩
 have bq:=below_regrown w4 dq osq
 clear x0 x1 x2 x3 x4 x5 x6 x7 x8 x9 x10 x11 e0
 generalize Go.Sort.grow (redrawn w4 dq) osq=w5 at *
 go_upto_region 17 with fail
 have HKV5:Hid (∀ V,Below w5.heap.size w5 V → Calls Tryz.prog 227 #[.agg #[t.c0,t.c1,t.c2,t.c3,t.c4,t.c5,t.c6,t.c7,t.c8,t.c9,t.c10,t.c11],.slice A' 1 c'] V fun e V' => e=.returned (.tuple #[.string ⟨#[97]⟩,.int .i64 0]) ∧ Below V.heap.size V V'):=Lib.hid fun V hV => HKV.out V (bq.trans (hV.mono bq.size))
 have HT5:=Lib.hid (HT4.out.later bq)
 have HR5:=Lib.hid (HR4.out.later bq)
 have HB5:=Lib.hid (HB4.out.trans (bq.mono HB4.out.size))
 have HC5:=Lib.hid ((bq.cell (p:=ad) hadb).trans HCE.out)
 clear HT4 HR4 HB4 HCE HKV HLV bq
 obtain ⟨x0,x1,x2,x3,x4,x5,x6,x7,x8,x9,x10,x11⟩:=HT5.out.1.tabG
 have e0:=cell_regrown HC5.out
 refine wp_region_quiet_below (by kernel_rfl) (by kernel_rfl) ?_
 repeat (go_big_quiet_step ((go_at_call 227;with_reducible exact quiet_t HKV5.out)))
 refine wpQuiet_nil ?_
 rintro _ ⟨⟨dq,osq⟩,rfl⟩
 have bq:=below_regrown w5 dq osq
 clear x0 x1 x2 x3 x4 x5 x6 x7 x8 x9 x10 x11 e0
 generalize Go.Sort.grow (redrawn w5 dq) osq=w6 at *
 have HR6:=Lib.hid (HR5.out.later bq)
 have HB6:=Lib.hid (HB5.out.trans (bq.mono HB5.out.size))
 clear HR5 HB5 bq HT5
 have y0:w6.cell? ⟨w.heap.size + 1,0,none⟩=some (.string ⟨#[]⟩):=HR6.out.at_ (i:=0) rfl
 have y1:w6.cell? ⟨w.heap.size + 1,1,none⟩=some (.string ⟨#[]⟩):=HR6.out.at_ (i:=1) rfl
 have y2:w6.cell? ⟨w.heap.size + 1,2,none⟩=some (.string ⟨#[]⟩):=HR6.out.at_ (i:=2) rfl
 have f0:=HR6.out.free 0
 have f1:=HR6.out.free 1
 have f2:=HR6.out.free 2
 go_wp2_with fail
 have hr7:Blk (((w6.setCell ⟨w.heap.size + 1,0,none⟩ (.string ⟨#[97]⟩)).setCell ⟨w.heap.size + 1,1,none⟩ (.string ⟨#[97]⟩)).setCell ⟨w.heap.size + 1,2,none⟩ (.string ⟨#[97]⟩)) (w.heap.size + 1) 209 #[.string ⟨#[97]⟩,.string ⟨#[97]⟩,.string ⟨#[97]⟩]:=by
  have h2:=((HR6.out.put 0 (.string ⟨#[97]⟩)).put 1 (.string ⟨#[97]⟩)).put 2 (.string ⟨#[97]⟩)
  simpa using h2
 have HB7:=Lib.hid (((HB6.out.setCell (p:=⟨w.heap.size + 1,0,none⟩) (by simp) (.string ⟨#[97]⟩)).setCell (p:=⟨w.heap.size + 1,1,none⟩) (by simp) (.string ⟨#[97]⟩)).setCell (p:=⟨w.heap.size + 1,2,none⟩) (by simp) (.string ⟨#[97]⟩))
 clear y0 y1 y2 f0 f1 f2 HR6 HB6
 generalize ((w6.setCell ⟨w.heap.size + 1,0,none⟩ (.string ⟨#[97]⟩)).setCell ⟨w.heap.size + 1,1,none⟩ (.string ⟨#[97]⟩)).setCell ⟨w.heap.size + 1,2,none⟩ (.string ⟨#[97]⟩)=w7 at *
 have y0:w7.cell? ⟨w.heap.size + 1,0,none⟩=some (.string ⟨#[97]⟩):=hr7.at_ (i:=0) rfl
 have y1:w7.cell? ⟨w.heap.size + 1,1,none⟩=some (.string ⟨#[97]⟩):=hr7.at_ (i:=1) rfl
 have y2:w7.cell? ⟨w.heap.size + 1,2,none⟩=some (.string ⟨#[97]⟩):=hr7.at_ (i:=2) rfl
 exact bodyPost_ret (v:=.tuple #[.agg #[.string ⟨#[97]⟩,.string ⟨#[97]⟩,.string ⟨#[97]⟩],.int .i64 0]) (by simp [results,Tryz.results211,go_sem,y0,y1,y2]) rfl ⟨rfl,HB7.out⟩
theorem Tryz.infoName:(Tryz.prog.info? 209).map (fun i => (i.zero,i.size,i.bytes))=some (some (.agg #[.string ⟨#[]⟩,.string ⟨#[]⟩,.string ⟨#[]⟩]),3,48):=by kernel_rfl
theorem insertN (s0 s1 s2:ByteArray) (g:Nat) (w:World) (h0:w.cell? ⟨g,0,none⟩=some (.string s0)) (h1:w.cell? ⟨g,1,none⟩=some (.string s1)) (h2:w.cell? ⟨g,2,none⟩=some (.string s2)) :
  Calls Tryz.prog 212 #[.slice none 0 0,.int .i64 0,.slice (some ⟨g,0,none⟩) 1 1] w fun e w' => ∃ v,e=.returned v ∧ w'.ownsRow w.heap.size 209 3 v 1 [.string s0,.string s1,.string s2] ∧ Below w.heap.size w w':=by
 obtain ⟨i0,hi,hz0,hz1,hz2⟩:=info_parts Tryz.infoName
 have hn:∀ (j:Nat) (u:Value),[Value.string s0,.string s1,.string s2][j]?=some u → w.cell? ((⟨g,0,none⟩:Addr).add j)=some u:=by
  intro j u hu
  match j with
  | 0 => simp at hu;subst hu;exact h0
  | 1 => simp at hu;subst hu;exact h1
  | 2 => simp at hu;subst hu;exact h2
  | j + 3 => simp at hu
 clear h0 h1 h2
 go_enter Tryz.func212,Tryz.ntmps212
 go_wp2_with (at_builtin;refine wpList_append_own _ rfl _ _ 79 rfl w.heap.size 209 i0 _ 3 48 Tryz.underlying79 hi hz0 hz1 hz2 rfl (by decide) _ _ _ rfl (World.ownsRow_nil _ _ _ _) ⟨g,0,none⟩ 1 1 [.string s0,.string s1,.string s2] rfl rfl hn ?c2 ?c3 ?c4 ?c5 ?_)
 case c2 => intro u hu;simp at hu;rcases hu with rfl | rfl | rfl <;> rfl
 case c3 => unfold maxLen;omega
 case c4 => omega
 case c5 => simp
 intro v1 w1 ho hg _
 have hb:Below w.heap.size w w1:=(Below.refl _ w).grown hg (Nat.le_refl _) (by intro k hk;cases hk)
 have HO:=Lib.hid ho
 obtain ⟨g1,c1,rfl,_,_,_,_,_⟩:=own_at ho (by omega)
 clear ho hg hn
 go_wp2_with fail
 go_ret
 exact ⟨_,rfl,HO.out,hb⟩
def RetMk (w:World) (e:Ending) (w':World):Prop :=
 ∃ v u,e=.returned (.tuple #[v,u,.agg #[.int .i64 0,.int .i64 (-1),.string ⟨#[]⟩,.int .i64 0,.int .i64 0,.string ⟨#[]⟩,.int .i64 0,.int .i64 0]]) ∧ w'.ownsRow w.heap.size 209 3 v 1 [.string ⟨#[97]⟩,.string ⟨#[97]⟩,.string ⟨#[97]⟩] ∧ Below w.heap.size w w'
theorem makeA (t:Tv) (g c:Nat) (w:World) (ht:TabR w w.heap.size t T0) (hg:Glob w) (hgl:g < w.heap.size) (h0:w.cell? ⟨g,0,none⟩=some (.string ⟨#[65]⟩)) :
  Calls Tryz.prog 186 #[t.val,.slice (some ⟨g,0,none⟩) 1 c] w (RetMk w):=by
 have HB0:Hid (Below w.heap.size w ((w.alloc (.cells t.cells 26)).alloc (.cells #[.int .i64 0,.int .i64 0,.string ⟨#[]⟩,.int .i64 0,.int .i64 0,.string ⟨#[]⟩,.int .i64 0,.int .i64 0] 83))):=Lib.hid (below_new2 _ _ _)
 have HT:Hid (Tbl ((w.alloc (.cells t.cells 26)).alloc (.cells #[.int .i64 0,.int .i64 0,.string ⟨#[]⟩,.int .i64 0,.int .i64 0,.string ⟨#[]⟩,.int .i64 0,.int .i64 0] 83)) w.heap.size t T0):=Lib.hid ⟨(Blk.new _ _ _).alloc _,ht.later HB0.out⟩
 have HR:Hid (Blk ((w.alloc (.cells t.cells 26)).alloc (.cells #[.int .i64 0,.int .i64 0,.string ⟨#[]⟩,.int .i64 0,.int .i64 0,.string ⟨#[]⟩,.int .i64 0,.int .i64 0] 83)) (w.heap.size + 1) 83 #[.int .i64 0,.int .i64 0,.string ⟨#[]⟩,.int .i64 0,.int .i64 0,.string ⟨#[]⟩,.int .i64 0,.int .i64 0]):=Lib.hid (blk_new2 _ _ _ _)
 have HG:=Lib.hid (fun V (h:Below w.heap.size w V) => hg.later h)
 have h1:=cell_stay h0 hgl HB0.out
 have hws:=HB0.out.size
 clear ht hg h0
 go_enter Tryz.func186,Tryz.ntmps186
 go_upto_region 5 with fail
 generalize (w.alloc (.cells t.cells 26)).alloc (.cells #[.int .i64 0,.int .i64 0,.string ⟨#[]⟩,.int .i64 0,.int .i64 0,.string ⟨#[]⟩,.int .i64 0,.int .i64 0] 83)=w1 at *
 obtain ⟨x0,x1,x2,x3,x4,x5,x6,x7,x8,x9,x10,x11⟩:=HT.out.1.tab
 have H1:=Lib.hid (canonA t w1 HT.out.2 (HG.out w1 HB0.out))
 go_wp2_with fail
 refine wp_loop_rounds 2 ?_
 rw [rounds_succ]
 go_upto_region 13 with (go_at_call 211;refine H1.out.mono ?_;rintro e w2 ⟨rfl,b2⟩)
 have b3:Below w2.heap.size w2 (w2.alloc (.cells #[.string ⟨#[97]⟩,.string ⟨#[97]⟩,.string ⟨#[97]⟩] 209)):=(Below.refl _ _).alloc (Nat.le_refl _) _
 have HN3:Hid (Blk (w2.alloc (.cells #[.string ⟨#[97]⟩,.string ⟨#[97]⟩,.string ⟨#[97]⟩] 209)) w2.heap.size 209 #[.string ⟨#[97]⟩,.string ⟨#[97]⟩,.string ⟨#[97]⟩]):=Lib.hid (Blk.new _ _ _)
 have HR3:=Lib.hid (HR.out.later (below_next b2 b3))
 have HB3:=Lib.hid (HB0.out.trans ((below_next b2 b3).mono HB0.out.size))
 clear x0 x1 x2 x3 x4 x5 x6 x7 x8 x9 x10 x11 h1 H1 HT HR HB0 b2 b3
 generalize w2.alloc (.cells #[.string ⟨#[97]⟩,.string ⟨#[97]⟩,.string ⟨#[97]⟩] 209)=w3 at *
 obtain ⟨nb,hnb⟩:∃ nb,nb=w2.heap.size:=⟨_,rfl⟩
 rw [← hnb] at HN3 ⊢
 clear hnb
 go_wp2_with fail
 refine wp_loop_rounds 1 ?_
 rw [rounds_succ]
 go_wp2_with fail
 go_quiet (fail)
 have b4:=below_drewN (Below.refl w3.heap.size w3) nq
 generalize w3.drewN nq=w4 at *
 have HN4:=Lib.hid (HN3.out.later b4)
 have HR4:=Lib.hid (HR3.out.later b4)
 have HB4:=Lib.hid (HB3.out.trans (b4.mono HB3.out.size))
 have HW4:=Lib.hid HB4.out.size
 clear b4 HN3 HR3 HB3
 have y0:w4.cell? ⟨nb,0,none⟩=some (.string ⟨#[97]⟩):=HN4.out.at_ (i:=0) rfl
 have y1:w4.cell? ⟨nb,1,none⟩=some (.string ⟨#[97]⟩):=HN4.out.at_ (i:=1) rfl
 have y2:w4.cell? ⟨nb,2,none⟩=some (.string ⟨#[97]⟩):=HN4.out.at_ (i:=2) rfl
 have HI1:Hid (Calls Tryz.prog 212 #[.slice none 0 0,.int .i64 0,.slice (some ⟨w4.heap.size,0,none⟩) 1 1] (w4.alloc (.cells #[.string ⟨#[97]⟩,.string ⟨#[97]⟩,.string ⟨#[97]⟩] 209)) _):=Lib.hid (insertN ⟨#[97]⟩ ⟨#[97]⟩ ⟨#[97]⟩ w4.heap.size _ ((Blk.new w4 _ _).at_ (i:=0) rfl) ((Blk.new w4 _ _).at_ (i:=1) rfl) ((Blk.new w4 _ _).at_ (i:=2) rfl))
 have b5:Below w4.heap.size w4 (w4.alloc (.cells #[.string ⟨#[97]⟩,.string ⟨#[97]⟩,.string ⟨#[97]⟩] 209)):=(Below.refl _ _).alloc (Nat.le_refl _) _
 go_wp2_with (first | (go_at_call 212;refine HI1.out.mono ?_;rintro e w6 ⟨v6,rfl,ho6,b6⟩;obtain ⟨g6,c6,rfl,hg6,_,_,_,_⟩:=own_at ho6 (by omega);have HR6:=Lib.hid (HR4.out.later (below_next b5 b6));have HB6:=Lib.hid (HB4.out.trans ((below_next b5 b6).mono HB4.out.size));have HO6:=Lib.hid ho6;have hws6:=b5.size;clear ho6 b6 y0 y1 y2 b5) | (go_at_call 143;refine (insert_own (w:=w6) w6.heap.size (.slice none 0 0) [] 0 0 (Nat.le_refl _) (World.ownsRow_nil _ _ _ _) (Nat.le_refl _) (by simp)).mono ?_;rintro e w7 ⟨v7,rfl,ho7,b7⟩))
 have HR7:=Lib.hid (HR6.out.later b7)
 have HB7:=Lib.hid (HB6.out.trans (b7.mono HB6.out.size))
 have HO7:=Lib.hid (own_later HO6.out b7)
 have hr4:=HR4.out.lt
 obtain ⟨g7,c7,rfl,_,_,_,_,_⟩:=own_at ho7 (by simp)
 clear ho7 b7 HR6 HB6 HO6 HR4 HB4 HN4 HI1
 rw [rounds_succ]
 obtain ⟨y0,y1,y2,y3,y4,y5,y6,y7⟩:=HR7.out.eight
 have f0:=HR7.out.free 0
 have f1:=HR7.out.free 1
 have f2:=HR7.out.free 2
 have f3:=HR7.out.free 3
 have f4:=HR7.out.free 4
 have f5:=HR7.out.free 5
 have f6:=HR7.out.free 6
 have f7:=HR7.out.free 7
 go_wp2_with fail
 refine wp_loop_rounds 1 ?_
 rw [rounds_succ]
 go_wp2_with fail
 have HE8:Hid (put8 w7 (w.heap.size + 1) (.int .i64 0) (.int .i64 (-1)) (.string ⟨#[]⟩) (.int .i64 0) (.int .i64 0) (.string ⟨#[]⟩) (.int .i64 0) (.int .i64 0)=((((((((w7.setCell ⟨w.heap.size + 1,0,none⟩ (.int .i64 0)).setCell ⟨w.heap.size + 1,1,none⟩ (.int .i64 (-1))).setCell ⟨w.heap.size + 1,2,none⟩ (.string ⟨#[]⟩)).setCell ⟨w.heap.size + 1,3,none⟩ (.int .i64 0)).setCell ⟨w.heap.size + 1,4,none⟩ (.int .i64 0)).setCell ⟨w.heap.size + 1,5,none⟩ (.string ⟨#[]⟩)).setCell ⟨w.heap.size + 1,6,none⟩ (.int .i64 0)).setCell ⟨w.heap.size + 1,7,none⟩ (.int .i64 0))):=Lib.hid rfl
 have HR8:=Lib.hid (put8_blk (u0:=.int .i64 0) (u1:=.int .i64 (-1)) (u2:=.string ⟨#[]⟩) (u3:=.int .i64 0) (u4:=.int .i64 0) (u5:=.string ⟨#[]⟩) (u6:=.int .i64 0) (u7:=.int .i64 0) HR7.out)
 have HB8:=Lib.hid (put8_below (u0:=.int .i64 0) (u1:=.int .i64 (-1)) (u2:=.string ⟨#[]⟩) (u3:=.int .i64 0) (u4:=.int .i64 0) (u5:=.string ⟨#[]⟩) (u6:=.int .i64 0) (u7:=.int .i64 0) (b:=w.heap.size + 1) HB7.out (by omega))
 have HO8:Hid ((put8 w7 (w.heap.size + 1) (.int .i64 0) (.int .i64 (-1)) (.string ⟨#[]⟩) (.int .i64 0) (.int .i64 0) (.string ⟨#[]⟩) (.int .i64 0) (.int .i64 0)).ownsRow w.heap.size 209 3 (.slice (some ⟨g6,0,none⟩) 1 c6) 1 [.string ⟨#[97]⟩,.string ⟨#[97]⟩,.string ⟨#[97]⟩]):=Lib.hid (own_less (b:=w.heap.size) (by have:=HW4.out;omega) (HO7.out.kept put8_grown (.inr (by intro e;injection e with e;simp only at e;omega))))
 rw [HE8.out] at HR8 HB8 HO8
 clear y0 y1 y2 y3 y4 y5 y6 y7 f0 f1 f2 f3 f4 f5 f6 f7 HR7 HB7 HO7 HE8
 generalize ((((((((w7.setCell ⟨w.heap.size + 1,0,none⟩ (.int .i64 0)).setCell ⟨w.heap.size + 1,1,none⟩ (.int .i64 (-1))).setCell ⟨w.heap.size + 1,2,none⟩ (.string ⟨#[]⟩)).setCell ⟨w.heap.size + 1,3,none⟩ (.int .i64 0)).setCell ⟨w.heap.size + 1,4,none⟩ (.int .i64 0)).setCell ⟨w.heap.size + 1,5,none⟩ (.string ⟨#[]⟩)).setCell ⟨w.heap.size + 1,6,none⟩ (.int .i64 0)).setCell ⟨w.heap.size + 1,7,none⟩ (.int .i64 0))=w8 at *
 obtain ⟨y0,y1,y2,y3,y4,y5,y6,y7⟩:=HR8.out.eight
 exact bodyPost_ret (v:=.tuple #[.slice (some ⟨g6,0,none⟩) 1 c6,.slice (some ⟨g7,0,none⟩) 1 c7,.agg #[.int .i64 0,.int .i64 (-1),.string ⟨#[]⟩,.int .i64 0,.int .i64 0,.string ⟨#[]⟩,.int .i64 0,.int .i64 0]]) (by simp [results,Tryz.results186,go_sem,y0,y1,y2,y3,y4,y5,y6,y7]) rfl ⟨_,_,rfl,HO8.out,HB8.out⟩
end Go.Proofs.YtjafpikjpipbkaaGreatDoor
namespace Go.Proofs.YtjafpikjpipbkaaGreatDoor
open Go.RowKit ND
def mcells (t:Tv) (ph:Int) (tx:ByteArray) (op ttl:Int) (nm:Value) (at_:Int) (rc:Value) (ra:Int):Array Value :=
 #[t.c0,t.c1,t.c2,t.c3,t.c4,t.c5,t.c6,t.c7,t.c8,t.c9,t.c10,t.c11,.int .i64 0,.int .i64 ph,.string tx,.int .i64 op,.int .i64 ttl,nm,.int .i64 at_,rc,.int .i64 0,.int .i64 ra,.string ⟨#[]⟩,.int .i64 0,.int .i64 0,.string ⟨#[]⟩,.int .i64 0,.int .i64 0]
section
variable {w:World} {m:Nat} {t:Tv} {ph:Int} {tx:ByteArray} {op ttl:Int} {nm:Value} {at_:Int} {rc:Value} {ra:Int}
theorem mc_own (h:Blk w m 165 (mcells t ph tx op ttl nm at_ rc ra)):w.cell? ⟨m,12,none⟩=some (.int .i64 0) ∧ w.cell? ⟨m,13,none⟩=some (.int .i64 ph) ∧ w.cell? ⟨m,14,none⟩=some (.string tx) ∧ w.cell? ⟨m,15,none⟩=some (.int .i64 op) ∧ w.cell? ⟨m,16,none⟩=some (.int .i64 ttl) ∧ w.cell? ⟨m,17,none⟩=some nm ∧ w.cell? ⟨m,18,none⟩=some (.int .i64 at_) ∧ w.cell? ⟨m,19,none⟩=some rc :=
 ⟨h.at_ (i:=12) rfl,h.at_ (i:=13) rfl,h.at_ (i:=14) rfl,h.at_ (i:=15) rfl,h.at_ (i:=16) rfl,h.at_ (i:=17) rfl,h.at_ (i:=18) rfl,h.at_ (i:=19) rfl⟩
theorem mc_rsp (h:Blk w m 165 (mcells t ph tx op ttl nm at_ rc ra)):w.cell? ⟨m,20,none⟩=some (.int .i64 0) ∧ w.cell? ⟨m,21,none⟩=some (.int .i64 ra) ∧ w.cell? ⟨m,22,none⟩=some (.string ⟨#[]⟩) ∧ w.cell? ⟨m,23,none⟩=some (.int .i64 0) ∧ w.cell? ⟨m,24,none⟩=some (.int .i64 0) ∧ w.cell? ⟨m,25,none⟩=some (.string ⟨#[]⟩) ∧ w.cell? ⟨m,26,none⟩=some (.int .i64 0) ∧ w.cell? ⟨m,27,none⟩=some (.int .i64 0) :=
 ⟨h.at_ (i:=20) rfl,h.at_ (i:=21) rfl,h.at_ (i:=22) rfl,h.at_ (i:=23) rfl,h.at_ (i:=24) rfl,h.at_ (i:=25) rfl,h.at_ (i:=26) rfl,h.at_ (i:=27) rfl⟩
theorem mc_tab (h:Blk w m 165 (mcells t ph tx op ttl nm at_ rc ra)):w.cell? ⟨m,0,none⟩=some t.c0 ∧ w.cell? ⟨m,1,none⟩=some t.c1 ∧ w.cell? ⟨m,2,none⟩=some t.c2 ∧ w.cell? ⟨m,3,none⟩=some t.c3 ∧ w.cell? ⟨m,4,none⟩=some t.c4 ∧ w.cell? ⟨m,5,none⟩=some t.c5 ∧ w.cell? ⟨m,6,none⟩=some t.c6 ∧ w.cell? ⟨m,7,none⟩=some t.c7 ∧ w.cell? ⟨m,8,none⟩=some t.c8 ∧ w.cell? ⟨m,9,none⟩=some t.c9 ∧ w.cell? ⟨m,10,none⟩=some t.c10 ∧ w.cell? ⟨m,11,none⟩=some t.c11 :=
 ⟨h.at_ (i:=0) rfl,h.at_ (i:=1) rfl,h.at_ (i:=2) rfl,h.at_ (i:=3) rfl,h.at_ (i:=4) rfl,h.at_ (i:=5) rfl,h.at_ (i:=6) rfl,h.at_ (i:=7) rfl,h.at_ (i:=8) rfl,h.at_ (i:=9) rfl,h.at_ (i:=10) rfl,h.at_ (i:=11) rfl⟩
theorem mc_put (i:Nat) (u:Value) (cs:Array Value) (he:(mcells t ph tx op ttl nm at_ rc ra).setIfInBounds i u=cs) (h:Blk w m 165 (mcells t ph tx op ttl nm at_ rc ra)):Blk (w.setCell ⟨m,i,none⟩ u) m 165 cs:=he ▸ h.put i u
end
theorem phase_any (m:Nat) (ph:Int) (w:World) (h:w.cell? ⟨m,13,none⟩=some (.int .i64 ph)):Calls Tryz.prog 118 #[.pointer (some ⟨m,0,none⟩)] w fun e w' => e=.returned (.int .i64 ph) ∧ w=w':=by
 go_enter Tryz.func118,Tryz.ntmps118
 go_wp2_with fail
 go_ret
 exact ⟨rfl,rfl⟩
theorem request_any (m:Nat) (op ttl:Int) (w:World) (h:w.cell? ⟨m,15,none⟩=some (.int .i64 op)) (h2:w.cell? ⟨m,16,none⟩=some (.int .i64 ttl)):Calls Tryz.prog 121 #[.pointer (some ⟨m,0,none⟩)] w fun e w' => e=.returned (.tuple #[.int .i64 op,.int .i64 ttl]) ∧ Below w.heap.size w w':=by
 go_enter Tryz.func121,Tryz.ntmps121
 go_wp2_with fail
 go_quiet (fail)
 go_wp2_with fail
 go_ret2
 exact ⟨rfl,below_drewN (Below.refl _ _) nq⟩
theorem response_any (m:Nat) (t:Tv) (ph:Int) (tx:ByteArray) (op ttl:Int) (nm:Value) (at_:Int) (rc:Value) (ra:Int) (w:World) (h:Blk w m 165 (mcells t ph tx op ttl nm at_ rc ra)) :
  Calls Tryz.prog 123 #[.pointer (some ⟨m,0,none⟩)] w fun e w' => e=.returned (.agg #[.int .i64 0,.int .i64 ra,.string ⟨#[]⟩,.int .i64 0,.int .i64 0,.string ⟨#[]⟩,.int .i64 0,.int .i64 0]) ∧ Below w.heap.size w w':=by
 have HB0:Hid (Below w.heap.size w (w.alloc (.cells #[.int .i64 0,.int .i64 0,.string ⟨#[]⟩,.int .i64 0,.int .i64 0,.string ⟨#[]⟩,.int .i64 0,.int .i64 0] 83))):=Lib.hid ((Below.refl _ _).alloc (Nat.le_refl _) _)
 have HM:=Lib.hid (h.later HB0.out)
 have HR:Hid (Blk (w.alloc (.cells #[.int .i64 0,.int .i64 0,.string ⟨#[]⟩,.int .i64 0,.int .i64 0,.string ⟨#[]⟩,.int .i64 0,.int .i64 0] 83)) w.heap.size 83 #[.int .i64 0,.int .i64 0,.string ⟨#[]⟩,.int .i64 0,.int .i64 0,.string ⟨#[]⟩,.int .i64 0,.int .i64 0]):=Lib.hid (Blk.new _ _ _)
 clear h
 go_enter Tryz.func123,Tryz.ntmps123
 go_upto_region 1 with fail
 generalize w.alloc (.cells #[.int .i64 0,.int .i64 0,.string ⟨#[]⟩,.int .i64 0,.int .i64 0,.string ⟨#[]⟩,.int .i64 0,.int .i64 0] 83)=w1 at *
 obtain ⟨x0,x1,x2,x3,x4,x5,x6,x7⟩:=mc_rsp HM.out
 obtain ⟨y0,y1,y2,y3,y4,y5,y6,y7⟩:=HR.out.eight
 have f0:=HR.out.free 0
 have f1:=HR.out.free 1
 have f2:=HR.out.free 2
 have f3:=HR.out.free 3
 have f4:=HR.out.free 4
 have f5:=HR.out.free 5
 have f6:=HR.out.free 6
 have f7:=HR.out.free 7
 go_wp2_with fail
 have HE8:Hid (put8 w1 w.heap.size (.int .i64 0) (.int .i64 ra) (.string ⟨#[]⟩) (.int .i64 0) (.int .i64 0) (.string ⟨#[]⟩) (.int .i64 0) (.int .i64 0)=((((((((w1.setCell ⟨w.heap.size,0,none⟩ (.int .i64 0)).setCell ⟨w.heap.size,1,none⟩ (.int .i64 ra)).setCell ⟨w.heap.size,2,none⟩ (.string ⟨#[]⟩)).setCell ⟨w.heap.size,3,none⟩ (.int .i64 0)).setCell ⟨w.heap.size,4,none⟩ (.int .i64 0)).setCell ⟨w.heap.size,5,none⟩ (.string ⟨#[]⟩)).setCell ⟨w.heap.size,6,none⟩ (.int .i64 0)).setCell ⟨w.heap.size,7,none⟩ (.int .i64 0))):=Lib.hid rfl
 have HR8:=Lib.hid (put8_blk (u0:=.int .i64 0) (u1:=.int .i64 ra) (u2:=.string ⟨#[]⟩) (u3:=.int .i64 0) (u4:=.int .i64 0) (u5:=.string ⟨#[]⟩) (u6:=.int .i64 0) (u7:=.int .i64 0) HR.out)
 have HB8:=Lib.hid (put8_below (u0:=.int .i64 0) (u1:=.int .i64 ra) (u2:=.string ⟨#[]⟩) (u3:=.int .i64 0) (u4:=.int .i64 0) (u5:=.string ⟨#[]⟩) (u6:=.int .i64 0) (u7:=.int .i64 0) (b:=w.heap.size) HB0.out (Nat.le_refl _))
 rw [HE8.out] at HR8 HB8
 clear x0 x1 x2 x3 x4 x5 x6 x7 y0 y1 y2 y3 y4 y5 y6 y7 f0 f1 f2 f3 f4 f5 f6 f7 HR HE8
 generalize ((((((((w1.setCell ⟨w.heap.size,0,none⟩ (.int .i64 0)).setCell ⟨w.heap.size,1,none⟩ (.int .i64 ra)).setCell ⟨w.heap.size,2,none⟩ (.string ⟨#[]⟩)).setCell ⟨w.heap.size,3,none⟩ (.int .i64 0)).setCell ⟨w.heap.size,4,none⟩ (.int .i64 0)).setCell ⟨w.heap.size,5,none⟩ (.string ⟨#[]⟩)).setCell ⟨w.heap.size,6,none⟩ (.int .i64 0)).setCell ⟨w.heap.size,7,none⟩ (.int .i64 0))=w8 at *
 obtain ⟨y0,y1,y2,y3,y4,y5,y6,y7⟩:=HR8.out.eight
 exact bodyPost_ret (v:=.agg #[.int .i64 0,.int .i64 ra,.string ⟨#[]⟩,.int .i64 0,.int .i64 0,.string ⟨#[]⟩,.int .i64 0,.int .i64 0]) (by simp [results,Tryz.results123,go_sem,y0,y1,y2,y3,y4,y5,y6,y7]) rfl ⟨rfl,HB8.out⟩
def NameAt (w:World) (g:Nat):Prop:=w.cell? ⟨g,0,none⟩=some (.string ⟨#[97]⟩) ∧ w.cell? ⟨g,1,none⟩=some (.string ⟨#[97]⟩) ∧ w.cell? ⟨g,2,none⟩=some (.string ⟨#[97]⟩)
theorem own_empty (w:World) (e:TypeId) (size:Nat):(w.alloc (.cells #[] e)).ownsRow w.heap.size e size (.slice (some ⟨w.heap.size,0,none⟩) 0 0) 0 [] :=
 ⟨by simp,.inr ⟨w.heap.size,0,#[],rfl,Nat.le_refl _,heap_alloc_new w _,Nat.le_refl _,Nat.zero_le _,by simp,by simp⟩⟩
theorem name_cells {w:World} {g:Nat} (h:NameAt w g):∀ (j:Nat) (u:Value),[Value.string ⟨#[97]⟩,.string ⟨#[97]⟩,.string ⟨#[97]⟩][j]?=some u → w.cell? ((⟨g,0,none⟩:Addr).add j)=some u:=by
 intro j u hu
 match j with
 | 0 => simp at hu;subst hu;exact h.1
 | 1 => simp at hu;subst hu;exact h.2.1
 | 2 => simp at hu;subst hu;exact h.2.2
 | j + 3 => simp at hu
def RetNm (w:World) (e:Ending) (w':World):Prop:=∃ g c,e=.returned (.slice (some ⟨g,0,none⟩) 1 c) ∧ w.heap.size ≤ g ∧ g < w'.heap.size ∧ NameAt w' g ∧ Below w.heap.size w w'
theorem clone_one (g c:Nat) (w:World) (h:NameAt w g) (hg:g < w.heap.size):Calls Tryz.prog 163 #[.slice (some ⟨g,0,none⟩) 1 c] w (RetNm w):=by
 obtain ⟨i0,hi,hz0,hz1,hz2⟩:=info_parts Tryz.infoName
 have b0:Below w.heap.size w (w.alloc (.cells #[] 209)):=(Below.refl _ _).alloc (Nat.le_refl _) _
 have HN:=Lib.hid (show NameAt (w.alloc (.cells #[] 209)) g from ⟨cell_stay h.1 hg b0,cell_stay h.2.1 hg b0,cell_stay h.2.2 hg b0⟩)
 have HO:=Lib.hid (own_empty w 209 3)
 have heq:=fun (w:World) (a:Option Addr) (n c:Nat) => Lib.run_eql_slice_nil (P:=Tryz.prog) w 79 209 a n c 0 0 Tryz.underlying79
 clear h b0
 go_enter Tryz.func163,Tryz.ntmps163
 go_wp2_with (at_builtin;refine wpList_append_own _ rfl _ _ 79 rfl w.heap.size 209 i0 _ 3 48 Tryz.underlying79 hi hz0 hz1 hz2 rfl (by decide) _ _ _ rfl HO.out ⟨g,0,none⟩ 1 _ [.string ⟨#[97]⟩,.string ⟨#[97]⟩,.string ⟨#[97]⟩] rfl rfl (name_cells HN.out) ?c2 ?c3 ?c4 ?c5 ?_)
 case c2 => intro u hu;simp at hu;subst hu;rfl
 case c3 => unfold maxLen;omega
 case c4 => omega
 case c5 => simp
 intro v1 w1 ho hgr _
 have hb:Below w.heap.size w w1:=((Below.refl _ w).alloc (Nat.le_refl _) _).grown hgr (by simp) (fun k hk => by simp [Value.ownBlock] at hk;omega)
 obtain ⟨g1,c1,rfl,hg1,hg2,_,_,hcs⟩:=own_at ho (by omega)
 have HQ:=Lib.hid (show NameAt w1 g1 from ⟨hcs 0 _ rfl,hcs 1 _ rfl,hcs 2 _ rfl⟩)
 clear ho hgr hcs
 go_wp2_with fail
 go_ret
 exact ⟨_,_,rfl,hg1,hg2,HQ.out,hb⟩
theorem names_one (m g c:Nat) (w:World) (h:w.cell? ⟨m,17,none⟩=some (.slice (some ⟨g,0,none⟩) 1 c)) (hn:NameAt w g) (hg:g < w.heap.size):Calls Tryz.prog 122 #[.pointer (some ⟨m,0,none⟩)] w (RetNm w):=by
 have HC:=Lib.hid (clone_one g c w hn hg)
 clear hn
 go_enter Tryz.func122,Tryz.ntmps122
 go_wp2_with (go_at_call 163;refine HC.out.mono ?_;rintro e w1 ⟨g1,c1,rfl,h1,h2,h3,h4⟩)
 go_ret
 exact ⟨_,_,rfl,h1,h2,h3,h4⟩
theorem key_any (m g c:Nat) (w:World) (h:w.cell? ⟨m,17,none⟩=some (.slice (some ⟨g,0,none⟩) 1 c)) (h2:w.cell? ⟨m,18,none⟩=some (.int .i64 0)) (hn:NameAt w g):Calls Tryz.prog 156 #[.pointer (some ⟨m,0,none⟩)] w fun e w' => e=.returned (.string ⟨#[97]⟩) ∧ ∃ n,w'=w.drewN n:=by
 have h3:=hn.2.2
 go_enter Tryz.func156,Tryz.ntmps156
 go_wp2_with fail
 go_quiet (fail)
 go_wp2_with fail
 go_ret
 exact ⟨rfl,nq,rfl⟩
theorem enter_any (m:Nat) (t:Tv) (ph p:Int) (tx:ByteArray) (op ttl:Int) (nm:Value) (at_:Int) (rc:Value) (ra:Int) (w:World) (h:Blk w m 165 (mcells t ph tx op ttl nm at_ rc ra)) :
  Calls Tryz.prog 162 #[.pointer (some ⟨m,0,none⟩),.int .i64 p] w fun e w' => e=.returned (.tuple #[]) ∧ Blk w' m 165 (mcells t p tx op ttl nm 0 rc ra) ∧ onlyIn [m] w w':=by
 obtain ⟨x0,x1,x2,x3,x4,x5,x6,x7⟩:=mc_own h
 have f0:=h.free 13
 have f1:=h.free 18
 have HB:=Lib.hid h
 clear h
 go_enter Tryz.func162,Tryz.ntmps162
 go_wp2_with fail
 go_end0
 exact ⟨rfl,mc_put 18 _ _ rfl (mc_put 13 _ _ rfl HB.out),onlyIn_set (onlyIn_set (onlyIn.refl _ _) (p:=⟨m,13,none⟩) (by simp) _) (p:=⟨m,18,none⟩) (by simp) _⟩
theorem next_one (m:Nat) (t:Tv) (ph p:Int) (tx:ByteArray) (op ttl:Int) (a:Option Addr) (c:Nat) (rc:Value) (ra:Int) (w:World) (h:Blk w m 165 (mcells t ph tx op ttl (.slice a 1 c) 0 rc ra)) :
  Calls Tryz.prog 157 #[.pointer (some ⟨m,0,none⟩),.int .i64 p] w fun e w' => e=.returned (.int .i64 1) ∧ Blk w' m 165 (mcells t p tx op ttl (.slice a 1 c) 0 rc ra) ∧ onlyIn [m] w w':=by
 obtain ⟨x0,x1,x2,x3,x4,x5,x6,x7⟩:=mc_own h
 have f1:=h.free 18
 have HB:=Lib.hid h
 clear h
 go_enter Tryz.func157,Tryz.ntmps157
 go_upto_region 2 with fail
 have HB1:Hid (Blk (w.setCell ⟨m,18,none⟩ (.int .i64 1)) m 165 (mcells t ph tx op ttl (.slice a 1 c) 1 rc ra)):=Lib.hid (mc_put 18 _ _ rfl HB.out)
 have HO1:Hid (onlyIn [m] w (w.setCell ⟨m,18,none⟩ (.int .i64 1))):=Lib.hid (onlyIn_set (onlyIn.refl _ _) (p:=⟨m,18,none⟩) (by simp) _)
 clear x0 x1 x2 x3 x4 x5 x6 x7 f1 HB
 generalize w.setCell ⟨m,18,none⟩ (.int .i64 1)=w1 at *
 obtain ⟨x0,x1,x2,x3,x4,x5,x6,x7⟩:=mc_own HB1.out
 go_quiet (fail)
 have b2:=below_drewN (Below.refl w1.heap.size w1) nq
 generalize w1.drewN nq=w2 at *
 have HE:=Lib.hid (enter_any m t ph p tx op ttl (.slice a 1 c) 1 rc ra w2 (HB1.out.later b2))
 have HO2:=Lib.hid (HO1.out.trans (onlyIn.of_below b2))
 clear x0 x1 x2 x3 x4 x5 x6 x7 b2 HB1 HO1
 go_wp2_with (go_at_call 162;refine HE.out.mono ?_;rintro e w3 ⟨rfl,h3,o3⟩)
 go_ret
 exact ⟨rfl,h3,HO2.out.trans o3⟩
end Go.Proofs.YtjafpikjpipbkaaGreatDoor
