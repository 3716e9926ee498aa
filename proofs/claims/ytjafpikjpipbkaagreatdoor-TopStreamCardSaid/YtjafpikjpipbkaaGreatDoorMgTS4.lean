/-
  Merged texts: lemmas and walks that the last text of this claim leans on.
-/
import Derived.Test.YtjafpikjpipbkaaGreatDoorMgTS3
import Derived.Test.YtjafpikjpipbkaaGreatDoorMgTS1
import Derived.Lib.QuietBelow
import Derived.BigQuiet
set_option maxRecDepth 100000
set_option maxHeartbeats 40000000
namespace Go.Proofs.YtjafpikjpipbkaaGreatDoor
open Go.RowKit ND
def pF (xs:List Mp) (c:Int) (i:Nat):Bool:=match xs[i]? with | some a => decide (c ≤ a.1) | none => true
theorem pF_some {xs:List Mp} {c:Int} {i:Nat} {a:Mp} (h:xs[i]?=some a):pF xs c i=decide (c ≤ a.1):=by unfold pF;rw [h]
theorem pF_mono {xs:List Mp} {c:Int} (hs:sortM xs) (a b:Nat) (hab:a ≤ b) (hb:b < xs.length) (h:pF xs c a=true):pF xs c b=true:=by
 rcases Nat.lt_or_ge a b with hlt | hge
 ·have ha:xs[a]?=some (xs[a]'(by omega)):=List.getElem?_eq_getElem (by omega)
  have hb':xs[b]?=some xs[b]:=List.getElem?_eq_getElem hb
  rw [pF_some ha,decide_eq_true_eq] at h
  rw [pF_some hb',decide_eq_true_eq]
  have:=hs a b _ _ hlt ha hb'
  omega
 ·obtain rfl:a=b:=by omega
  exact h
def RetSeq (w:World) (ys:List Int) (e:Ending) (w':World):Prop :=
 ∃ v,e=.returned v ∧ Ints w' w'.heap.size .i64 v ys ∧ (ys=[] → v=.slice none 0 0) ∧ Below w.heap.size w w'
theorem findClos (bl bc:Nat) (A:Option Addr) (cap:Nat) (xs:List Mp) (c:Int) (W:World) (i:Nat) (hi:i < xs.length) (hbl:W.cell? ⟨bl,0,none⟩=some (.slice A xs.length cap)) (hbc:W.cell? ⟨bc,0,none⟩=some (.int .i64 c)) (hv:Mapps W W.heap.size (.slice A xs.length cap) xs) :
  Calls Tryz.prog 133 #[.int .i64 i,.pointer (some ⟨bl,0,none⟩),.pointer (some ⟨bc,0,none⟩)] W fun e W' => e=.returned (.bool (pF xs c i)) ∧ Below W.heap.size W W':=by
 obtain ⟨A',c',hA,_,_,_,hcell⟩:=hv
 cases hA
 obtain ⟨⟨f,ys⟩,hxi,_⟩:=get_el hi
 obtain ⟨ad,sv,rfl,ha,d0,d1,_⟩:=hcell i _ hxi
 obtain ⟨e0,e1⟩:=map_cells (Below.refl _ _) ha d0 d1
 rw [pF_some hxi]
 simp only at e0 e1 ⊢
 clear d0 d1 hcell hxi e1
 have k0:(0:Int) ≤ (i:Int):=by omega
 have k1:(i:Int) < (xs.length:Int):=by omega
 go_enter Tryz.func133,Tryz.ntmps133
 go_wp2_with fail
 go_quiet (fail)
 go_wp2_with fail
 go_ret
 exact ⟨rfl,below_drewN (Below.refl _ _) nq⟩
theorem find_any (v:Value) (xs:List Mp) (c:Int) (w:World) (hv:Mapps w w.heap.size v xs) (hs:sortM xs) (hne:∀ m ∈ xs,m.2 ≠ []) (hlen:xs.length ≤ 256) :
  Calls Tryz.prog 79 #[v,.int .i64 c] w (RetSeq w (findL xs c)):=by
 have eg:=enters_of Tryz.func133 (by kernel_rfl) rfl
 have HV:=Lib.hid hv
 obtain ⟨A,cap,rfl,_,_,_,_⟩:=hv
 have hbw:Below w.heap.size w ((w.alloc (.cells #[.slice A xs.length cap] 24)).alloc (.cells #[.int .i64 c] 3)):=((Below.refl _ _).alloc (Nat.le_refl _) _).alloc (by simp) _
 have hboxes:∀ W,Below ((w.alloc (.cells #[.slice A xs.length cap] 24)).alloc (.cells #[.int .i64 c] 3)).heap.size ((w.alloc (.cells #[.slice A xs.length cap] 24)).alloc (.cells #[.int .i64 c] 3)) W →
   W.cell? ⟨w.heap.size,0,none⟩=some (.slice A xs.length cap) ∧ W.cell? ⟨w.heap.size + 1,0,none⟩=some (.int .i64 c):=by
  intro W hb
  have hsz:(w.alloc (.cells #[.slice A xs.length cap] 24)).heap.size=w.heap.size + 1:=by simp
  have h1:=cell_new1 w (.slice A xs.length cap) 24
  have h2:=cell_new1 (w.alloc (.cells #[.slice A xs.length cap] 24)) (.int .i64 c) 3
  rw [hsz] at h2
  have h1':=(World.cell?_alloc_lt (w.alloc (.cells #[.slice A xs.length cap] 24)) (.cells #[.int .i64 c] 3) ⟨w.heap.size,0,none⟩ (by simp)).trans h1
  exact ⟨(hb.cell (p:=⟨w.heap.size,0,none⟩) (by simp;omega)).trans h1',(hb.cell (p:=⟨w.heap.size + 1,0,none⟩) (by simp)).trans h2⟩
 have HB:=Lib.hid hboxes
 have HBW:=Lib.hid hbw
 clear hboxes hbw
 have HSR:=Lib.hid (search_any 133 #[.pointer (some ⟨w.heap.size,0,none⟩),.pointer (some ⟨w.heap.size + 1,0,none⟩)] xs.length (pF xs c) ((w.alloc (.cells #[.slice A xs.length cap] 24)).alloc (.cells #[.int .i64 c] 3)) eg (by omega) (by
  intro W i hb hi
  exact findClos _ _ A cap xs c W i hi (HB.out W hb).1 (HB.out W hb).2 ((HV.out.later HBW.out).later hb)) (pF_mono hs))
 go_enter Tryz.func79,Tryz.ntmps79
 go_wp2_with fail
 refine HSR.out.mono ?_
 rintro e w2 ⟨k,rfl,hk,hlow,hhigh,b2⟩
 obtain ⟨q0,q1⟩:=HB.out w2 b2
 have hv2:=(HV.out.later HBW.out).later b2
 have hbel:=HBW.out.trans (b2.mono HBW.out.size)
 have HL:Hid (∀ i a,i < k → xs[i]?=some a → a.1 < c):=Lib.hid (fun i a hi ha => by
  have:=hlow i hi
  rw [pF_some ha,decide_eq_false_iff_not] at this
  omega)
 clear HSR HB HBW HV b2 hlow eg
 have HS:=Lib.hid hs
 clear hs
 by_cases hkn:k < xs.length
 ·obtain ⟨⟨f,ys⟩,hxk,hxm⟩:=get_el hkn
  have hct:=hhigh hkn
  rw [pF_some hxk,decide_eq_true_eq] at hct
  have hysne:=hne _ hxm
  obtain ⟨A',c',hA,_,_,_,hcell⟩:=hv2
  cases hA
  obtain ⟨ad,sv,rfl,ha,d0,d1,hsv⟩:=hcell k _ hxk
  obtain ⟨e0,e1⟩:=map_cells (Below.refl _ w2) ha d0 d1
  simp only at e0 e1 hct hysne hsv
  have HX:=Lib.hid hxk
  have HSV:=Lib.hid hsv
  have HNE:=Lib.hid hysne
  clear d0 d1 hcell hxk hhigh hne hxm hysne hsv
  have k0:(0:Int) ≤ (k:Int):=by omega
  have k1:(k:Int) < (xs.length:Int):=by omega
  have hb0:((k:Int) == (xs.length:Int))=false:=by rw [beq_eq_false_iff_ne];omega
  by_cases hfc:f=c
  ·have hd:(f != c)=false:=by rw [hfc];simp
   have HR:=Lib.hid (findL_at HL.out HX.out hfc)
   clear hfc hct
   go_wp2_with fail
   go_quiet (fail)
   go_wp2_with fail
   go_ret
   rw [HR.out]
   exact ⟨_,rfl,(HSV.out.below (below_drewN (Below.refl _ w2) nq)).more (Nat.le_refl _),fun h => absurd h HNE.out,below_drewN hbel nq⟩
  ·have hd:(f != c)=true:=by rw [bne_iff_ne];exact hfc
   have HR:=Lib.hid (findL_miss HS.out HL.out (fun a ha => by rw [HX.out] at ha;cases ha;simp only;omega))
   clear hfc hct
   go_wp2_with fail
   go_quiet (fail)
   go_wp2_with fail
   go_ret
   rw [HR.out]
   exact ⟨_,rfl,Ints.none_,fun _ => rfl,below_drewN hbel nq⟩
 ·have hb0:((k:Int) == (xs.length:Int))=true:=by rw [beq_iff_eq];omega
  have HR:=Lib.hid (findL_miss HS.out HL.out (fun a ha => by have:=(List.getElem?_eq_some_iff.1 ha).1;omega))
  clear hhigh hv2
  go_wp2_with fail
  go_quiet (fail)
  go_wp2_with fail
  go_ret
  rw [HR.out]
  exact ⟨_,rfl,Ints.none_,fun _ => rfl,below_drewN hbel nq⟩
end Go.Proofs.YtjafpikjpipbkaaGreatDoor
namespace Go.Proofs.YtjafpikjpipbkaaGreatDoor
open Go.RowKit ND
theorem syl_any (c:Int) (w:World):Calls Tryz.prog 96 #[.int .i64 c] w fun e w' => e=.returned (.bool (sylB c)) ∧ w=w':=by
 go_enter Tryz.func96,Tryz.ntmps96
 go_wp2
 all_goals go_ret
 all_goals refine ⟨ret_bool (bool_eq ?_),rfl⟩
 all_goals rw [sylB_iff]
 all_goals simp
 all_goals omega
theorem jamo_any (c:Int) (w:World):Calls Tryz.prog 97 #[.int .i64 c] w fun e w' => e=.returned (.bool (jamoB c)) ∧ w=w':=by
 go_enter Tryz.func97,Tryz.ntmps97
 go_wp2
 all_goals go_ret
 all_goals refine ⟨ret_bool (bool_eq ?_),rfl⟩
 all_goals rw [jamoB_iff]
 all_goals simp
 all_goals omega
theorem sur_any (c:Int) (w:World):Calls Tryz.prog 166 #[.int .i64 c] w fun e w' => e=.returned (.bool (surB c)) ∧ w=w':=by
 go_enter Tryz.func166,Tryz.ntmps166
 go_wp2
 all_goals go_ret
 all_goals refine ⟨ret_bool (bool_eq ?_),rfl⟩
 all_goals rw [surB_iff]
 all_goals simp
 all_goals omega
theorem name_any (c:Int) (w:World):Calls Tryz.prog 94 #[.int .i64 c] w fun e w' => e=.returned (.bool (nameB c)) ∧ w=w':=by
 go_enter Tryz.func94,Tryz.ntmps94
 go_wp2
 all_goals go_ret
 all_goals refine ⟨ret_bool (bool_eq ?_),rfl⟩
 all_goals rw [nameB_iff]
 all_goals simp
 all_goals omega
theorem resB_parts {c:Int} {a b d:Bool} (h1:surB c=a) (h2:sylB c=b) (h3:jamoB c=d):resB c=(decide (0 ≤ c ∧ c ≤ 127) || a || b || d):=by
 subst h1 h2 h3
 rw [Bool.eq_iff_iff,resB_iff]
 simp only [Bool.or_eq_true,decide_eq_true_eq,surB_iff,sylB_iff,jamoB_iff]
 omega
theorem reserved_any (c:Int) (w:World):Calls Tryz.prog 129 #[.int .i64 c] w fun e w' => e=.returned (.bool (resB c)) ∧ w=w':=by
 have h1:=Lib.hid (fun W => sur_any c W)
 have h2:=Lib.hid (fun W => syl_any c W)
 have h3:=Lib.hid (fun W => jamo_any c W)
 rw [resB_parts rfl rfl rfl]
 generalize surB c=b1 at *
 generalize sylB c=b2 at *
 generalize jamoB c=b3 at *
 rcases show (0 ≤ c ∧ c ≤ 127) ∨ ((c < 0 ∨ 127 < c) ∧ ¬(0 ≤ c ∧ c ≤ 127)) by omega with h | ⟨h,h'⟩
 ·have hd:decide (0 ≤ c ∧ c ≤ 127)=true:=decide_eq_true h
  rw [hd]
  obtain ⟨y0,y1⟩:=h
  go_enter Tryz.func129,Tryz.ntmps129
  go_wp2_with fail
  go_ret
  exact ⟨by simp,rfl⟩
 ·have hd:decide (0 ≤ c ∧ c ≤ 127)=false:=decide_eq_false h'
  rw [hd]
  clear h' hd
  rcases h with h | h
  all_goals
   cases b1
   ·cases b2
    ·go_enter Tryz.func129,Tryz.ntmps129
     go_wp2_with fail
     refine (h1.out _).mono ?_
     rintro e w' ⟨rfl,rfl⟩
     go_wp2_with fail
     refine (h2.out _).mono ?_
     rintro e w' ⟨rfl,rfl⟩
     go_wp2_with fail
     refine (h3.out _).mono ?_
     rintro e w' ⟨rfl,rfl⟩
     go_wp2_with fail
     go_ret
     exact ⟨by simp;try (intro h;omega),rfl⟩
    ·go_enter Tryz.func129,Tryz.ntmps129
     go_wp2_with fail
     refine (h1.out _).mono ?_
     rintro e w' ⟨rfl,rfl⟩
     go_wp2_with fail
     refine (h2.out _).mono ?_
     rintro e w' ⟨rfl,rfl⟩
     go_wp2_with fail
     go_ret
     exact ⟨by simp,rfl⟩
   ·go_enter Tryz.func129,Tryz.ntmps129
    go_wp2_with fail
    refine (h1.out _).mono ?_
    rintro e w' ⟨rfl,rfl⟩
    go_wp2_with fail
    go_ret
    exact ⟨by simp,rfl⟩
def pointB (last c:Int):Bool:=decide (last < c ∧ c ≤ 1114111) && !resB c
theorem point_any (last c:Int) (w:World):Calls Tryz.prog 93 #[.int .i64 last,.int .i64 c] w fun e w' => e=.returned (.bool (pointB last c)) ∧ w=w':=by
 have h1:=Lib.hid (fun W => reserved_any c W)
 unfold pointB
 generalize resB c=b1 at *
 rcases show (last < c ∧ c ≤ 1114111) ∨ (c ≤ last ∧ ¬(last < c ∧ c ≤ 1114111)) ∨ (last < c ∧ 1114111 < c ∧ ¬(last < c ∧ c ≤ 1114111)) by omega with h | ⟨h,h'⟩ | ⟨h,h0,h'⟩
 ·have hd:decide (last < c ∧ c ≤ 1114111)=true:=decide_eq_true h
  rw [hd]
  clear hd
  obtain ⟨y0,y1⟩:=h
  go_enter Tryz.func93,Tryz.ntmps93
  go_wp2_with fail
  refine (h1.out _).mono ?_
  rintro e w' ⟨rfl,rfl⟩
  go_wp2_with fail
  go_ret
  exact ⟨by simp,rfl⟩
 ·have hd:decide (last < c ∧ c ≤ 1114111)=false:=decide_eq_false h'
  rw [hd]
  clear hd h'
  go_enter Tryz.func93,Tryz.ntmps93
  go_wp2_with fail
  go_ret
  exact ⟨by simp,rfl⟩
 ·have hd:decide (last < c ∧ c ≤ 1114111)=false:=decide_eq_false h'
  rw [hd]
  clear hd h'
  go_enter Tryz.func93,Tryz.ntmps93
  go_wp2_with fail
  go_ret
  exact ⟨by simp,rfl⟩
end Go.Proofs.YtjafpikjpipbkaaGreatDoor
namespace Go.Proofs.YtjafpikjpipbkaaGreatDoor
open Go.RowKit
end Go.Proofs.YtjafpikjpipbkaaGreatDoor
namespace Go.Proofs.YtjafpikjpipbkaaGreatDoor
open Go.RowKit ND
theorem scalar_any (c:Int) (w:World):Calls Tryz.prog 84 #[.int .i64 c] w fun e w' => e=.returned (.bool (scalarB c)) ∧ w=w':=by
 go_enter Tryz.func84,Tryz.ntmps84
 go_wp2
 all_goals go_ret
 all_goals refine ⟨ret_bool (bool_eq ?_),rfl⟩
 all_goals rw [scalarB_iff]
 all_goals simp
 all_goals omega
theorem lenC_no {c:Int} (h:scalarB c=false):lenC c=0:=by unfold lenC;rw [h];rfl
theorem lenC_yes {c:Int} (h:scalarB c=true):lenC c=if c ≤ 127 then 1 else if c ≤ 2047 then 2 else if c ≤ 65535 then 3 else 4:=by unfold lenC;rw [if_pos h]
theorem length_any (c:Int) (w:World):Calls Tryz.prog 43 #[.int .i64 c] w fun e w' => e=.returned (.int .i64 (lenC c:Int)) ∧ w=w':=by
 cases h:scalarB c
 ·have hc:=Lib.hid (fun w => scalar_any c w)
  rw [h] at hc
  rw [lenC_no h]
  clear h
  go_enter Tryz.func43,Tryz.ntmps43
  go_wp2_with (go_at_call 84;refine (hc.out _).mono ?_;rintro e w' ⟨rfl,rfl⟩)
  go_ret
  exact ⟨rfl,rfl⟩
 ·have hc:=Lib.hid (fun w => scalar_any c w)
  rw [h] at hc
  rw [lenC_yes h]
  clear h
  go_enter Tryz.func43,Tryz.ntmps43
  go_wp2_with (go_at_call 84;refine (hc.out _).mono ?_;rintro e w' ⟨rfl,rfl⟩)
  all_goals go_ret
  all_goals refine ⟨ret_int ?_,rfl⟩
  all_goals (repeat (first | rfl | rw [if_pos (by omega)] | rw [if_neg (by omega)]))
end Go.Proofs.YtjafpikjpipbkaaGreatDoor
namespace Go.Proofs.YtjafpikjpipbkaaGreatDoor
open Go.RowKit ND
def fixV (q:Int × Int × Int × Int):Value:=.agg #[.int .i64 q.1,.int .i64 q.2.1,.int .i64 q.2.2.1,.int .i64 q.2.2.2]
theorem fix_ways (c:Int) (h:resB c=true) :
  (97 ≤ c ∧ c ≤ 122 ∧ fixC c=(1,0,3,1)) ∨ (65 ≤ c ∧ c ≤ 90 ∧ fixC c=(1,0,3,3)) ∨ (48 ≤ c ∧ c ≤ 57 ∧ fixC c=(3,4,1,1)) ∨ (c=45 ∧ fixC c=(5,5,1,1)) ∨ (c=46 ∧ fixC c=(5,6,1,1)) ∨ (c=32 ∧ fixC c=(7,11,1,0)) ∨
  (0 ≤ c ∧ c < 32 ∧ fixC c=(8,11,1,0)) ∨ (c=127 ∧ fixC c=(8,11,1,0)) ∨
  (c < 127 ∧ 32 < c ∧ (c == 45)=false ∧ (c == 46)=false ∧ (c < 48 ∨ 57 < c ∧ c < 65 ∨ 90 < c ∧ c < 97 ∨ 122 < c) ∧ fixC c=(5,8,1,0)) ∨
  (44032 ≤ c ∧ sylB c=true ∧ fixC c=(1,0,9,1)) ∨ (128 ≤ c ∧ sylB c=false ∧ jamoB c=true ∧ fixC c=(1,0,9,0)) ∨ (55296 ≤ c ∧ sylB c=false ∧ jamoB c=false ∧ fixC c=(0,0,0,0)):=by
 have h':=(resB_iff c).1 h
 have e1:(sylB c=true ↔ 44032 ≤ c ∧ c ≤ 55203):=sylB_iff c
 have e2:=jamoB_iff c
 have e1':sylB c=false ↔ ¬(44032 ≤ c ∧ c ≤ 55203):=by rw [← e1];simp
 have e2':jamoB c=false ↔ ¬(4352 ≤ c ∧ c ≤ 4370 ∨ 4449 ≤ c ∧ c ≤ 4469 ∨ 4520 ≤ c ∧ c ≤ 4546):=by rw [← e2];simp
 rw [e1,e1',e2,e2',beq_eq_false_iff_ne,beq_eq_false_iff_ne]
 unfold fixC
 by_cases a1:97 ≤ c ∧ c ≤ 122
 ·exact .inl ⟨a1.1,a1.2,if_pos a1⟩
 rw [if_neg a1]
 by_cases a2:65 ≤ c ∧ c ≤ 90
 ·exact .inr (.inl ⟨a2.1,a2.2,if_pos a2⟩)
 rw [if_neg a2]
 by_cases a3:48 ≤ c ∧ c ≤ 57
 ·exact .inr (.inr (.inl ⟨a3.1,a3.2,if_pos a3⟩))
 rw [if_neg a3]
 by_cases a4:c=45
 ·exact .inr (.inr (.inr (.inl ⟨a4,if_pos a4⟩)))
 rw [if_neg a4]
 by_cases a5:c=46
 ·exact .inr (.inr (.inr (.inr (.inl ⟨a5,if_pos a5⟩))))
 rw [if_neg a5]
 by_cases a6:c=32
 ·exact .inr (.inr (.inr (.inr (.inr (.inl ⟨a6,if_pos a6⟩)))))
 rw [if_neg a6]
 by_cases a7:c < 32 ∨ c=127
 ·rw [if_pos a7]
  rcases a7 with a7 | a7
  ·exact .inr (.inr (.inr (.inr (.inr (.inr (.inl ⟨by omega,a7,rfl⟩))))))
  ·exact .inr (.inr (.inr (.inr (.inr (.inr (.inr (.inl ⟨a7,rfl⟩)))))))
 rw [if_neg a7]
 by_cases a8:c < 127
 ·rw [if_pos a8]
  exact .inr (.inr (.inr (.inr (.inr (.inr (.inr (.inr (.inl ⟨a8,by omega,a4,a5,by omega,rfl⟩))))))))
 rw [if_neg a8]
 by_cases a9:44032 ≤ c ∧ c ≤ 55203
 ·rw [if_pos a9]
  exact .inr (.inr (.inr (.inr (.inr (.inr (.inr (.inr (.inr (.inl ⟨a9.1,a9,rfl⟩)))))))))
 rw [if_neg a9]
 by_cases a10:4352 ≤ c ∧ c ≤ 4370 ∨ 4449 ≤ c ∧ c ≤ 4469 ∨ 4520 ≤ c ∧ c ≤ 4546
 ·rw [if_pos a10]
  exact .inr (.inr (.inr (.inr (.inr (.inr (.inr (.inr (.inr (.inr (.inl ⟨by omega,a9,a10,rfl⟩))))))))))
 rw [if_neg a10]
 exact .inr (.inr (.inr (.inr (.inr (.inr (.inr (.inr (.inr (.inr (.inr ⟨by omega,a9,a10,rfl⟩))))))))))
theorem fixed_any (c:Int) (h:resB c=true) (w:World):Calls Tryz.prog 130 #[.int .i64 c] w fun e w' => e=.returned (fixV (fixC c)) ∧ Below w.heap.size w w':=by
 have h1:=Lib.hid (fun W => syl_any c W)
 have h2:=Lib.hid (fun W => jamo_any c W)
 have hb:=((Below.refl w.heap.size w).alloc (Nat.le_refl _) (.cells #[.int .i64 0,.int .i64 0,.int .i64 0,.int .i64 0] 129))
 rcases fix_ways c h with ⟨y0,y1,hf⟩ | ⟨y0,y1,hf⟩ | ⟨y0,y1,hf⟩ | ⟨rfl,hf⟩ | ⟨rfl,hf⟩ | ⟨rfl,hf⟩ | ⟨y0,y1,hf⟩ | ⟨rfl,hf⟩ | ⟨y0,y1,y2,y3,y4,hf⟩ | ⟨y0,y1,hf⟩ | ⟨y0,y1,y2,hf⟩ | ⟨y0,y1,y2,hf⟩
 ·rw [hf]
  clear hf h
  go_enter Tryz.func130,Tryz.ntmps130
  go_wp2_with fail
  refine bodyPost_ret (v:=.agg #[.int .i64 1,.int .i64 0,.int .i64 3,.int .i64 1]) (by simp [results,Tryz.results130,go_sem]) rfl ⟨rfl,?_⟩
  repeat (first | exact Below.refl _ _ | refine Below.setCell ?_ (by simp) _ | refine Below.alloc ?_ (by simp) _)
 ·rw [hf]
  clear hf h
  go_enter Tryz.func130,Tryz.ntmps130
  go_wp2_with fail
  refine bodyPost_ret (v:=.agg #[.int .i64 1,.int .i64 0,.int .i64 3,.int .i64 3]) (by simp [results,Tryz.results130,go_sem]) rfl ⟨rfl,?_⟩
  repeat (first | exact Below.refl _ _ | refine Below.setCell ?_ (by simp) _ | refine Below.alloc ?_ (by simp) _)
 ·rw [hf]
  clear hf h
  go_enter Tryz.func130,Tryz.ntmps130
  go_wp2_with fail
  refine bodyPost_ret (v:=.agg #[.int .i64 3,.int .i64 4,.int .i64 1,.int .i64 1]) (by simp [results,Tryz.results130,go_sem]) rfl ⟨rfl,?_⟩
  repeat (first | exact Below.refl _ _ | refine Below.setCell ?_ (by simp) _ | refine Below.alloc ?_ (by simp) _)
 ·rw [hf]
  clear hf h
  go_enter Tryz.func130,Tryz.ntmps130
  go_wp2_with fail
  refine bodyPost_ret (v:=.agg #[.int .i64 5,.int .i64 5,.int .i64 1,.int .i64 1]) (by simp [results,Tryz.results130,go_sem]) rfl ⟨rfl,?_⟩
  repeat (first | exact Below.refl _ _ | refine Below.setCell ?_ (by simp) _ | refine Below.alloc ?_ (by simp) _)
 ·rw [hf]
  clear hf h
  go_enter Tryz.func130,Tryz.ntmps130
  go_wp2_with fail
  refine bodyPost_ret (v:=.agg #[.int .i64 5,.int .i64 6,.int .i64 1,.int .i64 1]) (by simp [results,Tryz.results130,go_sem]) rfl ⟨rfl,?_⟩
  repeat (first | exact Below.refl _ _ | refine Below.setCell ?_ (by simp) _ | refine Below.alloc ?_ (by simp) _)
 ·rw [hf]
  clear hf h
  go_enter Tryz.func130,Tryz.ntmps130
  go_wp2_with fail
  refine bodyPost_ret (v:=.agg #[.int .i64 7,.int .i64 11,.int .i64 1,.int .i64 0]) (by simp [results,Tryz.results130,go_sem]) rfl ⟨rfl,?_⟩
  repeat (first | exact Below.refl _ _ | refine Below.setCell ?_ (by simp) _ | refine Below.alloc ?_ (by simp) _)
 ·rw [hf]
  clear hf h
  go_enter Tryz.func130,Tryz.ntmps130
  go_wp2_with fail
  refine bodyPost_ret (v:=.agg #[.int .i64 8,.int .i64 11,.int .i64 1,.int .i64 0]) (by simp [results,Tryz.results130,go_sem]) rfl ⟨rfl,?_⟩
  repeat (first | exact Below.refl _ _ | refine Below.setCell ?_ (by simp) _ | refine Below.alloc ?_ (by simp) _)
 ·rw [hf]
  clear hf h
  go_enter Tryz.func130,Tryz.ntmps130
  go_wp2_with fail
  refine bodyPost_ret (v:=.agg #[.int .i64 8,.int .i64 11,.int .i64 1,.int .i64 0]) (by simp [results,Tryz.results130,go_sem]) rfl ⟨rfl,?_⟩
  repeat (first | exact Below.refl _ _ | refine Below.setCell ?_ (by simp) _ | refine Below.alloc ?_ (by simp) _)
 ·rw [hf]
  clear hf h
  have q3:(c == 32)=false:=by rw [beq_eq_false_iff_ne];omega
  have q4:(c == 127)=false:=by rw [beq_eq_false_iff_ne];omega
  rcases y4 with y4 | ⟨y4,y5⟩ | ⟨y4,y5⟩ | y4
  all_goals
   go_enter Tryz.func130,Tryz.ntmps130
   go_wp2_with fail
   refine bodyPost_ret (v:=.agg #[.int .i64 5,.int .i64 8,.int .i64 1,.int .i64 0]) (by simp [results,Tryz.results130,go_sem]) rfl ⟨rfl,?_⟩
   repeat (first | exact Below.refl _ _ | refine Below.setCell ?_ (by simp) _ | refine Below.alloc ?_ (by simp) _)
 ·rw [hf]
  clear hf h
  have q1:(c == 45)=false:=by rw [beq_eq_false_iff_ne];omega
  have q2:(c == 46)=false:=by rw [beq_eq_false_iff_ne];omega
  have q3:(c == 32)=false:=by rw [beq_eq_false_iff_ne];omega
  have q4:(c == 127)=false:=by rw [beq_eq_false_iff_ne];omega
  have h1':=Lib.hid h1.out
  rw [y1] at h1'
  clear y1
  go_enter Tryz.func130,Tryz.ntmps130
  go_wp2_with fail
  refine (h1'.out _).mono ?_
  rintro e w' ⟨rfl,rfl⟩
  go_wp2_with fail
  refine bodyPost_ret (v:=.agg #[.int .i64 1,.int .i64 0,.int .i64 9,.int .i64 1]) (by simp [results,Tryz.results130,go_sem]) rfl ⟨rfl,?_⟩
  repeat (first | exact Below.refl _ _ | refine Below.setCell ?_ (by simp) _ | refine Below.alloc ?_ (by simp) _)
 ·rw [hf]
  clear hf h
  have q1:(c == 45)=false:=by rw [beq_eq_false_iff_ne];omega
  have q2:(c == 46)=false:=by rw [beq_eq_false_iff_ne];omega
  have q3:(c == 32)=false:=by rw [beq_eq_false_iff_ne];omega
  have q4:(c == 127)=false:=by rw [beq_eq_false_iff_ne];omega
  have h1':=Lib.hid h1.out
  rw [y1] at h1'
  have h2':=Lib.hid h2.out
  rw [y2] at h2'
  clear y1 y2
  go_enter Tryz.func130,Tryz.ntmps130
  go_wp2_with fail
  refine (h1'.out _).mono ?_
  rintro e w' ⟨rfl,rfl⟩
  go_wp2_with fail
  refine (h2'.out _).mono ?_
  rintro e w' ⟨rfl,rfl⟩
  go_wp2_with fail
  refine bodyPost_ret (v:=.agg #[.int .i64 1,.int .i64 0,.int .i64 9,.int .i64 0]) (by simp [results,Tryz.results130,go_sem]) rfl ⟨rfl,?_⟩
  repeat (first | exact Below.refl _ _ | refine Below.setCell ?_ (by simp) _ | refine Below.alloc ?_ (by simp) _)
 ·rw [hf]
  clear hf h
  have q1:(c == 45)=false:=by rw [beq_eq_false_iff_ne];omega
  have q2:(c == 46)=false:=by rw [beq_eq_false_iff_ne];omega
  have q3:(c == 32)=false:=by rw [beq_eq_false_iff_ne];omega
  have q4:(c == 127)=false:=by rw [beq_eq_false_iff_ne];omega
  have h1':=Lib.hid h1.out
  rw [y1] at h1'
  have h2':=Lib.hid h2.out
  rw [y2] at h2'
  clear y1 y2
  go_enter Tryz.func130,Tryz.ntmps130
  go_wp2_with fail
  refine (h1'.out _).mono ?_
  rintro e w' ⟨rfl,rfl⟩
  go_wp2_with fail
  refine (h2'.out _).mono ?_
  rintro e w' ⟨rfl,rfl⟩
  go_wp2_with fail
  refine bodyPost_ret (v:=.agg #[.int .i64 0,.int .i64 0,.int .i64 0,.int .i64 0]) (by simp [results,Tryz.results130,go_sem]) rfl ⟨rfl,?_⟩
  repeat (first | exact Below.refl _ _ | refine Below.setCell ?_ (by simp) _ | refine Below.alloc ?_ (by simp) _)
end Go.Proofs.YtjafpikjpipbkaaGreatDoor
namespace Go.Proofs.YtjafpikjpipbkaaGreatDoor
open Go.RowKit ND
theorem propL_zero {l:List Sp} {own c:Int} (h:lenC c=0):propL l own c=0:=by unfold propL;rw [if_pos h]
theorem propL_own {l:List Sp} {own c:Int} (h:lenC c ≠ 0) (h2:resB c=true):propL l own c=own:=by unfold propL;rw [if_neg h,if_pos h2]
theorem propL_list {l:List Sp} {own c:Int} (h:lenC c ≠ 0) (h2:resB c=false):propL l own c=valueL l c:=by unfold propL;rw [if_neg h,if_neg (by rw [h2];simp)]
theorem pick_prop (g:Nat) (sel:Int × Int × Int × Int → Int) (v:Value) (xs:List Sp) (c lo hi:Int) (w:World) (eg:∀ args w,(callFunc g args).run Tryz.prog w=.ok (.enter g args) w)
  (hown:∀ W q,Calls Tryz.prog g #[fixV q] W fun e W' => e=.returned (.int .i64 (sel q)) ∧ Below W.heap.size W W')
  (hv:Spans w w.heap.size v xs) (hs:okS lo hi (-1) xs=true) (hlen:xs.length ≤ 256) :
  Calls Tryz.prog 76 #[v,.int .i64 c,.func (.func g) #[] #[]] w fun e w' => e=.returned (.int .i64 (propL xs (sel (fixC c)) c)) ∧ Below w.heap.size w w':=by
 have HL:=Lib.hid (fun W => length_any c W)
 have HRS:=Lib.hid (fun W => reserved_any c W)
 have HO:=Lib.hid hown
 have HV:=Lib.hid (fun W (h:Spans W W.heap.size v xs) => value_any v xs c lo hi W h hs hlen)
 have HW:=Lib.hid hv
 clear hown hv hs hlen
 obtain ⟨n,hn⟩:∃ n,n=lenC c:=⟨_,rfl⟩
 rw [← hn] at HL
 by_cases h0:n=0
 ·rw [propL_zero (hn.symm.trans h0)]
  have hb:((n:Int) == 0)=true:=by rw [beq_iff_eq];omega
  clear hn h0 HO HV HW HRS eg
  go_enter Tryz.func76,Tryz.ntmps76
  go_wp2_with fail
  refine (HL.out _).mono ?_
  rintro e w1 ⟨rfl,rfl⟩
  go_wp2_with fail
  go_ret
  exact ⟨rfl,Below.refl _ _⟩
 ·have hb:((n:Int) == 0)=false:=by rw [beq_eq_false_iff_ne];omega
  have hn0:lenC c ≠ 0:=by rw [← hn];exact h0
  clear hn h0
  cases hr:resB c
  ·rw [propL_list hn0 hr]
   rw [hr] at HRS
   clear hn0 hr HO eg
   go_enter Tryz.func76,Tryz.ntmps76
   go_wp2_with fail
   refine (HL.out _).mono ?_
   rintro e w1 ⟨rfl,rfl⟩
   go_wp2_with fail
   refine (HRS.out _).mono ?_
   rintro e w1 ⟨rfl,rfl⟩
   go_wp2_with fail
   refine (HV.out _ HW.out).mono ?_
   rintro e w1 ⟨rfl,b1⟩
   go_wp2_with fail
   go_ret
   exact ⟨rfl,b1⟩
  ·rw [propL_own hn0 hr]
   have HF:=Lib.hid (fun W => fixed_any c hr W)
   rw [hr] at HRS
   generalize fixC c=q at *
   clear hn0 hr HV HW
   go_enter Tryz.func76,Tryz.ntmps76
   go_wp2_with fail
   refine (HL.out _).mono ?_
   rintro e w1 ⟨rfl,rfl⟩
   go_wp2_with fail
   refine (HRS.out _).mono ?_
   rintro e w1 ⟨rfl,rfl⟩
   go_wp2_with fail
   refine (HF.out _).mono ?_
   rintro e w1 ⟨rfl,b1⟩
   have hq:fixV q=fixV q:=rfl
   clear hq
   go_wp2_with fail
   refine (HO.out w1 q).mono ?_
   rintro e w2 ⟨rfl,b2⟩
   go_wp2_with fail
   go_ret
   exact ⟨rfl,below_next b1 b2⟩
end Go.Proofs.YtjafpikjpipbkaaGreatDoor
namespace Go.Proofs.YtjafpikjpipbkaaGreatDoor
open Go.RowKit ND
theorem value_go {l:List Sp} {k:Nat} {s:Sp} {c R:Int} (hx:l[k]?=some s) (h:valueL (l.drop k) c=R) (h1:¬(s.1 ≤ c ∧ c ≤ s.2.1)):valueL (l.drop (k + 1)) c=R:=by
 rw [drop_of_get hx,valueL,if_neg h1] at h;exact h
theorem value_hit {l:List Sp} {k:Nat} {s:Sp} {c R:Int} (hx:l[k]?=some s) (h:valueL (l.drop k) c=R) (h1:s.1 ≤ c ∧ c ≤ s.2.1):R=s.2.2:=by
 rw [drop_of_get hx,valueL,if_pos h1] at h;exact h.symm
theorem value_end {l:List Sp} {k:Nat} {c R:Int} (hk:l.length ≤ k) (h:valueL (l.drop k) c=R):R=0:=by
 rw [List.drop_eq_nil_of_le hk] at h;exact h.symm
theorem refValue_any (v:Value) (xs:List Sp) (c:Int) (w:World) (hv:Spans w w.heap.size v xs) :
  Calls Tryz.prog 87 #[v,.int .i64 c] w fun e w' => e=.returned (.int .i64 (valueL xs c)) ∧ Below w.heap.size w w':=by
 obtain ⟨A,cp,rfl,hc1,hc2,_,hcell⟩:=hv
 have HC:=Lib.hid hcell
 have hlm:xs.length ≤ 9223372036854775807:=by unfold maxLen at hc2;omega
 clear hcell hc1 hc2
 obtain ⟨R,hR⟩:∃ R,R=valueL xs c:=⟨_,rfl⟩
 rw [← hR]
 have HR:Hid (valueL (xs.drop 0) c=R):=Lib.hid hR.symm
 clear hR
 go_enter Tryz.func87,Tryz.ntmps87
 go_wp2_with fail
 go_loopw [9] (fun i wr => ∃ (j:Nat),j ≤ xs.length ∧ i=.int .i64 j ∧ Hid (valueL (xs.drop j) c=R) ∧ Below w.heap.size w wr) (fun i _ => xs.length - (intOf i).toNat)
 case atStart => exact ⟨0,by omega,rfl,HR,Below.refl _ _⟩
 case round =>
  obtain ⟨j,hj,rfl,HS,hbel⟩:=hrel
  clear HR
  by_cases hjl:j < xs.length
  ·obtain ⟨⟨f,t,x⟩,hxj,_⟩:=get_el hjl
   obtain ⟨aj,rfl,ha,d0,d1,d2⟩:=HC.out j _ hxj
   simp only at d0 d1 d2
   obtain ⟨e0,e1,e2⟩:=span_cells hbel ha d0 d1 d2
   have HX:=Lib.hid hxj
   clear d0 d1 d2 hxj ha
   have r0:(0:Int) ≤ (j:Int):=by omega
   have r1:(j:Int) < (xs.length:Int):=by omega
   by_cases h1:f ≤ c
   ·by_cases h2:c ≤ t
    ·have HN:=Lib.hid (value_hit HX.out HS.out ⟨h1,h2⟩)
     go_wp2_with fail
     go_ret
     rw [HN.out]
     exact ⟨rfl,hbel.alloc hbel.size _⟩
    ·have HN:=Lib.hid (value_go HX.out HS.out (fun h => h2 h.2))
     have p1:decide (c ≤ t)=false:=decide_eq_false h2
     clear h2
     go_wp2_with fail
     go_roundw
     case rel => exact ⟨j + 1,by omega,by go_num,HN,hbel.alloc hbel.size _⟩
     case measure => simp [intOf];omega
   ·have HN:=Lib.hid (value_go HX.out HS.out (fun h => h1 h.1))
    have p1:decide (f ≤ c)=false:=decide_eq_false h1
    clear h1
    go_wp2_with fail
    go_roundw
    case rel => exact ⟨j + 1,by omega,by go_num,HN,hbel.alloc hbel.size _⟩
    case measure => simp [intOf];omega
  ·have HN:=Lib.hid (value_end (by omega) HS.out)
   go_wp2_with fail
   go_ret
   rw [HN.out]
   exact ⟨rfl,hbel⟩
theorem refIgnorable_any (t:Tv) (T:Tab) (c:Int) (w:World) (ht:TabR w w.heap.size t T) :
  Calls Tryz.prog 46 #[t.val,.int .i64 c] w fun e w' => e=.returned (.bool (T.ignB c)) ∧ Below w.heap.size w w':=by
 have HR:=Lib.hid (fun o:Obj => ht.r6.later ((Below.refl _ _).alloc (Nat.le_refl _) o))
 clear ht
 go_enter Tryz.func46,Tryz.ntmps46
 go_wp2_with fail
 refine (refValue_any t.c6 T.ignorable c _ (HR.out _)).mono ?_
 rintro e w1 ⟨rfl,b1⟩
 go_wp2_with fail
 go_ret
 exact ⟨rfl,below_next ((Below.refl _ _).alloc (Nat.le_refl _) _) b1⟩
theorem status_ref {T:Tab} (h:GoodS T.status) (c:Int):T.statusOf c=if nameB c=true ∨ c=46 ∨ sylB c=true then 1 else if 65 ≤ c ∧ c ≤ 90 then 3 else valueL T.status c:=by
 unfold Tab.statusOf
 rw [propL_ref h.1 h.2.2]
 simp only [nameB_iff,sylB_iff]
 have hz:resB c=true → valueL T.status c=0:=value_res h.2.2
 by_cases hr:resB c=true ∧ surB c=false
 ·rw [if_pos hr]
  have h0:=hz hr.1
  obtain ⟨h1,h2⟩:=hr
  rw [resB_iff] at h1
  have h2':¬(55296 ≤ c ∧ c ≤ 57343):=by unfold surB at h2;rw [decide_eq_false_iff_not] at h2;exact h2
  clear hz h2
  unfold fixC
  repeat' split
  all_goals try simp only [h0]
  all_goals omega
 ·rw [if_neg hr]
  have h1:¬(97 ≤ c ∧ c ≤ 122 ∨ 48 ≤ c ∧ c ≤ 57 ∨ c=45) ∧ c ≠ 46 ∧ ¬(44032 ≤ c ∧ c ≤ 55203) ∧ ¬(65 ≤ c ∧ c ≤ 90):=by
   by_cases hs:surB c=false
   ·have hr':resB c=false:=by
     cases hh:resB c
     ·rfl
     ·exact absurd ⟨hh,hs⟩ hr
    rw [resB_not] at hr'
    omega
   ·have hs':surB c=true:=by simpa using hs
    rw [surB_iff] at hs'
    omega
  rw [if_neg (by omega),if_neg h1.2.2.2]
end Go.Proofs.YtjafpikjpipbkaaGreatDoor
namespace ND
open Go
theorem value_mem {l:List Sp} {c:Int} (h:valueL l c ≠ 0):∃ s ∈ l,s.1 ≤ c ∧ c ≤ s.2.1 ∧ valueL l c=s.2.2:=by
 induction l with
 | nil => exact absurd rfl h
 | cons a r ih =>
   rw [valueL] at h ⊢
   by_cases h1:a.1 ≤ c ∧ c ≤ a.2.1
   ·rw [if_pos h1];exact ⟨a,List.mem_cons_self,h1.1,h1.2,rfl⟩
   ·rw [if_neg h1] at h ⊢
    obtain ⟨s,hs,h2⟩:=ih h
    exact ⟨s,List.mem_cons_of_mem _ hs,h2⟩
theorem Made.mapped {T:Tab} (h:Made T) (x:Int):(T.mapsOf x ≠ [] ↔ T.statusOf x=3) ∧ ∀ y ∈ T.mapsOf x,T.statusOf y=1 ∨ T.statusOf y=4:=by
 have hst:=Go.Proofs.YtjafpikjpipbkaaGreatDoor.status_ref (T:=T) h.shape.c5
 have h5:=h.rule5
 unfold Tab.rule5 at h5
 rw [Bool.and_eq_true,List.all_eq_true] at h5
 by_cases hx:65 ≤ x ∧ x ≤ 90
 ·unfold Tab.mapsOf
  rw [if_pos hx]
  refine ⟨⟨fun _ => ?_,fun _ => by simp⟩,fun y hy => ?_⟩
  ·rw [hst,if_neg,if_pos hx]
   rw [nameB_iff,sylB_iff];omega
  ·rw [List.mem_singleton] at hy
   subst hy
   rw [hst,if_pos (.inl (by rw [nameB_iff];omega))]
   exact .inl rfl
 ·unfold Tab.mapsOf
  rw [if_neg hx]
  refine ⟨⟨fun hf => ?_,fun hs => ?_⟩,fun y hy => ?_⟩
  ·have hm:=h5.2 _ (findL_mem hf)
   unfold Tab.mapOk at hm
   rw [Bool.and_eq_true,decide_eq_true_eq] at hm
   exact hm.1
  ·rw [hst] at hs
   split at hs
   ·cases hs
   ·obtain ⟨s,hsm,h1,h2,h3⟩:=value_mem (l:=T.status) (c:=x) (by omega)
    have he:=(h.map.col.2 s hsm).1
    obtain rfl:x=s.1:=by omega
    have hk:s.1 ∈ keysOf T.maps:=by
     rw [← h.map.same]
     exact List.mem_map.2 ⟨s,List.mem_filter.2 ⟨hsm,by simpa using (by omega:s.2.2=3)⟩,rfl⟩
    obtain ⟨m,hm,hme⟩:=List.mem_map.1 hk
    have hp:(keysOf T.maps).Pairwise (· < ·):=by
     rw [← h.map.same]
     exact ((pool_sort.sublist (List.take_sublist _ _)).sublist h.map.col.1).sublist (List.filter_sublist.map _)
    rw [← hme,find_key hp hm]
    obtain ⟨a,_,hl⟩:=h.map.form m hm
    rcases hl with hl | hl <;> rw [hl] <;> simp
  ·have hf:findL T.maps x ≠ []:=fun e => by rw [e] at hy;cases hy
   have hm:=h5.2 _ (findL_mem hf)
   unfold Tab.mapOk at hm
   rw [Bool.and_eq_true,List.all_eq_true] at hm
   simpa [okStat] using hm.2 y hy
end ND
namespace Go.Proofs.YtjafpikjpipbkaaGreatDoor
open Go.RowKit ND
theorem ownStatus (W:World) (q:Int × Int × Int × Int):Calls Tryz.prog 77 #[fixV q] W fun e W' => e=.returned (.int .i64 (q.2.2.2)) ∧ Below W.heap.size W W':=by
 unfold fixV
 go_enter Tryz.func77,Tryz.ntmps77
 go_wp2_with fail
 go_ret
 exact ⟨rfl,(Below.refl _ _).alloc (Nat.le_refl _) _⟩
theorem status_any (t:Tv) (T:Tab) (c lo hi:Int) (w:World) (ht:TabR w w.heap.size t T) (hs:okS lo hi (-1) T.status=true) (hlen:T.status.length ≤ 256) :
  Calls Tryz.prog 38 #[t.val,.int .i64 c] w fun e w' => e=.returned (.int .i64 (T.statusOf c)) ∧ Below w.heap.size w w':=by
 have HP:=Lib.hid (fun W (h:Spans W W.heap.size t.c5 T.status) => pick_prop 77 (fun q => q.2.2.2) t.c5 T.status c lo hi W (enters_of Tryz.func77 (by kernel_rfl) rfl) ownStatus h hs hlen)
 have hr:=ht.r5
 have HR:=Lib.hid (fun o:Obj => hr.later ((Below.refl _ _).alloc (Nat.le_refl _) o))
 clear hr ht hs hlen
 go_enter Tryz.func38,Tryz.ntmps38
 go_wp2_with fail
 refine (HP.out _ (HR.out _)).mono ?_
 rintro e w1 ⟨rfl,b1⟩
 go_wp2_with fail
 go_ret
 exact ⟨rfl,below_next ((Below.refl _ _).alloc (Nat.le_refl _) _) b1⟩
end Go.Proofs.YtjafpikjpipbkaaGreatDoor
namespace Go.Proofs.YtjafpikjpipbkaaGreatDoor
open Go.RowKit ND
theorem count_go {l:List Sp} {k:Nat} {s:Sp} {n R:Int} (hx:l[k]?=some s) (h:n + mapCount (l.drop k)=R):(s.2.2=3 → n + (s.2.1 - s.1 + 1) + mapCount (l.drop (k + 1))=R) ∧ (s.2.2 ≠ 3 → n + mapCount (l.drop (k + 1))=R):=by
 rw [drop_of_get hx,mapCount] at h
 constructor
 ·intro h3;rw [if_pos h3] at h;omega
 ·intro h3;rw [if_neg h3] at h;omega
theorem count_end {l:List Sp} {k:Nat} {n R:Int} (hk:l.length ≤ k) (h:n + mapCount (l.drop k)=R):R=n:=by
 rw [List.drop_eq_nil_of_le hk] at h;unfold mapCount at h;omega
def elOk (T:Tab) (c:Int):Bool:=okStat (T.statusOf c)
theorem mapOk_no {T:Tab} {c:Int} {tg:List Int} (h:T.statusOf c ≠ 3):T.mapOk (c,tg)=false:=by unfold Tab.mapOk;rw [decide_eq_false h];rfl
theorem mapOk_yes {T:Tab} {c:Int} {tg:List Int} (h:T.statusOf c=3):T.mapOk (c,tg)=tg.all (elOk T):=by unfold Tab.mapOk;rw [decide_eq_true h];rfl
theorem stat_ways (s:Int):(okStat s=true ∧ (s != 1)=false) ∨ (okStat s=true ∧ (s != 1)=true ∧ (s != 4)=false) ∨ (okStat s=false ∧ (s != 1)=true ∧ (s != 4)=true):=by
 unfold okStat
 simp only [decide_eq_true_eq,decide_eq_false_iff_not,bne_iff_ne,ne_eq,bne_eq_false_iff_eq]
 omega
theorem mapped_any (t:Tv) (T:Tab) (w:World) (ht:TabR w w.heap.size t T) (hg:GoodS T.status) :
  Calls Tryz.prog 53 #[t.val] w fun e w' => e=.returned (.bool T.rule5) ∧ Below w.heap.size w w':=by
 obtain ⟨tc,htc⟩:∃ tc,tc=t.cells:=⟨_,rfl⟩
 have HST:=Lib.hid (fun c W (h:TabR W W.heap.size t T) => status_any t T c 0 1114111 W h hg.1 hg.2.1)
 have HT:=Lib.hid (fun W (h:Below w.heap.size w W) => ht.later h)
 have hsp:=ht.r5
 have hmp:=ht.r8
 obtain ⟨A0,A1,A2,A3,A4,A5,A6,A7,A8,A9,A10,A11,k0,k1,k2,k3,k4,k5,k6,k7,k8,k9,k10,k11,rfl⟩:=ht.shape
 clear ht
 have HTC:=Lib.hid htc
 clear htc
 obtain ⟨A,cp,hA,hc1,hc2,_,hcell⟩:=hsp
 cases hA
 have HC:=Lib.hid hcell
 have hlm:T.status.length ≤ 256:=hg.2.1
 obtain ⟨B,cq,hB,hd1,hd2,_,hcell2⟩:=hmp
 cases hB
 have HM:=Lib.hid hcell2
 have hln:T.maps.length ≤ 9223372036854775807:=by unfold maxLen at hd2;omega
 have HEL:=Lib.hid (fun i a (h:T.status[i]?=some a) => okS_el hg.1 h)
 clear hcell hc1 hc2 hcell2 hd1 hd2 hg
 obtain ⟨R,hR⟩:∃ R,R=T.rule5:=⟨_,rfl⟩
 rw [← hR]
 obtain ⟨N,hN⟩:∃ N,N=mapCount T.status:=⟨_,rfl⟩
 obtain ⟨Rm,hRm⟩:∃ Rm,Rm=T.maps.all T.mapOk:=⟨_,rfl⟩
 have HN0:Hid (0 + mapCount (T.status.drop 0)=N):=Lib.hid (by rw [hN,Int.zero_add];rfl)
 have HM0:Hid ((T.maps.drop 0).all T.mapOk=Rm):=Lib.hid hRm.symm
 have HRR:Hid (R=(decide (N=(T.maps.length:Int)) && Rm)):=Lib.hid (by rw [hR,hN,hRm];rfl)
 clear hR hN hRm
 go_enter Tryz.func53,Tryz.ntmps53
 go_wp2_with fail
 go_loopw [3,14] (fun n i wr => ∃ (j:Nat) (m:Int),j ≤ T.status.length ∧ i=.int .i64 j ∧ n=.int .i64 m ∧ 0 ≤ m ∧ m ≤ 1114112 * (j:Int) ∧ Hid (m + mapCount (T.status.drop j)=N) ∧ Below w.heap.size w wr ∧ Hid (Blk wr w.heap.size 26 tc)) (fun _ i _ => T.status.length - (intOf i).toNat)
 case atStart => exact ⟨0,0,by omega,rfl,rfl,by omega,by omega,HN0,(Below.refl _ _).alloc (Nat.le_refl _) _,Lib.hid (by rw [HTC.out];exact Blk.new _ _ _)⟩
 case round =>
  obtain ⟨j,m,hj,rfl,rfl,hm0,hm1,HS,hbel,HB⟩:=hrel
  clear HN0
  by_cases hjl:j < T.status.length
  ·obtain ⟨⟨f,t,x⟩,hxj,_⟩:=get_el hjl
   obtain ⟨aj,rfl,ha,d0,d1,d2⟩:=HC.out j _ hxj
   simp only at d0 d1 d2
   obtain ⟨e0,e1,e2⟩:=span_cells hbel ha d0 d1 d2
   have hel:=HEL.out j _ hxj
   simp only at hel
   have hcg:=count_go hxj HS.out
   simp only at hcg
   have HCG:=Lib.hid hcg
   have HB':=Lib.hid (HB.out.alloc (.cells #[.int .i64 f,.int .i64 t,.int .i64 x] 54))
   clear d0 d1 d2 hxj ha hcg HB
   have r0:(0:Int) ≤ (j:Int):=by omega
   have r1:(j:Int) < (T.status.length:Int):=by omega
   by_cases hx3:x=3
   ·have HNX:=Lib.hid (HCG.out.1 hx3)
    have p1:(x == 3)=true:=by rw [beq_iff_eq];exact hx3
    clear hx3 HCG
    go_wp2_with fail
    go_roundw
    case rel => exact ⟨j + 1,m + (t - f + 1),by omega,by go_num,rfl,by omega,by omega,HNX,hbel.alloc hbel.size _,HB'⟩
    case measure => simp [intOf];omega
   ·have HNX:=Lib.hid (HCG.out.2 hx3)
    have p1:(x == 3)=false:=by rw [beq_eq_false_iff_ne];exact hx3
    clear hx3 HCG
    go_wp2_with fail
    go_roundw
    case rel => exact ⟨j + 1,m,by omega,by go_num,rfl,by omega,by omega,HNX,hbel.alloc hbel.size _,HB'⟩
    case measure => simp [intOf];omega
  ·have hNm:=count_end (by omega) HS.out
   obtain ⟨x0,x1,x2,x3,x4,x5,x6,x7,x8,x9,x10,x11⟩:=(show Blk _ _ _ #[_,_,_,_,_,_,_,_,_,_,_,_] from by have h:=HB.out;rw [HTC.out] at h;exact h).tab
   have HBT:=Lib.hid HB.out
   clear HS HC HEL HB
   by_cases hne:m=(T.maps.length:Int)
   ·have p1:(m != (T.maps.length:Int))=false:=by rw [bne_eq_false_iff_eq];exact hne
    have HR2:Hid (R=Rm):=Lib.hid (by rw [HRR.out,hNm,decide_eq_true hne,Bool.true_and])
    clear hne hNm HRR
    go_wp2_with fail
    clear x0 x1 x2 x3 x4 x5 x6 x7 x8 x9 x10 x11
    go_loopw [38] (fun i wr => ∃ (j:Nat),j ≤ T.maps.length ∧ i=.int .i64 j ∧ Hid ((T.maps.drop j).all T.mapOk=Rm) ∧ Below w.heap.size w wr ∧ Hid (Blk wr w.heap.size 26 tc)) (fun i _ => T.maps.length - (intOf i).toNat)
    case atStart => exact ⟨0,by omega,rfl,HM0,hbel,HBT⟩
    case round =>
     obtain ⟨j,hj,rfl,HS,hbel,HB⟩:=hrel
     clear HM0 HBT
     by_cases hjl:j < T.maps.length
     ·obtain ⟨⟨cc,tg⟩,hxj,_⟩:=get_el hjl
      obtain ⟨aj,sv,rfl,ha,d0,d1,hto⟩:=HM.out j _ hxj
      simp only at d0 d1 hto
      obtain ⟨A',c',rfl,he1,he2,_,hcl⟩:=id hto
      have HTO:=Lib.hid hcl
      have hlt:tg.length ≤ 9223372036854775807:=by unfold maxLen at he2;omega
      obtain ⟨e0,e1⟩:=map_cells hbel ha d0 d1
      have HX:=Lib.hid hxj
      have HTR:=Lib.hid (fun o => HT.out _ (hbel.alloc hbel.size o))
      have HB':=Lib.hid (HB.out.alloc (.cells #[.int .i64 cc,.slice A' tg.length c'] 61))
      obtain ⟨x0,x1,x2,x3,x4,x5,x6,x7,x8,x9,x10,x11⟩:=(show Blk _ _ _ #[_,_,_,_,_,_,_,_,_,_,_,_] from by have h:=HB'.out;rw [HTC.out] at h;exact h).tab
      clear d0 d1 hxj ha hto hcl he1 he2 HB
      have r0:(0:Int) ≤ (j:Int):=by omega
      have r1:(j:Int) < (T.maps.length:Int):=by omega
      have HS1:=Lib.hid (HST.out cc)
      by_cases hs3:T.statusOf cc=3
      ·have HOK:=Lib.hid (mapOk_yes (T:=T) (tg:=tg) hs3)
       have p2:(T.statusOf cc != 3)=false:=by rw [bne_eq_false_iff_eq];exact hs3
       obtain ⟨Rt,hRt⟩:∃ Rt,Rt=tg.all (elOk T):=⟨_,rfl⟩
       have HO:Hid ((tg.drop 0).all (elOk T)=Rt):=Lib.hid hRt.symm
       have HOK2:Hid (T.mapOk (cc,tg)=Rt):=Lib.hid (HOK.out.trans hRt.symm)
       clear hs3 HOK hRt
       go_wp2_with fail
       refine (HS1.out _ (HTR.out _)).mono ?_
       rintro e w2 ⟨rfl,b2⟩
       have hbel2:=below_next (hbel.alloc hbel.size (.cells #[.int .i64 cc,.slice A' tg.length c'] 61)) b2
       have HB2:=Lib.hid (HB'.out.later b2)
       have d1:=((Blk.new wr 61 #[.int .i64 cc,.slice A' tg.length c']).later b2).at_ (i:=1) (u:=.slice A' tg.length c') rfl
       clear HB' b2 hbel e0 e1 x0 x1 x2 x3 x4 x5 x6 x7 x8 x9 x10 x11
       go_wp2_with fail
       clear d1
       go_loopw [50] (fun i wr => ∃ (q:Nat),q ≤ tg.length ∧ i=.int .i64 q ∧ Hid ((tg.drop q).all (elOk T)=Rt) ∧ Below w.heap.size w wr ∧ Hid (Blk wr w.heap.size 26 tc)) (fun i _ => tg.length - (intOf i).toNat)
       case atStart => exact ⟨0,by omega,rfl,HO,hbel2,HB2⟩
       case round =>
        obtain ⟨q,hq,rfl,HSq,hbelq,HBq⟩:=hrel
        clear HO HB2 hbel2
        by_cases hql:q < tg.length
        ·obtain ⟨y,hyq,_⟩:=get_el hql
         obtain ⟨ay,rfl,hay,d0⟩:=HTO.out q _ hyq
         have e0:=(hbelq.cell (p:=ay.add q) (by rw [block_of_add];exact hay)).trans d0
         have HXq:=Lib.hid hyq
         obtain ⟨x0,x1,x2,x3,x4,x5,x6,x7,x8,x9,x10,x11⟩:=(show Blk _ _ _ #[_,_,_,_,_,_,_,_,_,_,_,_] from by have h:=HBq.out;rw [HTC.out] at h;exact h).tab
         clear d0 hyq hay
         have s0:(0:Int) ≤ (q:Int):=by omega
         have s1:(q:Int) < (tg.length:Int):=by omega
         have HS2:=Lib.hid (HST.out y)
         have HTq:=Lib.hid (HT.out _ hbelq)
         rcases stat_ways (T.statusOf y) with ⟨ho,u0⟩ | ⟨ho,u0,u1⟩ | ⟨ho,u0,u1⟩
         ·have HNX:=Lib.hid (each_go HXq.out HSq.out ho)
          clear ho
          go_wp2_with fail
          refine (HS2.out _ HTq.out).mono ?_
          rintro e w2 ⟨rfl,b2⟩
          have HB3:=Lib.hid (HBq.out.later b2)
          clear HBq x0 x1 x2 x3 x4 x5 x6 x7 x8 x9 x10 x11 e0
          go_wp2_with fail
          go_roundw
          case rel => exact ⟨q + 1,by omega,by go_num,HNX,below_next hbelq b2,HB3⟩
          case measure => simp [intOf];omega
         ·have HNX:=Lib.hid (each_go HXq.out HSq.out ho)
          clear ho
          go_wp2_with fail
          refine (HS2.out _ HTq.out).mono ?_
          rintro e w2 ⟨rfl,b2⟩
          have HB3:=Lib.hid (HBq.out.later b2)
          clear HBq x0 x1 x2 x3 x4 x5 x6 x7 x8 x9 x10 x11 e0
          go_wp2_with fail
          go_roundw
          case rel => exact ⟨q + 1,by omega,by go_num,HNX,below_next hbelq b2,HB3⟩
          case measure => simp [intOf];omega
         ·have HNX:=Lib.hid (each_no HXq.out HSq.out ho)
          clear ho
          go_wp2_with fail
          refine (HS2.out _ HTq.out).mono ?_
          rintro e w2 ⟨rfl,b2⟩
          clear HBq x0 x1 x2 x3 x4 x5 x6 x7 x8 x9 x10 x11 e0
          go_wp2_with fail
          go_ret
          rw [HR2.out,each_no HX.out HS.out (HOK2.out.trans HNX.out)]
          exact ⟨rfl,below_next hbelq b2⟩
        ·have HNX:=Lib.hid (each_go HX.out HS.out (HOK2.out.trans (each_end (by omega) HSq.out)))
         go_wp2_with fail
         go_roundw
         case rel => exact ⟨j + 1,by omega,by go_num,HNX,hbelq,HBq⟩
         case measure => simp [intOf];omega
      ·have HNX:=Lib.hid (each_no HX.out HS.out (mapOk_no (tg:=tg) hs3))
       have p2:(T.statusOf cc != 3)=true:=by rw [bne_iff_ne];exact hs3
       clear hs3
       go_wp2_with fail
       refine (HS1.out _ (HTR.out _)).mono ?_
       rintro e w2 ⟨rfl,b2⟩
       clear x0 x1 x2 x3 x4 x5 x6 x7 x8 x9 x10 x11 e0 e1
       go_wp2_with fail
       go_ret
       rw [HR2.out,HNX.out]
       exact ⟨rfl,below_next (hbel.alloc hbel.size _) b2⟩
     ·have HNX:=Lib.hid (each_end (by omega) HS.out)
      go_wp2_with fail
      go_ret
      rw [HR2.out,HNX.out]
      exact ⟨rfl,hbel⟩
   ·have p1:(m != (T.maps.length:Int))=true:=by rw [bne_iff_ne];exact hne
    have HR2:Hid (R=false):=Lib.hid (by rw [HRR.out,hNm,decide_eq_false hne,Bool.false_and])
    clear hne hNm HRR
    go_wp2_with fail
    go_ret
    rw [HR2.out]
    exact ⟨rfl,hbel⟩
end Go.Proofs.YtjafpikjpipbkaaGreatDoor
