/-
  Merged texts: lemmas and walks that the last text of this claim leans on.
-/
import Derived.Test.YtjafpikjpipbkaaGreatDoorMgTS28
import Derived.Test.YtjafpikjpipbkaaGreatDoorMgTS13
import Derived.Test.YtjafpikjpipbkaaGreatDoorMgTS27
set_option maxRecDepth 100000
set_option maxHeartbeats 40000000
namespace Go.Proofs.YtjafpikjpipbkaaGreatDoor
open Go.RowKit ND
section
variable {a:Act} {o:Oper} {w:World}
theorem run_nilck {P:Program} {x:Operand} {ad:Addr} (ho:o.op=.nilCheck x) (hx:a.eval x=.pointer (some ad)):(execOp a.eval o).run P w=.ok (.value (.pointer (some ad))) w:=by
 unfold execOp
 rw [ho]
 simp only [hx]
 go_simp
theorem run_str0 {x:Operand} {b:Nat} (ho:o.op=.fieldAddr 93 x 0) (hx:a.eval x=.pointer (some ⟨b,0,none⟩)):(execOp a.eval o).run Tryz.prog w=.ok (.value (.pointer (some ⟨b,0,none⟩))) w:=by
 unfold execOp
 rw [ho]
 simp only [hx]
 go_simp
theorem run_str2 {x:Operand} {b:Nat} (ho:o.op=.fieldAddr 93 x 2) (hx:a.eval x=.pointer (some ⟨b,0,none⟩)):(execOp a.eval o).run Tryz.prog w=.ok (.value (.pointer (some ⟨b,13,none⟩))) w:=by
 unfold execOp
 rw [ho]
 simp only [hx]
 go_simp
theorem run_load_str {x:Operand} {b:Nat} {t:Tv} {mv hv:Value} (ho:o.op=.load 26 x) (hx:a.eval x=.pointer (some ⟨b,0,none⟩)) (hb:Blk w b 93 #[t.c0,t.c1,t.c2,t.c3,t.c4,t.c5,t.c6,t.c7,t.c8,t.c9,t.c10,t.c11,mv,hv]):(execOp a.eval o).run Tryz.prog w=.ok (.value (.agg #[t.c0,t.c1,t.c2,t.c3,t.c4,t.c5,t.c6,t.c7,t.c8,t.c9,t.c10,t.c11])) w:=by
 have x0:=hb.at_ (i:=0) rfl;have x1:=hb.at_ (i:=1) rfl;have x2:=hb.at_ (i:=2) rfl;have x3:=hb.at_ (i:=3) rfl
 have x4:=hb.at_ (i:=4) rfl;have x5:=hb.at_ (i:=5) rfl;have x6:=hb.at_ (i:=6) rfl;have x7:=hb.at_ (i:=7) rfl
 have x8:=hb.at_ (i:=8) rfl;have x9:=hb.at_ (i:=9) rfl;have x10:=hb.at_ (i:=10) rfl;have x11:=hb.at_ (i:=11) rfl
 unfold execOp
 rw [ho]
 simp only [hx]
 go_simp
end
noncomputable abbrev opsSE:Array Oper:=opsAt Tryz.f13 1
def wrSE:List Nat:=[3,4,5,6,7,8,9,10,11,12,13,14,15,16]
def keepSE:List Nat:=(List.range 21).filter (fun k => !wrSE.contains k)
def fixSE (r:Nat → Value):List (Tmp × Value):=keepSE.map (fun k => (k,r k))
theorem fixSE_mem {r:Nat → Value} {k:Nat} (h:keepSE.contains k=true):(k,r k) ∈ fixSE r:=List.mem_map.2 ⟨k,List.contains_iff_mem.1 h,rfl⟩
def RSE (gb:Nat) (t:Tv) (hv:Value) (g:Option (Value × Int × World)) (j:Nat) (v:Value):Prop :=
 match j with
 | 0 => v=.pointer (some ⟨gb,0,none⟩)
 | 1 => v=.pointer (some ⟨gb,0,none⟩)
 | 2 => v=.pointer (some ⟨gb,0,none⟩)
 | 3 => v=.agg #[t.c0,t.c1,t.c2,t.c3,t.c4,t.c5,t.c6,t.c7,t.c8,t.c9,t.c10,t.c11]
 | 4 => v=.pointer (some ⟨gb,0,none⟩)
 | 5 => v=.pointer (some ⟨gb,0,none⟩)
 | 6 => v=.pointer (some ⟨gb,13,none⟩)
 | 7 => v=hv
 | 8 => ∃ x k V',g=some (x,k,V') ∧ v=.tuple #[x,.int .i64 k]
 | 9 => ∃ x k V',g=some (x,k,V') ∧ v=.tuple #[x,.int .i64 k]
 | 10 => ∃ x k V',g=some (x,k,V') ∧ v=x
 | 11 => ∃ x k V',g=some (x,k,V') ∧ v=.int .i64 k
 | 12 => ∃ x k V',g=some (x,k,V') ∧ v=x
 | 13 => ∃ x k V',g=some (x,k,V') ∧ v=.int .i64 k
 | _ => False
def CSE (W0:World) (Phi:Value → Int → World → Prop) (g:Option (Value × Int × World)) (listed:Array Bool) (w:World):Prop :=
 match g with
 | none => listed.getD 8 true=false ∧ w=W0
 | some (x,k,V') => listed.getD 8 false=true ∧ Phi x k V' ∧ w=V'
theorem RSE.some {gb:Nat} {t:Tv} {hv:Value} {q:(Value × Int × World)} {j:Nat} {v:Value} (h:RSE gb t hv none j v):RSE gb t hv (some q) j v:=by
 unfold RSE at h ⊢
 split at h <;> first | exact h | (obtain ⟨_,_,_,e,_⟩:=h;cases e)
theorem CSE.other {W0:World} {Phi:Value → Int → World → Prop} {g:Option (Value × Int × World)} {listed:Array Bool} {w:World} {i:Nat} (h:CSE W0 Phi g listed w) (h7:i ≠ 8):CSE W0 Phi g (listed.setIfInBounds i true) w:=by
 unfold CSE at h ⊢
 split at h
 ·rw [getD_set (Ne.symm h7)];exact h
 ·rw [getD_set (Ne.symm h7)];exact h
theorem CSE.world {W0:World} {Phi:Value → Int → World → Prop} {g:Option (Value × Int × World)} {listed:Array Bool} {w:World} (h:CSE W0 Phi g listed w):w=W0 ∨ ∃ x k,Phi x k w:=by
 unfold CSE at h
 split at h
 ·exact .inl h.2
 ·obtain ⟨_,hp,rfl⟩:=h;exact .inr ⟨_,_,hp⟩
section
variable {W0:World} {r:Nat → Value} {gb:Nat} {t:Tv} {hv:Value} {Phi:Value → Int → World → Prop} {Q:Exit → Act → World → Prop}
def ObSE (W0:World) (r:Nat → Value) (gb:Nat) (t:Tv) (hv:Value) (Phi:Value → Int → World → Prop) (Q:Exit → Act → World → Prop) (k:Nat):Prop :=
 ObH Tryz.prog opsSE 21 [] (fixSE r) (CSE W0 Phi) (RSE gb t hv) Q k
theorem obSE_0 (hr:r 0=.pointer (some ⟨gb,0,none⟩)):ObSE W0 r gb t hv Phi Q 0:=by
 intro o ho g listed a w hC hsl hl hcl hf hd K hK
 rw [if_pos (wanted_none _ (get_op (·.guard) ho (by kernel_rfl)))]
 exact ob_move (get_op (·.op) ho (by kernel_rfl)) (eval_tmp ((hf.2.2 _ (fixSE_mem (k:=0) (by decide))).trans (congrArg some hr))) (hK g _ _ (fun _ _ => rfl) (hC.other (by decide)) (fun _ _ h => h))
theorem obSE_1:ObSE W0 r gb t hv Phi Q 1:=by
 intro o ho g listed a w hC hsl hl hcl hf hd K hK
 rw [if_pos (wanted_none _ (get_op (·.guard) ho (by kernel_rfl)))]
 obtain ⟨v1,h1,e1⟩:=dep_h ho hd 0 6 (by kernel_rfl) (by kernel_rfl)
 obtain rfl:v1=_:=e1
 exact ob_value (run_nilck (get_op (·.op) ho (by kernel_rfl)) (eval_tmp h1)) (hK g _ _ (fun _ _ => rfl) (hC.other (by decide)) (fun _ _ h => h))
theorem obSE_2:ObSE W0 r gb t hv Phi Q 2:=by
 intro o ho g listed a w hC hsl hl hcl hf hd K hK
 rw [if_pos (wanted_none _ (get_op (·.guard) ho (by kernel_rfl)))]
 obtain ⟨v1,h1,e1⟩:=dep_h ho hd 1 7 (by kernel_rfl) (by kernel_rfl)
 obtain rfl:v1=_:=e1
 exact ob_value (run_str0 (get_op (·.op) ho (by kernel_rfl)) (eval_tmp h1)) (hK g _ _ (fun _ _ => rfl) (hC.other (by decide)) (fun _ _ h => h))
theorem obSE_3 (hb:∀ V,(V=W0 ∨ ∃ x k,Phi x k V) → Blk V gb 93 #[t.c0,t.c1,t.c2,t.c3,t.c4,t.c5,t.c6,t.c7,t.c8,t.c9,t.c10,t.c11,.int .i64 32,hv]):ObSE W0 r gb t hv Phi Q 3:=by
 intro o ho g listed a w hC hsl hl hcl hf hd K hK
 rw [if_pos (wanted_none _ (get_op (·.guard) ho (by kernel_rfl)))]
 obtain ⟨v1,h1,e1⟩:=dep_h ho hd 2 8 (by kernel_rfl) (by kernel_rfl)
 obtain rfl:v1=_:=e1
 exact ob_value (run_load_str (get_op (·.op) ho (by kernel_rfl)) (eval_tmp h1) (hb w hC.world)) (hK g _ _ (fun _ _ => rfl) (hC.other (by decide)) (fun _ _ h => h))
theorem obSE_4 (hr:r 0=.pointer (some ⟨gb,0,none⟩)):ObSE W0 r gb t hv Phi Q 4:=by
 intro o ho g listed a w hC hsl hl hcl hf hd K hK
 rw [if_pos (wanted_none _ (get_op (·.guard) ho (by kernel_rfl)))]
 exact ob_move (get_op (·.op) ho (by kernel_rfl)) (eval_tmp ((hf.2.2 _ (fixSE_mem (k:=0) (by decide))).trans (congrArg some hr))) (hK g _ _ (fun _ _ => rfl) (hC.other (by decide)) (fun _ _ h => h))
theorem obSE_5:ObSE W0 r gb t hv Phi Q 5:=by
 intro o ho g listed a w hC hsl hl hcl hf hd K hK
 rw [if_pos (wanted_none _ (get_op (·.guard) ho (by kernel_rfl)))]
 obtain ⟨v1,h1,e1⟩:=dep_h ho hd 4 10 (by kernel_rfl) (by kernel_rfl)
 obtain rfl:v1=_:=e1
 exact ob_value (run_nilck (get_op (·.op) ho (by kernel_rfl)) (eval_tmp h1)) (hK g _ _ (fun _ _ => rfl) (hC.other (by decide)) (fun _ _ h => h))
theorem obSE_6:ObSE W0 r gb t hv Phi Q 6:=by
 intro o ho g listed a w hC hsl hl hcl hf hd K hK
 rw [if_pos (wanted_none _ (get_op (·.guard) ho (by kernel_rfl)))]
 obtain ⟨v1,h1,e1⟩:=dep_h ho hd 5 11 (by kernel_rfl) (by kernel_rfl)
 obtain rfl:v1=_:=e1
 exact ob_value (run_str2 (get_op (·.op) ho (by kernel_rfl)) (eval_tmp h1)) (hK g _ _ (fun _ _ => rfl) (hC.other (by decide)) (fun _ _ h => h))
theorem obSE_7 (hb:∀ V,(V=W0 ∨ ∃ x k,Phi x k V) → V.cell? ⟨gb,13,none⟩=some hv):ObSE W0 r gb t hv Phi Q 7:=by
 intro o ho g listed a w hC hsl hl hcl hf hd K hK
 rw [if_pos (wanted_none _ (get_op (·.guard) ho (by kernel_rfl)))]
 obtain ⟨v1,h1,e1⟩:=dep_h ho hd 6 12 (by kernel_rfl) (by kernel_rfl)
 obtain rfl:v1=_:=e1
 exact ob_value (run_load_row (get_op (·.op) ho (by kernel_rfl)) (eval_tmp h1) (hb w hC.world)) (hK g _ _ (fun _ _ => rfl) (hC.other (by decide)) (fun _ _ h => h))
theorem obSE_8 (hc:Calls Tryz.prog 10 #[.agg #[t.c0,t.c1,t.c2,t.c3,t.c4,t.c5,t.c6,t.c7,t.c8,t.c9,t.c10,t.c11],hv] W0 fun e w' => ∃ x k,e=.returned (.tuple #[x,.int .i64 k]) ∧ Phi x k w'):ObSE W0 r gb t hv Phi Q 8:=by
 intro o ho g listed a w hC hsl hl hcl hf hd K hK
 rw [if_pos (wanted_none _ (get_op (·.guard) ho (by kernel_rfl)))]
 obtain ⟨v1,h1,e1⟩:=dep_h ho hd 3 9 (by kernel_rfl) (by kernel_rfl)
 obtain rfl:v1=_:=e1
 obtain ⟨v2,h2,e2⟩:=dep_h ho hd 7 13 (by kernel_rfl) (by kernel_rfl)
 obtain rfl:v2=_:=e2
 have hg:g=none:=by
  cases g with
  | none => rfl
  | some q =>
    exfalso
    have h7:listed.getD 8 false=true:=by unfold CSE at hC;exact hC.1
    rw [getD_any (by have:=(Array.getElem?_eq_some_iff.1 ho).1;omega) false true,hl] at h7
    cases h7
 subst hg
 obtain ⟨_,rfl⟩:=id hC
 have hi7:=(Array.getElem?_eq_some_iff.1 ho).1
 exact ob_enter (enter2 (tys:=#[26,22]) (get_op (·.op) ho (by kernel_rfl)) (eval_tmp h1) (eval_tmp h2) (fun args w => enters_of Tryz.func10 (by kernel_rfl) rfl args w)) hc fun e w' ⟨x,k,he,hp⟩ => ⟨_,he,hK (some (x,k,w')) _ _ (fun _ _ => ⟨_,_,_,rfl,rfl⟩) ⟨getD_same (by omega),hp,rfl⟩ (fun _ _ h => RSE.some h)⟩
theorem obSE_9:ObSE W0 r gb t hv Phi Q 9:=by
 intro o ho g listed a w hC hsl hl hcl hf hd K hK
 rw [if_pos (wanted_none _ (get_op (·.guard) ho (by kernel_rfl)))]
 obtain ⟨v1,h1,e1⟩:=dep_h ho hd 8 14 (by kernel_rfl) (by kernel_rfl)
 obtain ⟨x,k,V',hg,rfl⟩:=e1
 exact ob_move (get_op (·.op) ho (by kernel_rfl)) (eval_tmp h1) (hK g _ _ (fun _ _ => ⟨_,_,_,hg,rfl⟩) (hC.other (by decide)) (fun _ _ h => h))
theorem obSE_10:ObSE W0 r gb t hv Phi Q 10:=by
 intro o ho g listed a w hC hsl hl hcl hf hd K hK
 rw [if_pos (wanted_none _ (get_op (·.guard) ho (by kernel_rfl)))]
 obtain ⟨v1,h1,e1⟩:=dep_h ho hd 9 5 (by kernel_rfl) (by kernel_rfl)
 obtain ⟨x,k,V',hg,rfl⟩:=e1
 exact ob_extract (k:=0) (get_op (·.op) ho (by kernel_rfl)) (eval_tmp h1) rfl (hK g _ _ (fun _ _ => ⟨_,_,_,hg,rfl⟩) (hC.other (by decide)) (fun _ _ h => h))
theorem obSE_11:ObSE W0 r gb t hv Phi Q 11:=by
 intro o ho g listed a w hC hsl hl hcl hf hd K hK
 rw [if_pos (wanted_none _ (get_op (·.guard) ho (by kernel_rfl)))]
 obtain ⟨v1,h1,e1⟩:=dep_h ho hd 9 5 (by kernel_rfl) (by kernel_rfl)
 obtain ⟨x,k,V',hg,rfl⟩:=e1
 exact ob_extract (k:=1) (get_op (·.op) ho (by kernel_rfl)) (eval_tmp h1) rfl (hK g _ _ (fun _ _ => ⟨_,_,_,hg,rfl⟩) (hC.other (by decide)) (fun _ _ h => h))
theorem obSE_12:ObSE W0 r gb t hv Phi Q 12:=by
 intro o ho g listed a w hC hsl hl hcl hf hd K hK
 rw [if_pos (wanted_none _ (get_op (·.guard) ho (by kernel_rfl)))]
 obtain ⟨v1,h1,e1⟩:=dep_h ho hd 10 15 (by kernel_rfl) (by kernel_rfl)
 obtain ⟨x,k,V',hg,rfl⟩:=e1
 exact ob_assign (get_op (·.op) ho (by kernel_rfl)) (eval_tmp h1) (hK g _ _ (fun _ _ => ⟨_,_,_,hg,rfl⟩) (hC.other (by decide)) (fun _ _ h => h))
theorem obSE_13:ObSE W0 r gb t hv Phi Q 13:=by
 intro o ho g listed a w hC hsl hl hcl hf hd K hK
 rw [if_pos (wanted_none _ (get_op (·.guard) ho (by kernel_rfl)))]
 obtain ⟨v1,h1,e1⟩:=dep_h ho hd 11 16 (by kernel_rfl) (by kernel_rfl)
 obtain ⟨x,k,V',hg,rfl⟩:=e1
 exact ob_assign (get_op (·.op) ho (by kernel_rfl)) (eval_tmp h1) (hK g _ _ (fun _ _ => ⟨_,_,_,hg,rfl⟩) (hC.other (by decide)) (fun _ _ h => h))
end
theorem SE_region {W:World} {a:Act} {gb:Nat} {t:Tv} {hv:Value} {Phi:Value → Int → World → Prop} {Q:Exit → Act → World → Prop} (hs:a.tmps.size=21) (hd:a.defers=[]) (hf0:a.tmps[0]?=some (.pointer (some ⟨gb,0,none⟩))) (hb:∀ V,(V=W.drew ∨ ∃ x k,Phi x k V) → Blk V gb 93 #[t.c0,t.c1,t.c2,t.c3,t.c4,t.c5,t.c6,t.c7,t.c8,t.c9,t.c10,t.c11,.int .i64 32,hv]) (hc:Calls Tryz.prog 10 #[.agg #[t.c0,t.c1,t.c2,t.c3,t.c4,t.c5,t.c6,t.c7,t.c8,t.c9,t.c10,t.c11],hv] W.drew fun e w' => ∃ x k,e=.returned (.tuple #[x,.int .i64 k]) ∧ Phi x k w')
  (hend:∀ (a':Act) x k V,Phi x k V → a'.tmps.size=21 → a'.defers=[] → (∀ j,j < 21 → keepSE.contains j=true → a'.tmps[j]?=a.tmps[j]?) → a'.tmps[3]?=some (x) → Q .normal a' V):(Code.region 1 opsSE true).wp Tryz.prog Q a W:=by
 have hr:∀ k,k < 21 → a.tmps[k]?=some ((a.tmps[k]?).getD undef):=fun k hk => by
  rw [Array.getElem?_eq_getElem (by rw [hs];exact hk)];rfl
 have hg:∀ {k:Nat} {v:Value},a.tmps[k]?=some v → (a.tmps[k]?).getD undef=v:=fun h => by rw [h];rfl
 refine wp_region_ghost (n:=21) (ds:=[]) (fixed:=fixSE (fun k => (a.tmps[k]?).getD undef)) (CSE W.drew Phi) (RSE gb t hv) none (by kernel_rfl) (by kernel_rfl) ⟨hs,hd,fun p hp => ?_⟩ ⟨by rw [show opsSE.size=14 by kernel_rfl];rfl,rfl⟩ (fun j hj => ?_) ?_
 ·obtain ⟨k,hk,rfl⟩:=List.mem_map.1 hp
  have:k < 21:=List.mem_range.1 (List.mem_filter.1 hk).1
  exact hr k this
 ·have hj':j < 14:=by rw [show opsSE.size=14 by kernel_rfl] at hj;exact hj
  match j,hj' with
  | 0,_ => exact obSE_0 (hg hf0)
  | 1,_ => exact obSE_1
  | 2,_ => exact obSE_2
  | 3,_ => exact obSE_3 hb
  | 4,_ => exact obSE_4 (hg hf0)
  | 5,_ => exact obSE_5
  | 6,_ => exact obSE_6
  | 7,_ => exact obSE_7 (fun V hV => (hb V hV).at_ rfl)
  | 8,_ => exact obSE_8 hc
  | 9,_ => exact obSE_9
  | 10,_ => exact obSE_10
  | 11,_ => exact obSE_11
  | 12,_ => exact obSE_12
  | 13,_ => exact obSE_13
  | m + 14,h => exact absurd h (by omega)
 ·rintro g listed a' w hall hC ⟨q1,q2,q3⟩ hsl
  have key:∀ (i d:Nat),(opsSE[i]?).map (·.dst)=some (some d) → ∃ v,a'.tmps[d]?=some v ∧ RSE gb t hv g i v:=fun i d h => by
   obtain ⟨oi,hoi,hdi⟩:=Option.map_eq_some_iff.1 h
   exact hsl i oi d hoi hdi
  obtain ⟨vL,hvL,x,k,V',hgL,rfl⟩:=key 13 4 (by kernel_rfl)
  subst hgL
  obtain ⟨_,hp,rfl⟩:=hC
  obtain ⟨v12,hv12,y12_0,y12_1,Y12,hg12,rfl⟩:=key 12 3 (by kernel_rfl)
  cases hg12
  exact hend a' x k w hp q1 q2 (fun j hj hk => (q3 _ (fixSE_mem hk)).trans (hr j hj).symm) hv12
end Go.Proofs.YtjafpikjpipbkaaGreatDoor
namespace Go.Proofs.YtjafpikjpipbkaaGreatDoor
open Go.RowKit ND
theorem onlyIn_set {S:List Nat} {w w':World} (h:onlyIn S w w') {p:Addr} (hp:p.block ∈ S) (u:Value):onlyIn S w (w'.setCell p u) :=
 ⟨h.1,h.2.1,h.2.2.1,by simpa [World.setCell] using h.2.2.2.1,fun k hk hl => (Below.heap_setCell w' p u k (fun e => hk (by rw [e];exact hp))).trans (h.2.2.2.2 k hk hl)⟩
structure StrR (w:World) (gb:Nat) (t:Tv) (T:Tab) (hv:Value) (ys:List Int):Prop where
 blk:Blk w gb 93 #[t.c0,t.c1,t.c2,t.c3,t.c4,t.c5,t.c6,t.c7,t.c8,t.c9,t.c10,t.c11,.int .i64 32,hv]
 tab:TabR w gb t T
 own:w.ownsRow (gb + 1) 3 1 hv ys.length (ys.map (Value.int .i64))
def RetEnd (w:World) (gb:Nat) (t:Tv) (T:Tab) (ys:List Int) (e:Ending) (w':World):Prop :=
 ∃ v,e=.returned v ∧ w'.ownsRow w.heap.size 3 1 v (nfcR T ys).1.length ((nfcR T ys).1.map (Value.int .i64)) ∧ StrR w' gb t T (.slice none 0 0) [] ∧ onlyIn [gb] w w'
theorem end_any (t:Tv) (T:Tab) (gb:Nat) (hv:Value) (ys:List Int) (w:World) (h:StrR w gb t T hv ys) (hg:Glob w) :
  Calls Tryz.prog 13 #[.pointer (some ⟨gb,0,none⟩)] w (RetEnd w gb t T ys):=by
 obtain ⟨hblk,htab,hown⟩:=h
 have hgl:=hblk.lt
 have HB:=Lib.hid hblk
 have HT:=Lib.hid htab
 have HN:=Lib.hid (nfc8_any t T hv ys w.drew ((htab.more (by omega)).later ((Below.refl _ w).drew)) (hg.later ((Below.refl _ w).drew)) ((Ints.of_own hown).later ((Below.refl _ w).drew)))
 clear hblk htab hg hown
 obtain ⟨R,hR⟩:∃ R,R=nfcR T ys:=⟨_,rfl⟩
 rw [← hR] at HN
 unfold RetEnd
 rw [← hR]
 clear hR
 show Calls _ _ _ _ (fun e w' => ∃ v,e=.returned v ∧ w'.ownsRow w.heap.size 3 1 v R.1.length (R.1.map (Value.int .i64)) ∧ StrR w' gb t T (.slice none 0 0) [] ∧ onlyIn [gb] w w')
 go_enter Tryz.func13,Tryz.ntmps13
 go_upto_region 1 with fail
 refine wp_region_as (ops:=opsSE) (by kernel_rfl) ?_
 refine SE_region (t:=t) (gb:=gb) (hv:=hv) (Phi:=fun x k V => k=R.2 ∧ V.ownsRow w.heap.size 3 1 x R.1.length (R.1.map (Value.int .i64)) ∧ Below w.heap.size w V) rfl rfl rfl ?_ ?_ ?_
 ·rintro V (rfl | ⟨x,k,_,_,hb⟩)
  ·exact HB.out.drew
  ·exact HB.out.later hb
 ·refine HN.out.mono ?_
  rintro e V ⟨v,he,ho,hb⟩
  exact ⟨v,_,he,rfl,ho,((Below.refl _ w).drew).trans hb⟩
 intro a' x k V hp hs hd ho h3
 obtain ⟨rfl,hox,hbV⟩:=hp
 obtain ⟨fa,hfa,ha⟩:=act_fun hs hd
 have ea0:=(hfa 0 (by decide)).symm.trans (ho 0 (by decide) (by kernel_rfl))
 simp only [List.getElem?_toArray,List.getElem?_cons_zero,Option.some.injEq] at ea0
 have ea1:=(hfa 1 (by decide)).symm.trans (ho 1 (by decide) (by kernel_rfl))
 simp only [List.getElem?_toArray,List.getElem?_cons_zero,List.getElem?_cons_succ,Option.some.injEq] at ea1
 have ea2:=(hfa 2 (by decide)).symm.trans (ho 2 (by decide) (by kernel_rfl))
 simp only [List.getElem?_toArray,List.getElem?_cons_zero,List.getElem?_cons_succ,Option.some.injEq] at ea2
 have ea17:=(hfa 17 (by decide)).symm.trans (ho 17 (by decide) (by kernel_rfl))
 simp only [List.getElem?_toArray,List.getElem?_cons_zero,List.getElem?_cons_succ,Option.some.injEq] at ea17
 have ea18:=(hfa 18 (by decide)).symm.trans (ho 18 (by decide) (by kernel_rfl))
 simp only [List.getElem?_toArray,List.getElem?_cons_zero,List.getElem?_cons_succ,Option.some.injEq] at ea18
 have ea19:=(hfa 19 (by decide)).symm.trans (ho 19 (by decide) (by kernel_rfl))
 simp only [List.getElem?_toArray,List.getElem?_cons_zero,List.getElem?_cons_succ,Option.some.injEq] at ea19
 have ea20:=(hfa 20 (by decide)).symm.trans (ho 20 (by decide) (by kernel_rfl))
 simp only [List.getElem?_toArray,List.getElem?_cons_zero,List.getElem?_cons_succ,Option.some.injEq] at ea20
 have ea3:fa 3=x:=Option.some.inj ((hfa 3 (by decide)).symm.trans (h3))
 have ha2:a'=⟨#[fa 0,fa 1,fa 2,fa 3,fa 4,fa 5,fa 6,fa 7,fa 8,fa 9,fa 10,fa 11,fa 12,fa 13,fa 14,fa 15,fa 16,fa 17,fa 18,fa 19,fa 20],[]⟩:=ha.trans (by kernel_rfl)
 rw [ea0,ea1,ea2,ea3,ea17,ea18,ea19,ea20] at ha2
 clear ha hfa ho ea0 ea1 ea2 ea3 ea17 ea18 ea19 ea20
 subst ha2
 have HBV:=Lib.hid (HB.out.later hbV)
 have HX:=Lib.hid hox
 have HBW:=Lib.hid hbV
 obtain ⟨Ax,cx,rfl⟩:=ownsRow_shape hox
 have hc13:=HBV.out.at_ (i:=13) rfl
 have hf13:=HBV.out.free 13
 clear hs hd hox hbV
 go_wp2_with fail
 go_ret
 have hgV:gb < V.heap.size:=HBV.out.lt
 refine ⟨_,rfl,own_grown HX.out (grown_setCell (grown_refl _ (some gb)) 13 _) hgl,⟨by simpa using HBV.out.put 13 (.slice none 0 0),HT.out.below ((HBW.out.mono (Nat.le_of_lt hgl)).setCell (p:=⟨gb,13,none⟩) (Nat.le_refl _) _),World.ownsRow_nil _ _ _ _⟩,onlyIn_set (S:=[gb]) (onlyIn.of_below HBW.out) (p:=⟨gb,13,none⟩) (by simp) _⟩
end Go.Proofs.YtjafpikjpipbkaaGreatDoor
namespace Go.Proofs.YtjafpikjpipbkaaGreatDoor
open Go.RowKit ND
def RetPush (w:World) (gb:Nat) (t:Tv) (T:Tab) (hv:Value) (ys:List Int) (c:Int) (e:Ending) (w':World):Prop :=
 (bndR T c=true ∧ ∃ v hv',e=.returned (.tuple #[v,.int .i64 0]) ∧ w'.ownsRow w.heap.size 3 1 v (nfcR T ys).1.length ((nfcR T ys).1.map (Value.int .i64)) ∧ StrR w' gb t T hv' [c] ∧ (∀ b,hv'.ownBlock=some b → w.heap.size ≤ b ∧ v.ownBlock ≠ some b) ∧ onlyIn [gb] w w')
 ∨ (bndR T c=false ∧ 32 ≤ ys.length ∧ e=.returned (.tuple #[.slice none 0 0,.int .i64 7]) ∧ StrR w' gb t T hv ys ∧ onlyIn [gb] w w')
 ∨ (bndR T c=false ∧ ys.length < 32 ∧ ∃ hv',e=.returned (.tuple #[.slice none 0 0,.int .i64 0]) ∧ StrR w' gb t T hv' (ys ++ [c]) ∧ (hv'.ownBlock=hv.ownBlock ∨ ∀ b,hv'.ownBlock=some b → w.heap.size ≤ b) ∧ onlyIn (gb :: ownS hv) w w')
theorem StrR.later {w w':World} {gb:Nat} {t:Tv} {T:Tab} {hv:Value} {ys:List Int} (h:StrR w gb t T hv ys) (hb:Below w.heap.size w w'):StrR w' gb t T hv ys :=
 ⟨h.blk.later hb,h.tab.below (hb.mono (Nat.le_of_lt h.blk.lt)),own_stay h.own hb⟩
theorem push_any (t:Tv) (T:Tab) (gb:Nat) (hv:Value) (ys:List Int) (c:Int) (w:World) (h:StrR w gb t T hv ys) (hg:Glob w) (hck:T.check=0) (hsc:scalarB c=true) (hyl:ys.length ≤ 5000) :
  Calls Tryz.prog 12 #[.pointer (some ⟨gb,0,none⟩),.int .i64 c] w (RetPush w gb t T hv ys c):=by
 obtain ⟨i0,hi,hz0,hz1,hz2⟩:=info_parts Tryz.infoInt
 have hgl:=h.blk.lt
 have HS:=Lib.hid h
 have HLN:=Lib.hid (fun W => length_any c W)
 have HBD:=Lib.hid (boundary_any t T c w (h.tab.more (Nat.le_of_lt hgl)) hg hck)
 have HEN:=Lib.hid (fun W (hb:Below w.heap.size w W) => end_any t T gb hv ys W (h.later hb) (hg.later hb))
 have hlc:((lenC c:Int) == 0)=false:=by unfold lenC;rw [hsc,if_pos rfl];(repeat' split) <;> rfl
 obtain ⟨L,hL⟩:∃ L,L=(lenC c:Int):=⟨_,rfl⟩
 rw [← hL] at hlc HLN
 clear hL h hg hck hsc
 obtain ⟨Ah,ch,rfl⟩:=ownsRow_shape HS.out.own
 obtain ⟨bd,hbd⟩:∃ bd,bd=bndR T c:=⟨_,rfl⟩
 rw [← hbd] at HBD
 have HBE:=Lib.hid hbd
 clear hbd
 go_enter Tryz.func12,Tryz.ntmps12
 have x0:=HS.out.blk.at_ (i:=0) rfl;have x1:=HS.out.blk.at_ (i:=1) rfl;have x2:=HS.out.blk.at_ (i:=2) rfl;have x3:=HS.out.blk.at_ (i:=3) rfl;have x4:=HS.out.blk.at_ (i:=4) rfl;have x5:=HS.out.blk.at_ (i:=5) rfl;have x6:=HS.out.blk.at_ (i:=6) rfl;have x7:=HS.out.blk.at_ (i:=7) rfl;have x8:=HS.out.blk.at_ (i:=8) rfl;have x9:=HS.out.blk.at_ (i:=9) rfl;have x10:=HS.out.blk.at_ (i:=10) rfl;have x11:=HS.out.blk.at_ (i:=11) rfl;have x12:=HS.out.blk.at_ (i:=12) rfl;have x13:=HS.out.blk.at_ (i:=13) rfl
 cases bd
 case true =>
  go_upto_region 4 with (first | (go_at_call 43;refine (HLN.out _).mono ?_;rintro e w1 ⟨rfl,rfl⟩) | (go_at_call 44;refine HBD.out.mono ?_;rintro e w2 ⟨rfl,b2⟩))
  clear x0 x1 x2 x3 x4 x5 x6 x7 x8 x9 x10 x11 x12 x13
  have HX:=Lib.hid (HEN.out w2 b2)
  go_upto_region 5 with (go_at_call 13;refine HX.out.mono ?_;rintro e w3 ⟨v,rfl,ho,hst,hon⟩)
  have hgl3:=hst.blk.lt
  have hc13:=hst.blk.at_ (i:=13) rfl
  have hf13:=hst.blk.free 13
  have HST:=Lib.hid hst
  have HO:=Lib.hid ho
  have HON:=Lib.hid hon
  obtain ⟨Av,cv,rfl⟩:=ownsRow_shape ho
  clear hst ho hon
  go_wp2_with fail
  go_ret2
  have hgl2:gb < w2.heap.size:=Nat.lt_of_lt_of_le hgl b2.size
  have hsz3:w2.heap.size ≤ w3.heap.size:=HON.out.2.2.2.1
  have hsz2:=b2.size
  obtain ⟨W3,hW3⟩:∃ W3,W3=w3.setCell ⟨gb,13,none⟩ (.slice (some ⟨w3.heap.size,0,none⟩) 1 1):=⟨_,rfl⟩
  have hsz:W3.heap.size=w3.heap.size:=by rw [hW3];simp [World.setCell]
  have hblk:=HST.out.blk.put 13 (.slice (some ⟨w3.heap.size,0,none⟩) 1 1)
  have hown:=row_le (own_grown HO.out (grown_setCell (grown_refl _ (some gb)) 13 (.slice (some ⟨w3.heap.size,0,none⟩) 1 1)) hgl2) b2.size
  have htab:=HST.out.tab.below ((Below.refl gb w3).setCell (p:=⟨gb,13,none⟩) (Nat.le_refl _) (.slice (some ⟨w3.heap.size,0,none⟩) 1 1))
  have hon:=onlyIn_set (S:=[gb]) ((onlyIn.of_below b2).trans HON.out) (p:=⟨gb,13,none⟩) (by simp) (.slice (some ⟨w3.heap.size,0,none⟩) 1 1)
  have hvl:=HO.out.lt
  rw [← hW3] at hblk hown htab hon
  rw [← hW3,← hsz]
  rw [← hsz] at hblk hvl
  have hal:Below W3.heap.size W3 (W3.alloc (.cells #[.int .i64 c] 3)):=(Below.refl _ _).alloc (Nat.le_refl _) _
  refine .inl ⟨HBE.out.symm,_,_,rfl,own_stay hown hal,⟨(by simpa using hblk.later hal),htab.below (hal.mono (by omega)),?_⟩,fun b hb => ?_,hon.trans (onlyIn.of_below hal)⟩
  ·exact World.ownsRow_lit W3 #[.int .i64 c] 1 (by omega) (by unfold maxLen;omega) rfl
  ·simp only [Value.ownBlock,Option.some.injEq] at hb
   subst hb
   exact ⟨by omega,fun h => absurd (hvl _ h).2 (Nat.lt_irrefl _)⟩
 case false =>
  go_upto_region 7 with (first | (go_at_call 43;refine (HLN.out _).mono ?_;rintro e w1 ⟨rfl,rfl⟩) | (go_at_call 44;refine HBD.out.mono ?_;rintro e w2 ⟨rfl,b2⟩))
  clear x0 x1 x2 x3 x4 x5 x6 x7 x8 x9 x10 x11 x12 x13
  have HS2:=Lib.hid (HS.out.later b2)
  have HB2:=Lib.hid b2
  clear b2
  have x0:=HS2.out.blk.at_ (i:=0) rfl;have x1:=HS2.out.blk.at_ (i:=1) rfl;have x2:=HS2.out.blk.at_ (i:=2) rfl;have x3:=HS2.out.blk.at_ (i:=3) rfl;have x4:=HS2.out.blk.at_ (i:=4) rfl;have x5:=HS2.out.blk.at_ (i:=5) rfl;have x6:=HS2.out.blk.at_ (i:=6) rfl;have x7:=HS2.out.blk.at_ (i:=7) rfl;have x8:=HS2.out.blk.at_ (i:=8) rfl;have x9:=HS2.out.blk.at_ (i:=9) rfl;have x10:=HS2.out.blk.at_ (i:=10) rfl;have x11:=HS2.out.blk.at_ (i:=11) rfl;have x12:=HS2.out.blk.at_ (i:=12) rfl;have x13:=HS2.out.blk.at_ (i:=13) rfl
  by_cases h32:32 ≤ ys.length
  ·have y1:decide ((32:Int) ≤ (ys.length:Int))=true:=decide_eq_true (by omega)
   go_quiet (fail)
   go_wp2_with fail
   go_ret2
   exact .inr (.inl ⟨HBE.out.symm,h32,rfl,HS2.out.later (below_drewN (Below.refl _ _) _),onlyIn.of_below (below_drewN HB2.out _)⟩)
  ·have y1:decide ((32:Int) ≤ (ys.length:Int))=false:=decide_eq_false (by omega)
   go_quiet (fail)
   clear x0 x1 x2 x3 x4 x5 x6 x7 x8 x9 x10 x11 x12 x13
   have HS4:=Lib.hid (HS2.out.later (below_drewN (Below.refl _ _) nq))
   have HB4:=Lib.hid (below_drewN HB2.out nq)
   generalize w2.drewN nq=w4 at *
   have x0:=HS4.out.blk.at_ (i:=0) rfl;have x1:=HS4.out.blk.at_ (i:=1) rfl;have x2:=HS4.out.blk.at_ (i:=2) rfl;have x3:=HS4.out.blk.at_ (i:=3) rfl;have x4:=HS4.out.blk.at_ (i:=4) rfl;have x5:=HS4.out.blk.at_ (i:=5) rfl;have x6:=HS4.out.blk.at_ (i:=6) rfl;have x7:=HS4.out.blk.at_ (i:=7) rfl;have x8:=HS4.out.blk.at_ (i:=8) rfl;have x9:=HS4.out.blk.at_ (i:=9) rfl;have x10:=HS4.out.blk.at_ (i:=10) rfl;have x11:=HS4.out.blk.at_ (i:=11) rfl;have x12:=HS4.out.blk.at_ (i:=12) rfl;have x13:=HS4.out.blk.at_ (i:=13) rfl
   go_wp2_with (at_builtin;refine wpList_append_gr (by rfl) (.tmp 38) (.tmp 40) rfl Tryz.underlying22 hi hz0 hz1 hz2 (w4.heap.size + 1) (gb + 1) (.slice Ah ys.length ch) ys (.slice (some ⟨w4.heap.size,0,none⟩) 1 1) [c] rfl (HS4.out.own.alloc _) rfl (by have h:=Ints.of_own (own_new w4 3 [c] (by simp));simpa using h) (by simp;omega) (by have:=HS4.out.blk.lt;simp;omega) ?_;intro v6 w6 ho6 hg6;have hne:(Value.slice Ah ys.length ch).ownBlock ≠ some gb:=fun h => by { have:=(HS4.out.own.lt gb h).1;omega };have HB6:=Lib.hid (hg6.blk (HS4.out.blk.later ((Below.refl _ _).alloc (Nat.le_refl _) _)) hne);have hc13:=HB6.out.at_ (i:=13) rfl;have hf13:=HB6.out.free 13;have HO6:=Lib.hid ho6;have HG6:=Lib.hid hg6;obtain ⟨A6,c6,rfl⟩:=ownsRow_shape ho6;clear ho6 hg6)
   go_ret2
   have hal:Below w4.heap.size w4 (w4.alloc (.cells #[.int .i64 c] 3)):=(Below.refl _ _).alloc (Nat.le_refl _) _
   have hg4:=HS4.out.blk.lt
   have hb46:Below gb w4 w6:=(hal.mono (Nat.le_of_lt hg4)).trans (HG6.out.1.below (fun x hx => Nat.le_of_succ_le (HS4.out.own.lt x (mem_ownS.1 hx)).1) (by have:=hal.size;omega))
   refine .inr (.inr ⟨HBE.out.symm,by omega,_,rfl,⟨by simpa using HB6.out.put 13 (.slice A6 (ys ++ [c]).length c6),HS4.out.tab.below (hb46.setCell (p:=⟨gb,13,none⟩) (Nat.le_refl _) _),own_grown HO6.out (grown_setCell (grown_refl _ (some gb)) 13 _) (Nat.lt_succ_self _)⟩,?_,?_⟩)
   ·rcases HG6.out.2 with h | h
    ·exact .inl h
    ·exact .inr fun b hb => by have:=h b hb;have:=hal.size;have:=HB4.out.size;omega
   ·refine onlyIn_set (S:=gb :: ownS (.slice Ah ys.length ch)) ?_ (p:=⟨gb,13,none⟩) (by simp) _
    exact ((onlyIn.of_below HB4.out).trans (onlyIn.of_below hal)).trans (HG6.out.1.more (fun x hx => List.mem_cons_of_mem _ hx))
end Go.Proofs.YtjafpikjpipbkaaGreatDoor
