/-
  Merged texts: lemmas and walks that the last text of this claim leans on.
-/
import Derived.Test.YtjafpikjpipbkaaGreatDoorMgTS11
import Derived.Test.YtjafpikjpipbkaaGreatDoorMgTS27
import Derived.Test.YtjafpikjpipbkaaGreatDoorMgTS18
set_option maxRecDepth 100000
set_option maxHeartbeats 40000000
namespace Go.Proofs.YtjafpikjpipbkaaGreatDoor
open Go.RowKit ND
noncomputable abbrev opsP:Array Oper:=opsAt Tryz.f6 18
def wrP:List Nat:=[9,56,57,58,59,60,61,62,63,64,65,66,67]
def keepP:List Nat:=(List.range 84).filter (fun k => !wrP.contains k)
def fixP (r:Nat → Value):List (Tmp × Value):=keepP.map (fun k => (k,r k))
def RP (L u p ag:Value) (i:Int) (g:Option (Value × Int × World)) (j:Nat) (v:Value):Prop :=
 match j with
 | 0 => v=L
 | 1 => v=.int .i64 i
 | 2 => v=ag
 | 3 => v=L
 | 4 => v=.int .i64 i
 | 5 => v=p
 | 6 => v=u
 | 7 => ∃ x k W',g=some (x,k,W') ∧ v=.tuple #[x,.int .i64 k]
 | 8 => ∃ x k W',g=some (x,k,W') ∧ v=.tuple #[x,.int .i64 k]
 | 9 => ∃ x k W',g=some (x,k,W') ∧ v=x
 | 10 => ∃ x k W',g=some (x,k,W') ∧ v=.int .i64 k
 | 11 => v=p
 | 13 => ∃ x k W',g=some (x,k,W') ∧ v=.int .i64 k
 | _ => False
def CP (W0:World) (pa:Addr) (Phi:Value → Int → World → Prop) (g:Option (Value × Int × World)) (listed:Array Bool) (w:World):Prop :=
 match g with
 | none => listed.getD 7 true=false ∧ w=W0
 | some (x,k,W') => listed.getD 7 false=true ∧ Phi x k W' ∧ w=if listed.getD 12 false=true then W'.setCell pa x else W'
theorem RP.some {L u p ag:Value} {i:Int} {x:Value} {k:Int} {W':World} {j:Nat} {v:Value} (h:RP L u p ag i none j v):RP L u p ag i (some (x,k,W')) j v:=by
 unfold RP at h ⊢
 split at h <;> first | exact h | (obtain ⟨_,_,_,e,_⟩:=h;cases e)
theorem dep_h {ops:Array Oper} {R:Nat → Value → Prop} {i:Nat} {o:Oper} {a:Act} (ho:ops[i]?=some o) (hd:DepsH ops R o a) (j:Nat) (d:Tmp)
  (h1:((ops[i]?).map fun o => o.after.any fun e => Region.binds .any e && e.on == j)=some true) (h2:((ops[j]?).map (·.dst))=some (some d)):∃ v,a.tmps[d]?=some v ∧ R j v:=by
 have h5:=get_op (fun o => o.after.any fun e => Region.binds .any e && e.on == j) ho h1
 obtain ⟨e,he,hb⟩:=Array.any_eq_true'.1 h5
 rw [Bool.and_eq_true,beq_iff_eq] at hb
 cases hj:ops[j]? with
 | none => rw [hj] at h2;cases h2
 | some oj =>
   rw [hj] at h2
   obtain ⟨v,hv,hr⟩:=hd e he hb.1 oj d (by rw [hb.2,hj]) (by simpa using h2)
   exact ⟨v,hv,by rw [← hb.2];exact hr⟩
theorem getD_set {l:Array Bool} {i j:Nat} {x:Bool} (h:j ≠ i):(l.setIfInBounds i true).getD j x=l.getD j x:=by
 rw [Array.getD_eq_getD_getElem?,Array.getElem?_setIfInBounds,if_neg (Ne.symm h),← Array.getD_eq_getD_getElem?]
theorem getD_same {l:Array Bool} {i:Nat} {x:Bool} (h:i < l.size):(l.setIfInBounds i true).getD i x=true:=by
 rw [Array.getD_eq_getD_getElem?,Array.getElem?_setIfInBounds,if_pos rfl,if_pos h];rfl
theorem CP.other {W0:World} {pa:Addr} {Phi:Value → Int → World → Prop} {g:Option (Value × Int × World)} {listed:Array Bool} {w:World} {i:Nat} (h:CP W0 pa Phi g listed w) (h7:i ≠ 7) (h12:i ≠ 12):CP W0 pa Phi g (listed.setIfInBounds i true) w:=by
 unfold CP at h ⊢
 split at h
 ·rw [getD_set (Ne.symm h7)];exact h
 ·rw [getD_set (Ne.symm h7),getD_set (Ne.symm h12)];exact h
section
variable {a:Act} {o:Oper} {w:World}
theorem run_load_row {x:Operand} {b i:Nat} {v:Value} (ho:o.op=.load 22 x) (hx:a.eval x=.pointer (some ⟨b,i,none⟩)) (hc:w.cell? ⟨b,i,none⟩=some v):(execOp a.eval o).run Tryz.prog w=.ok (.value v) w:=by
 unfold execOp
 rw [ho]
 simp only [hx]
 go_simp
theorem run_load_tabs {x:Operand} {b:Nat} {t:Tv} (ho:o.op=.load 26 x) (hx:a.eval x=.pointer (some ⟨b,0,none⟩)) (hb:Blk w b 26 #[t.c0,t.c1,t.c2,t.c3,t.c4,t.c5,t.c6,t.c7,t.c8,t.c9,t.c10,t.c11]):(execOp a.eval o).run Tryz.prog w=.ok (.value (.agg #[t.c0,t.c1,t.c2,t.c3,t.c4,t.c5,t.c6,t.c7,t.c8,t.c9,t.c10,t.c11])) w:=by
 obtain ⟨x0,x1,x2,x3,x4,x5,x6,x7,x8,x9,x10,x11⟩:=hb.tab
 unfold execOp
 rw [ho]
 simp only [hx]
 go_simp
theorem run_at_rows {x y:Operand} {g j n c:Nat} (ho:o.op=.indexAddr 29 x y) (hx:a.eval x=.slice (some ⟨g,0,none⟩) n c) (hy:a.eval y=.int .i64 (j:Int)) (hj:j < n):(execOp a.eval o).run Tryz.prog w=.ok (.value (.pointer (some ⟨g,j,none⟩))) w:=by
 have h0:(0:Int) ≤ (j:Int):=by omega
 have h1:(j:Int) < (n:Int):=by omega
 unfold execOp
 rw [ho]
 simp only [hx,hy]
 go_simp
theorem run_store_row {x y:Operand} {b i:Nat} {v u:Value} (ho:o.op=.store 22 x y) (hx:a.eval x=.pointer (some ⟨b,i,none⟩)) (hy:a.eval y=v) (hv:∃ A n c,v=.slice A n c) (h1:w.cell? ⟨b,i,none⟩=some u) (h2:w.frozen? ⟨b,i,none⟩=false):(execOp a.eval o).run Tryz.prog w=.ok .skip (w.setCell ⟨b,i,none⟩ v):=by
 obtain ⟨A,n,c,rfl⟩:=hv
 unfold execOp
 rw [ho]
 simp only [hx,hy]
 go_simp
theorem ob_skipP {X w':World} {K:Act → World → Prop} {Q:Exit → Act → World → Prop} (hr:(execOp a.eval o).run Tryz.prog X=.ok .skip w') (h:K (a.put o.dst undef) w'):o.wp Tryz.prog a X K Q:=by
 unfold Oper.wp
 rw [hr]
 exact h
end
section
variable {W0:World} {r:Nat → Value} {lb tb n c i:Nat} {u:Value} {t:Tv} {Phi:Value → Int → World → Prop} {Q:Exit → Act → World → Prop}
def ObP (W0:World) (r:Nat → Value) (lb n c i:Nat) (u:Value) (t:Tv) (Phi:Value → Int → World → Prop) (Q:Exit → Act → World → Prop) (k:Nat):Prop :=
 ObH Tryz.prog opsP 84 [] (fixP r) (CP W0 ⟨lb,i,none⟩ Phi) (RP (.slice (some ⟨lb,0,none⟩) n c) u (.pointer (some ⟨lb,i,none⟩)) (.agg #[t.c0,t.c1,t.c2,t.c3,t.c4,t.c5,t.c6,t.c7,t.c8,t.c9,t.c10,t.c11]) i) Q k
theorem fixP_mem {r:Nat → Value} {k:Nat} (h:keepP.contains k=true):(k,r k) ∈ fixP r:=List.mem_map.2 ⟨k,List.contains_iff_mem.1 h,rfl⟩
theorem obP_0 (hr:r 10=.slice (some ⟨lb,0,none⟩) n c):ObP W0 r lb n c i u t Phi Q 0:=by
 intro o ho g listed a w hC hsl hl hcl hf hd K hK
 rw [if_pos (wanted_none _ (get_op (·.guard) ho (by kernel_rfl)))]
 exact ob_move (get_op (·.op) ho (by kernel_rfl)) (eval_tmp ((hf.2.2 _ (fixP_mem (k:=10) (by decide))).trans (congrArg some hr))) (hK g _ _ (fun _ _ => rfl) (hC.other (by decide) (by decide)) (fun _ _ h => h))
theorem obP_1 (hr:r 11=.int .i64 (i:Int)):ObP W0 r lb n c i u t Phi Q 1:=by
 intro o ho g listed a w hC hsl hl hcl hf hd K hK
 rw [if_pos (wanted_none _ (get_op (·.guard) ho (by kernel_rfl)))]
 exact ob_move (get_op (·.op) ho (by kernel_rfl)) (eval_tmp ((hf.2.2 _ (fixP_mem (k:=11) (by decide))).trans (congrArg some hr))) (hK g _ _ (fun _ _ => rfl) (hC.other (by decide) (by decide)) (fun _ _ h => h))
theorem obP_3 (hr:r 10=.slice (some ⟨lb,0,none⟩) n c):ObP W0 r lb n c i u t Phi Q 3:=by
 intro o ho g listed a w hC hsl hl hcl hf hd K hK
 rw [if_pos (wanted_none _ (get_op (·.guard) ho (by kernel_rfl)))]
 exact ob_move (get_op (·.op) ho (by kernel_rfl)) (eval_tmp ((hf.2.2 _ (fixP_mem (k:=10) (by decide))).trans (congrArg some hr))) (hK g _ _ (fun _ _ => rfl) (hC.other (by decide) (by decide)) (fun _ _ h => h))
theorem obP_4 (hr:r 11=.int .i64 (i:Int)):ObP W0 r lb n c i u t Phi Q 4:=by
 intro o ho g listed a w hC hsl hl hcl hf hd K hK
 rw [if_pos (wanted_none _ (get_op (·.guard) ho (by kernel_rfl)))]
 exact ob_move (get_op (·.op) ho (by kernel_rfl)) (eval_tmp ((hf.2.2 _ (fixP_mem (k:=11) (by decide))).trans (congrArg some hr))) (hK g _ _ (fun _ _ => rfl) (hC.other (by decide) (by decide)) (fun _ _ h => h))
theorem obP_2 (hr:r 2=.pointer (some ⟨tb,0,none⟩)) (hb:∀ V,(V=W0 ∨ ∃ x k V0,Phi x k V0 ∧ (V=V0 ∨ V=V0.setCell ⟨lb,i,none⟩ x)) → Blk V tb 26 #[t.c0,t.c1,t.c2,t.c3,t.c4,t.c5,t.c6,t.c7,t.c8,t.c9,t.c10,t.c11]):ObP W0 r lb n c i u t Phi Q 2:=by
 intro o ho g listed a w hC hsl hl hcl hf hd K hK
 rw [if_pos (wanted_none _ (get_op (·.guard) ho (by kernel_rfl)))]
 refine ob_value (run_load_tabs (get_op (·.op) ho (by kernel_rfl)) (eval_tmp ((hf.2.2 _ (fixP_mem (k:=2) (by decide))).trans (congrArg some hr))) (hb w ?_)) (hK g _ _ (fun _ _ => rfl) (hC.other (by decide) (by decide)) (fun _ _ h => h))
 unfold CP at hC
 split at hC
 ·exact .inl hC.2
 ·obtain ⟨_,hp,rfl⟩:=hC
  refine .inr ⟨_,_,_,hp,?_⟩
  split
  ·exact .inr rfl
  ·exact .inl rfl
theorem obP_5 (hi:i < n):ObP W0 r lb n c i u t Phi Q 5:=by
 intro o ho g listed a w hC hsl hl hcl hf hd K hK
 rw [if_pos (wanted_none _ (get_op (·.guard) ho (by kernel_rfl)))]
 obtain ⟨v1,h1,e1⟩:=dep_h ho hd 3 60 (by kernel_rfl) (by kernel_rfl)
 obtain ⟨v2,h2,e2⟩:=dep_h ho hd 4 61 (by kernel_rfl) (by kernel_rfl)
 obtain rfl:v1=_:=e1
 obtain rfl:v2=_:=e2
 exact ob_value (run_at_rows (get_op (·.op) ho (by kernel_rfl)) (eval_tmp h1) (eval_tmp h2) hi) (hK g _ _ (fun _ _ => rfl) (hC.other (by decide) (by decide)) (fun _ _ h => h))
theorem obP_11 (hi:i < n):ObP W0 r lb n c i u t Phi Q 11:=by
 intro o ho g listed a w hC hsl hl hcl hf hd K hK
 rw [if_pos (wanted_none _ (get_op (·.guard) ho (by kernel_rfl)))]
 obtain ⟨v1,h1,e1⟩:=dep_h ho hd 0 57 (by kernel_rfl) (by kernel_rfl)
 obtain ⟨v2,h2,e2⟩:=dep_h ho hd 1 58 (by kernel_rfl) (by kernel_rfl)
 obtain rfl:v1=_:=e1
 obtain rfl:v2=_:=e2
 exact ob_value (run_at_rows (get_op (·.op) ho (by kernel_rfl)) (eval_tmp h1) (eval_tmp h2) hi) (hK g _ _ (fun _ _ => rfl) (hC.other (by decide) (by decide)) (fun _ _ h => h))
theorem obP_6 (hu:W0.cell? ⟨lb,i,none⟩=some u):ObP W0 r lb n c i u t Phi Q 6:=by
 intro o ho g listed a w hC hsl hl hcl hf hd K hK
 rw [if_pos (wanted_none _ (get_op (·.guard) ho (by kernel_rfl)))]
 obtain ⟨v1,h1,e1⟩:=dep_h ho hd 5 62 (by kernel_rfl) (by kernel_rfl)
 obtain rfl:v1=_:=e1
 have hg:g=none:=by
  cases g with
  | none => rfl
  | some q =>
    exfalso
    have h7:listed.getD 7 false=true:=by unfold CP at hC;exact hC.1
    have h6:=ancB_listed hcl 12 6 7 (by kernel_rfl) h7
    rw [getD_any (by have:=(Array.getElem?_eq_some_iff.1 ho).1;omega) false true,hl] at h6
    cases h6
 subst hg
 obtain ⟨_,rfl⟩:=id hC
 exact ob_value (run_load_row (get_op (·.op) ho (by kernel_rfl)) (eval_tmp h1) hu) (hK none _ _ (fun _ _ => rfl) (hC.other (by decide) (by decide)) (fun _ _ h => h))
theorem obP_7 (hc:Calls Tryz.prog 30 #[.agg #[t.c0,t.c1,t.c2,t.c3,t.c4,t.c5,t.c6,t.c7,t.c8,t.c9,t.c10,t.c11],u] W0 fun e w' => ∃ x k,e=.returned (.tuple #[x,.int .i64 k]) ∧ Phi x k w'):ObP W0 r lb n c i u t Phi Q 7:=by
 intro o ho g listed a w hC hsl hl hcl hf hd K hK
 rw [if_pos (wanted_none _ (get_op (·.guard) ho (by kernel_rfl)))]
 obtain ⟨v1,h1,e1⟩:=dep_h ho hd 2 59 (by kernel_rfl) (by kernel_rfl)
 obtain ⟨v2,h2,e2⟩:=dep_h ho hd 6 63 (by kernel_rfl) (by kernel_rfl)
 obtain rfl:v1=_:=e1
 obtain rfl:v2=_:=e2
 have hg:g=none:=by
  cases g with
  | none => rfl
  | some q =>
    exfalso
    have h7:listed.getD 7 false=true:=by unfold CP at hC;exact hC.1
    rw [getD_any (by have:=(Array.getElem?_eq_some_iff.1 ho).1;omega) false true,hl] at h7
    cases h7
 subst hg
 obtain ⟨_,rfl⟩:=id hC
 have hi7:=(Array.getElem?_eq_some_iff.1 ho).1
 refine ob_enter (enter2 (tys:=#[26,22]) (get_op (·.op) ho (by kernel_rfl)) (eval_tmp h1) (eval_tmp h2) (fun args w => enters_of Tryz.func30 (by kernel_rfl) rfl args w)) hc fun e w' ⟨x,k,he,hp⟩ => ⟨_,he,hK (some (x,k,w')) _ _ (fun _ _ => ⟨_,_,_,rfl,rfl⟩) ⟨getD_same (by omega),hp,?_⟩ (fun _ _ h => RP.some h)⟩
 rw [if_neg]
 rw [getD_set (by decide)]
 intro h12
 have h7:=ancB_listed hcl 12 7 12 (by kernel_rfl) h12
 rw [getD_any (by omega) false true,hl] at h7
 cases h7
theorem obP_8:ObP W0 r lb n c i u t Phi Q 8:=by
 intro o ho g listed a w hC hsl hl hcl hf hd K hK
 rw [if_pos (wanted_none _ (get_op (·.guard) ho (by kernel_rfl)))]
 obtain ⟨v1,h1,e1⟩:=dep_h ho hd 7 64 (by kernel_rfl) (by kernel_rfl)
 obtain ⟨x,k,W',hg,rfl⟩:=e1
 exact ob_move (get_op (·.op) ho (by kernel_rfl)) (eval_tmp h1) (hK g _ _ (fun _ _ => ⟨_,_,_,hg,rfl⟩) (hC.other (by decide) (by decide)) (fun _ _ h => h))
theorem obP_9:ObP W0 r lb n c i u t Phi Q 9:=by
 intro o ho g listed a w hC hsl hl hcl hf hd K hK
 rw [if_pos (wanted_none _ (get_op (·.guard) ho (by kernel_rfl)))]
 obtain ⟨v1,h1,e1⟩:=dep_h ho hd 8 56 (by kernel_rfl) (by kernel_rfl)
 obtain ⟨x,k,W',hg,rfl⟩:=e1
 exact ob_extract (k:=0) (get_op (·.op) ho (by kernel_rfl)) (eval_tmp h1) rfl (hK g _ _ (fun _ _ => ⟨_,_,_,hg,rfl⟩) (hC.other (by decide) (by decide)) (fun _ _ h => h))
theorem obP_10:ObP W0 r lb n c i u t Phi Q 10:=by
 intro o ho g listed a w hC hsl hl hcl hf hd K hK
 rw [if_pos (wanted_none _ (get_op (·.guard) ho (by kernel_rfl)))]
 obtain ⟨v1,h1,e1⟩:=dep_h ho hd 8 56 (by kernel_rfl) (by kernel_rfl)
 obtain ⟨x,k,W',hg,rfl⟩:=e1
 exact ob_extract (k:=1) (get_op (·.op) ho (by kernel_rfl)) (eval_tmp h1) rfl (hK g _ _ (fun _ _ => ⟨_,_,_,hg,rfl⟩) (hC.other (by decide) (by decide)) (fun _ _ h => h))
theorem obP_12 (hst:∀ x k V,Phi x k V → (∃ A n c,x=.slice A n c) ∧ (∃ old,V.cell? ⟨lb,i,none⟩=some old) ∧ V.frozen? ⟨lb,i,none⟩=false):ObP W0 r lb n c i u t Phi Q 12:=by
 intro o ho g listed a w hC hsl hl hcl hf hd K hK
 rw [if_pos (wanted_none _ (get_op (·.guard) ho (by kernel_rfl)))]
 obtain ⟨v1,h1,e1⟩:=dep_h ho hd 11 67 (by kernel_rfl) (by kernel_rfl)
 obtain ⟨v2,h2,e2⟩:=dep_h ho hd 9 65 (by kernel_rfl) (by kernel_rfl)
 obtain rfl:v1=_:=e1
 obtain ⟨x,k,W',rfl,rfl⟩:=e2
 obtain ⟨h7,hp,hw⟩:=id hC
 rw [if_neg (by rw [getD_any (by have:=(Array.getElem?_eq_some_iff.1 ho).1;omega) false true,hl];simp)] at hw
 subst hw
 obtain ⟨hsl2,⟨old,ho1⟩,hfr⟩:=hst _ _ _ hp
 have hdst:o.dst=none:=get_op (·.dst) ho (by kernel_rfl)
 refine ob_skipP (run_store_row (get_op (·.op) ho (by kernel_rfl)) (eval_tmp h1) (eval_tmp h2) hsl2 ho1 hfr) (hK (some (v2,k,w)) _ _ (fun d hd' => by rw [hdst] at hd';cases hd') ⟨by rw [getD_set (by decide)];exact h7,hp,?_⟩ (fun _ _ h => h))
 rw [if_pos (getD_same (by have:=(Array.getElem?_eq_some_iff.1 ho).1;omega))]
theorem obP_13:ObP W0 r lb n c i u t Phi Q 13:=by
 intro o ho g listed a w hC hsl hl hcl hf hd K hK
 rw [if_pos (wanted_none _ (get_op (·.guard) ho (by kernel_rfl)))]
 obtain ⟨v1,h1,e1⟩:=dep_h ho hd 10 66 (by kernel_rfl) (by kernel_rfl)
 obtain ⟨x,k,W',hg,rfl⟩:=e1
 exact ob_assign (get_op (·.op) ho (by kernel_rfl)) (eval_tmp h1) (hK g _ _ (fun _ _ => ⟨_,_,_,hg,rfl⟩) (hC.other (by decide) (by decide)) (fun _ _ h => h))
end
theorem proc_region {W:World} {a:Act} {lb tb n c i:Nat} {u:Value} {t:Tv} {Phi:Value → Int → World → Prop} {Q:Exit → Act → World → Prop} (hs:a.tmps.size=84) (hd:a.defers=[])
  (h2:a.tmps[2]?=some (.pointer (some ⟨tb,0,none⟩))) (h10:a.tmps[10]?=some (.slice (some ⟨lb,0,none⟩) n c)) (h11:a.tmps[11]?=some (.int .i64 (i:Int))) (hi:i < n)
  (hb:Blk W tb 26 #[t.c0,t.c1,t.c2,t.c3,t.c4,t.c5,t.c6,t.c7,t.c8,t.c9,t.c10,t.c11]) (hb2:∀ x k V,Phi x k V → Blk V tb 26 #[t.c0,t.c1,t.c2,t.c3,t.c4,t.c5,t.c6,t.c7,t.c8,t.c9,t.c10,t.c11]) (hne:tb ≠ lb) (hu:W.cell? ⟨lb,i,none⟩=some u)
  (hc:Calls Tryz.prog 30 #[.agg #[t.c0,t.c1,t.c2,t.c3,t.c4,t.c5,t.c6,t.c7,t.c8,t.c9,t.c10,t.c11],u] W.drew fun e w' => ∃ x k,e=.returned (.tuple #[x,.int .i64 k]) ∧ Phi x k w')
  (hst:∀ x k V,Phi x k V → (∃ A n c,x=.slice A n c) ∧ (∃ old,V.cell? ⟨lb,i,none⟩=some old) ∧ V.frozen? ⟨lb,i,none⟩=false)
  (hend:∀ (a':Act) x k V,Phi x k V → a'.tmps.size=84 → a'.defers=[] → (∀ j,j < 84 → keepP.contains j=true → a'.tmps[j]?=a.tmps[j]?) → a'.tmps[9]?=some (.int .i64 k) → Q .normal a' (V.setCell ⟨lb,i,none⟩ x)):(Code.region 18 opsP true).wp Tryz.prog Q a W:=by
 have hr:∀ k,k < 84 → a.tmps[k]?=some ((a.tmps[k]?).getD undef):=fun k hk => by
  rw [Array.getElem?_eq_getElem (by rw [hs];exact hk)];rfl
 have hg:∀ {k:Nat} {v:Value},a.tmps[k]?=some v → (a.tmps[k]?).getD undef=v:=fun h => by rw [h];rfl
 refine wp_region_ghost (n:=84) (ds:=[]) (fixed:=fixP (fun k => (a.tmps[k]?).getD undef)) (CP W.drew ⟨lb,i,none⟩ Phi) (RP (.slice (some ⟨lb,0,none⟩) n c) u (.pointer (some ⟨lb,i,none⟩)) (.agg #[t.c0,t.c1,t.c2,t.c3,t.c4,t.c5,t.c6,t.c7,t.c8,t.c9,t.c10,t.c11]) i) none (by kernel_rfl) (by kernel_rfl) ⟨hs,hd,fun p hp => ?_⟩ ⟨by rw [show opsP.size=14 by kernel_rfl];rfl,rfl⟩ (fun j hj => ?_) ?_
 ·obtain ⟨k,hk,rfl⟩:=List.mem_map.1 hp
  have:k < 84:=List.mem_range.1 (List.mem_filter.1 hk).1
  exact hr k this
 ·have hj':j < 14:=by rw [show opsP.size=14 by kernel_rfl] at hj;exact hj
  match j,hj' with
  | 0,_ => exact obP_0 (hg h10)
  | 1,_ => exact obP_1 (hg h11)
  | 2,_ =>
    refine obP_2 (tb:=tb) (hg h2) ?_
    rintro V (rfl | ⟨x,k,V0,hp,rfl | rfl⟩)
    ·exact hb.drew
    ·exact hb2 _ _ _ hp
    ·exact (hb2 _ _ _ hp).far hne _
  | 3,_ => exact obP_3 (hg h10)
  | 4,_ => exact obP_4 (hg h11)
  | 5,_ => exact obP_5 hi
  | 6,_ => exact obP_6 hu
  | 7,_ => exact obP_7 hc
  | 8,_ => exact obP_8
  | 9,_ => exact obP_9
  | 10,_ => exact obP_10
  | 11,_ => exact obP_11 hi
  | 12,_ => exact obP_12 hst
  | 13,_ => exact obP_13
  | m + 14,h => exact absurd h (by omega)
 ·rintro g listed a' w hall hC ⟨q1,q2,q3⟩ hsl
  have h13:(opsP[13]?).map (·.dst)=some (some 9):=by kernel_rfl
  obtain ⟨o13,ho13,hd13⟩:=Option.map_eq_some_iff.1 h13
  obtain ⟨v9,hv9,x,k,W',rfl,rfl⟩:=hsl 13 o13 9 ho13 hd13
  obtain ⟨_,hp,hw⟩:=hC
  rw [if_pos (hall 12 (by rw [show opsP.size=14 by kernel_rfl];decide))] at hw
  subst hw
  refine hend a' x k W' hp q1 q2 (fun j hj hk => ?_) hv9
  exact (q3 _ (fixP_mem hk)).trans (hr j hj).symm
end Go.Proofs.YtjafpikjpipbkaaGreatDoor
namespace Go.Proofs.YtjafpikjpipbkaaGreatDoor
open Go.RowKit ND
theorem cell_set_far {w:World} {g i:Nat} {u:Value} {p:Addr} (h:p.block ≠ g):(w.setCell ⟨g,i,none⟩ u).cell? p=w.cell? p:=by
 simp [World.cell?,World.setCell,Array.getElem?_modify,Ne.symm h]
theorem ints_set_far {w:World} {g i:Nat} {u x:Value} {A:Option Addr} {c:Nat} {ys:List Int} (h:Ints w w.heap.size .i64 u ys) (hu:u=.slice A ys.length c) (hd:∀ ad,A=some ad → ad.block ≠ g):Ints (w.setCell ⟨g,i,none⟩ x) (w.setCell ⟨g,i,none⟩ x).heap.size .i64 u ys:=by
 obtain ⟨A',c',e,h1,h2,h3,h4⟩:=h
 rw [e] at hu;cases hu
 refine ⟨A,c,e,h1,h2,h3,fun j y hj => ?_⟩
 obtain ⟨ad,e2,hb,hc⟩:=h4 j y hj
 refine ⟨ad,e2,by simpa [World.setCell] using hb,?_⟩
 rw [cell_set_far (by rw [block_of_add];exact hd ad e2)]
 exact hc
theorem LRow.set {w:World} {base g i:Nat} {v:Value} {yss:List (List Int)} {A:Option Addr} {c:Nat} {ys:List Int} (h:LRow w base v yss) (hg:v.ownBlock=some g) (hi:i < yss.length) (hu:Ints w w.heap.size .i64 (.slice A ys.length c) ys) (hd:∀ ad,A=some ad → ad.block < w.heap.size ∧ ad.block ≠ g) :
  LRow (w.setCell ⟨g,i,none⟩ (.slice A ys.length c)) base v (yss.set i ys):=by
 obtain ⟨vs,hl,ho,hr⟩:=h
 rcases id ho.2 with ⟨rfl,h0⟩ | ⟨g',cap,cur,rfl,hbg,hgg,hnc,hcm,hcs,htake⟩
 ·omega
 ·simp only [Value.ownBlock,Option.some.injEq] at hg
  subst hg
  refine ⟨vs.set i (.slice A ys.length c),by simp [hl],?_,fun j u zs hj hz => ?_⟩
  ·have:=(ho.stored i (.slice A ys.length c)).1
   simpa using this
  ·have hsz:(w.setCell ⟨g',i,none⟩ (.slice A ys.length c)).heap.size=w.heap.size:=by simp [World.setCell]
   by_cases hji:j=i
   ·subst hji
    rw [List.getElem?_set_self (by omega)] at hj
    rw [List.getElem?_set_self (by omega)] at hz
    cases hj;cases hz
    refine ⟨A,c,rfl,ints_set_far hu rfl (fun ad ha => (hd ad ha).2),fun ad ha => ⟨by rw [hsz];exact (hd ad ha).1,?_⟩⟩
    simp only [Value.ownBlock,ne_eq,Option.some.injEq]
    exact fun e => (hd ad ha).2 e.symm
   ·rw [List.getElem?_set_ne (Ne.symm hji)] at hj hz
    obtain ⟨A2,c2,e2,h2,h3⟩:=hr j u zs hj hz
    refine ⟨A2,c2,e2,ints_set_far h2 e2 (fun ad ha => ?_),fun ad ha => ⟨by rw [hsz];exact (h3 ad ha).1,(h3 ad ha).2⟩⟩
    intro e
    exact (h3 ad ha).2 (by simp [Value.ownBlock,e])
theorem LRow.get {w:World} {base i:Nat} {v:Value} {yss:List (List Int)} {ys:List Int} (h:LRow w base v yss) (hy:yss[i]?=some ys) :
  ∃ g c A c',v=.slice (some ⟨g,0,none⟩) yss.length c ∧ base ≤ g ∧ g < w.heap.size ∧ w.cell? ⟨g,i,none⟩=some (.slice A ys.length c') ∧ w.frozen? ⟨g,i,none⟩=false ∧ Ints w w.heap.size .i64 (.slice A ys.length c') ys ∧ ∀ ad,A=some ad → ad.block < w.heap.size ∧ ad.block ≠ g:=by
 obtain ⟨vs,hl,ho,hr⟩:=h
 have hi:=(List.getElem?_eq_some_iff.1 hy).1
 rcases id ho.2 with ⟨rfl,h0⟩ | ⟨g,cap,cur,rfl,hbg,hgg,hnc,hcm,hcs,htake⟩
 ·omega
 ·obtain ⟨u,hu⟩:∃ u,vs[i]?=some u:=⟨_,List.getElem?_eq_getElem (by omega)⟩
  obtain ⟨A,c',rfl,hin,hd⟩:=hr i u ys hu hy
  refine ⟨g,cap,A,c',rfl,hbg,(Array.getElem?_eq_some_iff.1 hgg).1,?_,ho.frozenAt i,hin,fun ad ha => ⟨(hd ad ha).1,fun e => (hd ad ha).2 (by simp [Value.ownBlock,e])⟩⟩
  rw [ho.cellAt i (by omega)];exact hu
end Go.Proofs.YtjafpikjpipbkaaGreatDoor
