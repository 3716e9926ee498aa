/-
  Merged texts: lemmas and walks that the last text of this claim leans on.
-/
import Derived.Test.YtjafpikjpipbkaaGreatDoorMgTS2
import Derived.Test.YtjafpikjpipbkaaGreatDoorMgTS1
import Derived.Deep.LoopGhost
import Derived.BigQuiet
import Derived.Shelf.Abstract
set_option maxRecDepth 100000
set_option maxHeartbeats 40000000
namespace ND
open Go
def poolL:List Int:=[0xad,0xb7,0x301,0x308,0x323,0x345,0x375,0x3b1,0x3b2,0x3b3,0x430,0x5d0,0x5f3,0x628,0x629,0x660,0x6f0,0x94d,0x1e00,0x1e01,0x1e02,0x1e03,0x1e04,0x200c,0x200d,0x30fb,0x4e00,0x1f600]
theorem pool_sort:poolL.Pairwise (· < ·):=by decide
theorem pool_in:∀ c ∈ poolL,128 ≤ c ∧ c ≤ 1114111 ∧ resB c=false ∧ scalarB c=true:=by decide
def colN (k:Nat) (lo hi:Int) (L:List Sp):Prop:=(L.map (·.1)).Sublist (poolL.take k) ∧ ∀ s ∈ L,s.2.1=s.1 ∧ lo ≤ s.2.2 ∧ s.2.2 ≤ hi
theorem colN_nil (k:Nat) (lo hi:Int):colN k lo hi []:=⟨List.nil_sublist _,by simp⟩
theorem colN_skip {k:Nat} {lo hi:Int} {L:List Sp} (h:colN k lo hi L):colN (k + 1) lo hi L :=
 ⟨h.1.trans (List.take_sublist_take_left (by omega)),h.2⟩
theorem take_snoc_get {α:Type} {l:List α} {k:Nat} {c:α} (h:l[k]?=some c):l.take (k + 1)=l.take k ++ [c]:=by
 rw [List.take_add_one,h];rfl
theorem colN_add {k:Nat} {lo hi c v:Int} {L:List Sp} (h:colN k lo hi L) (hc:poolL[k]?=some c) (h1:lo ≤ v) (h2:v ≤ hi):colN (k + 1) lo hi (L ++ [(c,c,v)]):=by
 refine ⟨?_,?_⟩
 ·rw [take_snoc_get hc,List.map_append]
  exact h.1.append (List.Sublist.refl _)
 ·intro s hs
  rcases List.mem_append.1 hs with hs | hs
  ·exact h.2 s hs
  ·rw [List.mem_singleton] at hs;subst hs;exact ⟨rfl,h1,h2⟩
theorem colN_mem {k:Nat} {lo hi:Int} {L:List Sp} (h:colN k lo hi L) {s:Sp} (hs:s ∈ L):s.1 ∈ poolL :=
 List.mem_of_mem_take (h.1.subset (List.mem_map_of_mem hs))
theorem colN_len {k:Nat} {lo hi:Int} {L:List Sp} (h:colN k lo hi L):L.length ≤ 28:=by
 have h1:=h.1.length_le
 rw [List.length_map,List.length_take] at h1
 have:poolL.length=28:=rfl
 omega
theorem okS_points {L:List Sp}:∀ {last:Int},(L.map (·.1)).Pairwise (· < ·) → (∀ s ∈ L,s.2.1=s.1 ∧ last < s.1 ∧ 0 ≤ s.1 ∧ s.1 ≤ 1114111) → okS 0 1114111 last L=true:=by
 induction L with
 | nil => intro last _ _;rfl
 | cons s r ih =>
   intro last hp h
   rw [List.map_cons,List.pairwise_cons] at hp
   have hs:=h s List.mem_cons_self
   rw [okS_cons]
   refine ⟨by omega,ih hp.2 fun x hx => ?_⟩
   have h1:=h x (List.mem_cons_of_mem _ hx)
   have h2:=hp.1 x.1 (List.mem_map_of_mem hx)
   omega
theorem colN_ok {k:Nat} {lo hi:Int} {L:List Sp} (h:colN k lo hi L):okS 0 1114111 (-1) L=true:=by
 refine okS_points ((pool_sort.sublist (List.take_sublist _ _)).sublist h.1) fun s hs => ?_
 have:=pool_in s.1 (colN_mem h hs)
 have:=h.2 s hs
 omega
theorem colN_col {k:Nat} {lo hi:Int} {L:List Sp} (h:colN k lo hi L):colOk L=true:=by
 unfold colOk checkS
 have h2:=colN_len h
 rw [colN_ok h,Bool.true_and,Bool.and_eq_true,decide_eq_true_eq,List.all_eq_true]
 refine ⟨by omega,fun s hs => ?_⟩
 rw [(h.2 s hs).1]
 exact outB_one (pool_in s.1 (colN_mem h hs)).2.2.1
theorem colN_vals {k:Nat} {lo hi a b:Int} {L:List Sp} (h:colN k lo hi L) (ha:a ≤ lo) (hb:hi ≤ b):valsOk (L,a,b)=true:=by
 unfold valsOk
 rw [List.all_eq_true]
 intro s hs
 have:=h.2 s hs
 rw [decide_eq_true_eq];simp only;omega
theorem colN_zero {k:Nat} {lo hi c:Int} {L:List Sp} (h:colN k lo hi L) (hc:c ∉ poolL):valueL L c=0 :=
 value_out fun s hs ⟨h1,h2⟩ => by
  have:=h.2 s hs
  obtain rfl:c=s.1:=by omega
  exact hc (colN_mem h hs)
theorem colN_at {k:Nat} {lo hi:Int} {L:List Sp} (h:colN k lo hi L) {s:Sp} (hs:s ∈ L):valueL L s.1=s.2.2:=by
 have hp:=(pool_sort.sublist (List.take_sublist k _)).sublist h.1
 have h2:=fun x hx => (h.2 x hx).1
 clear h
 induction L with
 | nil => cases hs
 | cons a r ih =>
   rw [List.map_cons,List.pairwise_cons] at hp
   rw [valueL]
   rcases List.mem_cons.1 hs with rfl | hs
   ·rw [if_pos ⟨Int.le_refl _,by rw [h2 s List.mem_cons_self];exact Int.le_refl _⟩]
   ·have h3:=hp.1 s.1 (List.mem_map_of_mem hs)
    have h4:=h2 a List.mem_cons_self
    rw [if_neg (by omega)]
    exact ih hs hp.2 fun x hx => h2 x (List.mem_cons_of_mem _ hx)
structure DecN (k:Nat) (D:List Mp) (X:List Int):Prop where
 keys:(keysOf D).Pairwise (· < ·)
 rng:∀ m ∈ D,7680 ≤ m.1 ∧ m.1 < 7680 + k
 form:∀ m ∈ D,∃ a r,m.2=a :: r ∧ (a=97 ∨ a=98 ∨ 7680 ≤ a ∧ a < m.1) ∧ (r=[] ∨ ∃ b,r=[b] ∧ (b=769 ∨ b=776 ∨ b=803 ∨ b=837 ∨ b=945))
 exs:X.Pairwise (· < ·)
 exk:∀ c ∈ X,c ∈ keysOf D
 uni:D.Pairwise (fun a b => a.2=b.2 → b.1 ∈ X)
theorem DecN.nil (k:Nat):DecN k [] []:=⟨.nil,by simp,by simp,.nil,by simp,.nil⟩
theorem DecN.skip {k:Nat} {D:List Mp} {X:List Int} (h:DecN k D X):DecN (k + 1) D X :=
 ⟨h.keys,fun m hm => by have:=h.rng m hm;omega,h.form,h.exs,h.exk,h.uni⟩
theorem pw_snoc {α:Type} {R:α → α → Prop} {l:List α} {x:α} (h:l.Pairwise R) (hx:∀ a ∈ l,R a x):(l ++ [x]).Pairwise R :=
 List.pairwise_append.2 ⟨h,List.pairwise_singleton _ _,fun a ha b hb => by rw [List.mem_singleton] at hb;subst hb;exact hx a ha⟩
theorem DecN.add {k:Nat} {D:List Mp} {X:List Int} (h:DecN k D X) {l:List Int} (t:Bool) (hl:∃ a r,l=a :: r ∧ (a=97 ∨ a=98 ∨ 7680 ≤ a ∧ a < 7680 + k) ∧ (r=[] ∨ ∃ b,r=[b] ∧ (b=769 ∨ b=776 ∨ b=803 ∨ b=837 ∨ b=945)))
  (ht:t=false → ∀ d ∈ D,d.2 ≠ l):DecN (k + 1) (D ++ [(7680 + (k:Int),l)]) (if t then X ++ [7680 + (k:Int)] else X):=by
 have hk:keysOf (D ++ [(7680 + (k:Int),l)])=keysOf D ++ [7680 + (k:Int)]:=by simp [keysOf]
 have hlt:∀ c ∈ keysOf D,c < 7680 + (k:Int):=by
  intro c hc
  obtain ⟨m,hm,rfl⟩:=List.mem_map.1 hc
  exact (h.rng m hm).2
 refine ⟨by rw [hk];exact pw_snoc h.keys hlt,?_,?_,?_,?_,?_⟩
 ·intro m hm
  rcases List.mem_append.1 hm with hm | hm
  ·have:=h.rng m hm;omega
  ·rw [List.mem_singleton] at hm;subst hm;simp only;omega
 ·intro m hm
  rcases List.mem_append.1 hm with hm | hm
  ·exact h.form m hm
  ·rw [List.mem_singleton] at hm;subst hm;exact hl
 ·cases t
  ·exact h.exs
  ·exact pw_snoc h.exs fun c hc => hlt c (h.exk c hc)
 ·rw [hk]
  intro c hc
  cases t
  ·exact List.mem_append_left _ (h.exk c hc)
  ·rcases List.mem_append.1 hc with hc | hc
   ·exact List.mem_append_left _ (h.exk c hc)
   ·exact List.mem_append_right _ hc
 ·have hmono:∀ c ∈ X,c ∈ (if t then X ++ [7680 + (k:Int)] else X):=by
   intro c hc;cases t
   ·exact hc
   ·exact List.mem_append_left _ hc
  refine pw_snoc (h.uni.imp fun hab e => hmono _ (hab e)) fun d hd e => ?_
  cases t
  ·exact absurd e (ht rfl d hd)
  ·exact List.mem_append_right _ (List.mem_singleton.2 rfl)
section
variable {D:List Mp} {X:List Int}
theorem DecN.key_none (h:DecN 5 D X) {c:Int} (hc:c < 7680 ∨ 7684 < c):findL D c=[] :=
 findL_no fun _ a hi e => by have:=h.rng a (List.mem_of_getElem? hi);omega
theorem find_key {D:List Mp} (hp:(keysOf D).Pairwise (· < ·)) {m:Mp} (hm:m ∈ D):findL D m.1=m.2:=by
 induction D with
 | nil => cases hm
 | cons a r ih =>
   unfold keysOf at hp
   rw [List.map_cons,List.pairwise_cons] at hp
   rw [findL]
   rcases List.mem_cons.1 hm with rfl | hm
   ·rw [if_pos rfl]
   ·have:=hp.1 m.1 (List.mem_map_of_mem hm)
    rw [if_neg (by omega)]
    exact ih hp.2 hm
theorem DecN.size (h:DecN 5 D X):∀ (n:Nat) (c:Int),c < 7680 + n ∨ findL D c=[] → fin D n c=true ∧ (expF D n c).length ≤ n + 1:=by
 intro n
 induction n with
 | zero =>
   intro c hc
   have:findL D c=[]:=by
    rcases hc with hc | hc
    ·exact h.key_none (by omega)
    ·exact hc
   exact ⟨fin_none this _,by rw [expF_none this];simp⟩
 | succ n ih =>
   intro c hc
   by_cases hn:findL D c=[]
   ·exact ⟨fin_none hn _,by rw [expF_none hn];simp⟩
   ·have hc':c < 7680 + ((n + 1:Nat):Int):=by
     rcases hc with hc | hc
     ·exact hc
     ·exact absurd hc hn
    have hm:=findL_mem hn
    obtain ⟨a,r,he,ha,hr⟩:=h.form _ hm
    simp only at he ha
    have h1:fin D n a=true ∧ (expF D n a).length ≤ n + 1:=by
     rcases ha with rfl | rfl | ha
     ·exact ih _ (.inl (by omega))
     ·exact ih _ (.inl (by omega))
     ·exact ih _ (.inl (by omega))
    rw [fin_succ hn,expF_some hn,he,List.flatMap_cons,List.length_append,List.all_cons,h1.1,Bool.true_and]
    rcases hr with rfl | ⟨b,rfl,hb⟩
    ·simp;omega
    ·have hb':findL D b=[]:=h.key_none (by omega)
     simp [fin_none hb',expF_none hb']
     omega
end
def protoL:List Mp:=[(48,[111]),(109,[114,110]),(945,[97]),(1072,[97]),(1632,[111,803])]
structure MapN (k:Nat) (S:List Sp) (M:List Mp):Prop where
 col:colN k 1 4 S
 same:(S.filter (fun s => s.2.2=3)).map (·.1)=keysOf M
 form:∀ m ∈ M,∃ a,(a=97 ∨ a=98 ∨ a=99) ∧ (m.2=[a] ∨ m.2=[a,46])
theorem MapN.nil (k:Nat):MapN k [] []:=⟨colN_nil _ _ _,rfl,by simp⟩
theorem MapN.skip {k:Nat} {S:List Sp} {M:List Mp} (h:MapN k S M):MapN (k + 1) S M:=⟨colN_skip h.col,h.same,h.form⟩
theorem MapN.plain {k:Nat} {S:List Sp} {M:List Mp} {c v:Int} (h:MapN k S M) (hc:poolL[k]?=some c) (h1:1 ≤ v) (h2:v ≤ 4) (h3:v ≠ 3):MapN (k + 1) (S ++ [(c,c,v)]) M :=
 ⟨colN_add h.col hc h1 h2,by rw [List.filter_append,List.map_append,h.same];simp [h3],h.form⟩
theorem MapN.mapped {k:Nat} {S:List Sp} {M:List Mp} {c:Int} {l:List Int} (h:MapN k S M) (hc:poolL[k]?=some c) (hl:∃ a,(a=97 ∨ a=98 ∨ a=99) ∧ (l=[a] ∨ l=[a,46])):MapN (k + 1) (S ++ [(c,c,3)]) (M ++ [(c,l)]):=by
 refine ⟨colN_add h.col hc (by omega) (by omega),?_,?_⟩
 ·rw [List.filter_append,List.map_append,h.same];simp [keysOf]
 ·intro m hm
  rcases List.mem_append.1 hm with hm | hm
  ·exact h.form m hm
  ·rw [List.mem_singleton] at hm;subst hm;exact hl
structure Made (T:Tab):Prop where
 c0:colN 28 1 8 T.category
 c1:colN 28 1 254 T.cls
 c2:colN 28 1 5 T.joining
 c3:colN 28 1 11 T.bidi
 c4:colN 28 1 60 T.script
 c6:colN 28 1 1 T.ignorable
 dec:DecN 5 T.decomps T.excluded
 map:MapN 28 T.status T.maps
 ext:T.extensions=[] ∨ T.extensions=[(12539,[7,8])]
 pro:T.prototypes.Sublist protoL
 ign:∀ m ∈ T.prototypes,T.ignB m.1=false ∧ T.ignB (m.2.getLastD 0)=false
theorem keysB_of {p:Bool} {l:List Int}:∀ {last:Int},l.Pairwise (· < ·) → (∀ c ∈ l,last < c ∧ c ≤ 1114111 ∧ (resB c=false ∨ p=true ∧ nameB c=true)) → keysB p last l=true:=by
 induction l with
 | nil => intro last _ _;rfl
 | cons a r ih =>
   intro last hp h
   rw [List.pairwise_cons] at hp
   obtain ⟨h1,h2,h3⟩:=h a List.mem_cons_self
   rw [keysB,Bool.and_eq_true]
   refine ⟨?_,ih hp.2 fun c hc => ⟨hp.1 c hc,(h c (List.mem_cons_of_mem _ hc)).2⟩⟩
   unfold keyOk
   simp only [Bool.and_eq_true,decide_eq_true_eq,Bool.or_eq_true,Bool.not_eq_true']
   exact ⟨⟨h1,h2⟩,h3⟩
theorem mapCount_points {S:List Sp} (h:∀ s ∈ S,s.2.1=s.1):mapCount S=((S.filter (fun s => s.2.2=3)).length:Int):=by
 induction S with
 | nil => rfl
 | cons s r ih =>
   have h1:=h s List.mem_cons_self
   rw [mapCount,ih fun x hx => h x (List.mem_cons_of_mem _ hx),List.filter_cons]
   by_cases h3:s.2.2=3
   ·rw [if_pos h3,if_pos (by simpa using h3),List.length_cons];omega
   ·rw [if_neg h3,if_neg (by simpa using h3)];omega
section
variable {T:Tab}
theorem Made.rule1 (h:Made T):T.rule1=true:=by
 have e1:=colN_len h.c0
 have e2:=colN_len h.c1
 have e3:=colN_len h.c2
 have e4:=colN_len h.c3
 have e5:=colN_len h.c4
 have e6:=colN_len h.map.col
 have e7:=colN_len h.c6
 have d1:T.decomps.length ≤ 5:=by
  have:=List.Nodup.length_le_of_subset (l₁:=keysOf T.decomps) (l₂:=[7680,7681,7682,7683,7684]) (h.dec.keys.imp fun h => by omega) (fun c hc => by
   obtain ⟨m,hm,rfl⟩:=List.mem_map.1 hc
   have:=h.dec.rng m hm
   simp;omega)
  simpa [keysOf] using this
 have d2:T.excluded.length ≤ 5:=by
  have:=List.Nodup.length_le_of_subset (l₁:=T.excluded) (l₂:=[7680,7681,7682,7683,7684]) (h.dec.exs.imp fun h => by omega) (fun c hc => by
   obtain ⟨m,hm,rfl⟩:=List.mem_map.1 (h.dec.exk c hc)
   have:=h.dec.rng m hm
   simp;omega)
  simpa using this
 have d3:T.maps.length ≤ 28:=by
  have:=congrArg List.length h.map.same
  rw [List.length_map] at this
  simp only [keysOf,List.length_map] at this
  have:=List.length_filter_le (fun s:Sp => decide (s.2.2=3)) T.status
  omega
 have d4:T.prototypes.length ≤ 5:=h.pro.length_le
 have d5:T.extensions.length ≤ 1:=by rcases h.ext with h | h <;> rw [h] <;> simp
 unfold Tab.rule1 Tab.cols Tab.mps
 simp only [List.all_cons,List.all_nil,Bool.and_true,Bool.and_eq_true,decide_eq_true_eq]
 omega
theorem Made.keym (h:Made T):keysB false (-1) (keysOf T.maps)=true:=by
 have hs:(keysOf T.maps).Sublist poolL:=by
  rw [← h.map.same]
  exact ((List.filter_sublist).map _).trans (h.map.col.1.trans (List.take_sublist _ _))
 exact keysB_of (pool_sort.sublist hs) fun c hc => by
  have:=pool_in c (hs.subset hc)
  exact ⟨by omega,this.2.1,.inl this.2.2.1⟩
theorem Made.rule2 (h:Made T):T.rule2=true:=by
 unfold Tab.rule2 Tab.rule2m Tab.cols
 simp only [List.all_cons,List.all_nil,Bool.and_true,Bool.and_eq_true]
 have hd:∀ c,7680 ≤ c → c < 7685 → -1 < c ∧ c ≤ 1114111 ∧ (resB c=false ∨ false=true ∧ nameB c=true):=fun c h1 h2 => ⟨by omega,by omega,.inl (by rw [resB_not];omega)⟩
 refine ⟨⟨colN_col h.c0,colN_col h.c1,colN_col h.c2,colN_col h.c3,colN_col h.c4,colN_col h.map.col,colN_col h.c6⟩,⟨?_,h.keym,?_,?_⟩,?_⟩
 ·rcases h.ext with h | h <;> rw [h] <;> decide
 ·refine keysB_of h.dec.keys fun c hc => ?_
  obtain ⟨m,hm,rfl⟩:=List.mem_map.1 hc
  have:=h.dec.rng m hm
  exact hd _ this.1 (by omega)
 ·have hp:(keysOf protoL).Pairwise (· < ·):=by decide
  have ha:∀ c ∈ keysOf protoL,-1 < c ∧ c ≤ 1114111 ∧ (resB c=false ∨ true=true ∧ nameB c=true):=by decide
  have hs:(keysOf T.prototypes).Sublist (keysOf protoL):=h.pro.map _
  exact keysB_of (hp.sublist hs) fun c hc => ha c (hs.subset hc)
 ·refine keysB_of h.dec.exs fun c hc => ?_
  obtain ⟨m,hm,rfl⟩:=List.mem_map.1 (h.dec.exk c hc)
  have:=h.dec.rng m hm
  exact hd _ this.1 (by omega)
theorem Made.rule3 (h:Made T):T.rule3=true:=by
 unfold Tab.rule3 Tab.cols
 simp only [List.all_cons,List.all_nil,Bool.and_true,Bool.and_eq_true]
 exact ⟨colN_vals h.c0 (by decide) (by decide),colN_vals h.c1 (by decide) (by decide),colN_vals h.c2 (by decide) (by decide),colN_vals h.c3 (by decide) (by decide),colN_vals h.c4 (by decide) (by decide),colN_vals h.map.col (by decide) (by decide),colN_vals h.c6 (by decide) (by decide)⟩
theorem Made.dform (h:Made T):∀ m ∈ T.decomps,m.2 ≠ [] ∧ m.2.length ≤ 2 ∧ ∀ c ∈ m.2,c=97 ∨ c=98 ∨ 7680 ≤ c ∧ c ≤ 7684 ∨ c=769 ∨ c=776 ∨ c=803 ∨ c=837 ∨ c=945:=by
 intro m hm
 obtain ⟨a,r,he,ha,hr⟩:=h.dec.form m hm
 have:=h.dec.rng m hm
 rw [he]
 rcases hr with rfl | ⟨b,rfl,hb⟩
 ·refine ⟨by simp,by simp,fun c hc => ?_⟩
  rw [List.mem_singleton] at hc;subst hc;omega
 ·refine ⟨by simp,by simp,fun c hc => ?_⟩
  simp only [List.mem_cons,List.not_mem_nil,or_false] at hc
  rcases hc with rfl | rfl <;> omega
theorem Made.rule4 (h:Made T):T.rule4=true:=by
 unfold Tab.rule4
 simp only [Bool.and_eq_true,List.all_eq_true]
 refine ⟨?_,?_,?_,?_⟩
 ·rcases h.ext with h | h <;> rw [h] <;> decide
 ·intro m hm
  obtain ⟨a,ha,hl⟩:=h.map.form m hm
  rw [toB_iff]
  rcases hl with hl | hl <;> rw [hl] <;> rcases ha with rfl | rfl | rfl <;> decide
 ·intro m hm
  obtain ⟨h1,h2,h3⟩:=h.dform m hm
  rw [toB_iff]
  refine ⟨length_pos_ne h1,by omega,?_⟩
  simp only [Bool.false_eq_true,if_false,List.all_eq_true,scalarB_iff]
  intro c hc
  have:=h3 c hc
  omega
 ·intro m hm
  have hp:∀ m ∈ protoL,toB false m=true:=by decide
  exact hp m (h.pro.subset hm)
theorem Made.shape (h:Made T):Shape T:=Shape.of h.rule1 h.rule2
theorem Made.status_pool (h:Made T) {c:Int} (hc:c ∈ poolL):T.statusOf c=valueL T.status c:=by
 unfold Tab.statusOf
 rw [propL_ref (colN_ok h.map.col) (fun s hs => h.shape.c5.2.2 s hs)]
 rw [if_neg]
 rw [(pool_in c hc).2.2.1]
 rintro ⟨h,_⟩;cases h
theorem status_ascii (T:Tab) {c:Int} (hc:c=97 ∨ c=98 ∨ c=99 ∨ c=46):T.statusOf c=1:=by
 rcases hc with rfl | rfl | rfl | rfl <;> rfl
theorem Made.rule5 (h:Made T):T.rule5=true:=by
 unfold Tab.rule5
 rw [Bool.and_eq_true,decide_eq_true_eq,mapCount_points fun s hs => (h.map.col.2 s hs).1]
 refine ⟨?_,?_⟩
 ·have:=congrArg List.length h.map.same
  rw [List.length_map] at this
  simp only [keysOf,List.length_map] at this
  rw [this]
 ·rw [List.all_eq_true]
  intro m hm
  unfold Tab.mapOk
  rw [Bool.and_eq_true,decide_eq_true_eq,List.all_eq_true]
  refine ⟨?_,?_⟩
  ·have hk:m.1 ∈ keysOf T.maps:=List.mem_map_of_mem hm
   rw [← h.map.same] at hk
   obtain ⟨s,hs,he⟩:=List.mem_map.1 hk
   obtain ⟨hs1,hs2⟩:=List.mem_filter.1 hs
   rw [← he,h.status_pool (colN_mem h.map.col hs1),colN_at h.map.col hs1]
   simpa using hs2
  ·obtain ⟨a,ha,hl⟩:=h.map.form m hm
   intro c hc
   have hc':c=a ∨ c=46:=by
    rcases hl with hl | hl <;> rw [hl] at hc <;> simp at hc
    ·exact .inl hc
    ·exact hc
   rw [status_ascii T (by rcases hc' with rfl | rfl <;> omega)]
   rfl
theorem Made.rule6 (h:Made T):T.rule6=true:=by
 unfold Tab.rule6
 rw [Bool.and_eq_true,List.all_eq_true,List.all_eq_true]
 refine ⟨?_,?_⟩
 ·intro m hm
  obtain ⟨_,h2,h3⟩:=h.dform m hm
  unfold decOk
  rw [Bool.and_eq_true,decide_eq_true_eq,List.all_eq_true]
  refine ⟨h2,fun c hc => ?_⟩
  have:=h3 c hc
  unfold decEl sylB jamoB
  simp only [Bool.not_eq_true',Bool.or_eq_false_iff,decide_eq_false_iff_not]
  omega
 ·intro m hm
  have hr:=h.dec.rng m hm
  obtain ⟨h1,h2⟩:=h.dec.size 5 m.1 (.inl (by omega))
  have h3:=fin_len h1
  obtain ⟨h4,h5⟩:=fin_up h3 (T.decomps.length + 1) (by omega)
  unfold Tab.szOk
  rw [decide_eq_true_eq,sizeF_le]
  refine ⟨h4,?_⟩
  rcases Nat.le_total 5 (T.decomps.length + 1) with hle | hle
  ·rw [(fin_up h1 _ hle).2];omega
  ·rw [← (fin_up h4 5 hle).2];omega
theorem Made.rule7 (h:Made T):T.rule7=true:=by
 unfold Tab.rule7
 rw [List.all_eq_true]
 intro c hc
 obtain ⟨m,hm,rfl⟩:=List.mem_map.1 (h.dec.exk c hc)
 unfold Tab.exOk
 rw [decide_eq_true_eq,find_key h.dec.keys hm]
 exact (h.dform m hm).1
theorem comp_ex {T:Tab} {c:Int} (h:c ∈ T.excluded):T.comp c=false:=by
 have he:T.excB c=true:=by unfold Tab.excB;exact decide_eq_true h
 unfold Tab.comp
 cases T.decomps.length with
 | zero => rfl
 | succ f =>
   rw [Tab.compF]
   split
   ·rw [he];rfl
   ·rfl
theorem Made.rule8 (h:Made T):T.rule8=true:=by
 unfold Tab.rule8 Tab.pairs
 rw [decide_eq_true_eq]
 have hp:(T.decomps.filter (fun m => T.comp m.1)).Pairwise (fun a b => a.2=b.2 → b.1 ∈ T.excluded):=h.dec.uni.sublist List.filter_sublist
 refine List.Pairwise.map _ (fun a b (hab:a.2 ≠ b.2) => hab) (List.Pairwise.imp_of_mem ?_ hp)
 intro a b _ hb hab e
 have:=(List.mem_filter.1 hb).2
 rw [comp_ex (hab e)] at this
 cases this
theorem Made.ign_none (h:Made T) {c:Int} (hc:c ∉ poolL):T.ignB c=false:=by
 unfold Tab.ignB;rw [colN_zero h.c6 hc];rfl
theorem Made.rule9 (h:Made T):T.rule9=true:=by
 unfold Tab.rule9
 rw [List.all_eq_true]
 intro m hm
 have hi:=h.ign m hm
 have hpr:∀ c,c ∉ keysOf protoL → findL T.prototypes c=[]:=fun c hc => findL_no fun _ a ha e => hc (by
  have:=h.pro.subset (List.mem_of_getElem? ha)
  rw [← e];exact List.mem_map_of_mem this)
 have hel:∀ c,c < 7680 → T.ignB c=false → c ∉ keysOf protoL → T.protoEl c=true:=by
  intro c h1 h2 h3
  unfold Tab.protoEl Tab.plainB
  rw [h.dec.key_none (.inl h1),h2,hpr c h3]
  have:sylB c=false:=by unfold sylB;rw [decide_eq_false_iff_not];omega
  rw [this];rfl
 have hpl:∀ c,c < 7680 → T.ignB c=false → T.plainB c=true:=by
  intro c h1 h2
  unfold Tab.plainB
  rw [h.dec.key_none (.inl h1),h2];rfl
 have hm':=h.pro.subset hm
 unfold Tab.protoOk
 rw [Bool.and_eq_true,List.all_eq_true]
 simp only [protoL,List.mem_cons,List.not_mem_nil,or_false] at hm'
 rcases hm' with rfl | rfl | rfl | rfl | rfl
 all_goals
  refine ⟨hpl _ (by decide) hi.1,?_⟩
  intro c hc
  simp only [List.mem_cons,List.not_mem_nil,or_false] at hc
 ·subst hc;exact hel _ (by decide) (h.ign_none (by decide)) (by decide)
 ·rcases hc with rfl | rfl <;> exact hel _ (by decide) (h.ign_none (by decide)) (by decide)
 ·subst hc;exact hel _ (by decide) (h.ign_none (by decide)) (by decide)
 ·subst hc;exact hel _ (by decide) (h.ign_none (by decide)) (by decide)
 ·rcases hc with rfl | rfl
  ·exact hel _ (by decide) (h.ign_none (by decide)) (by decide)
  ·exact hel _ (by decide) hi.2 (by decide)
theorem check_zero {T:Tab} (h1:T.rule1=true) (h2:T.rule2=true) (h3:T.rule3=true) (h4:T.rule4=true) (h5:T.rule5=true) (h6:T.rule6=true) (h7:T.rule7=true) (h8:T.rule8=true) (h9:T.rule9=true):T.check=0:=by
 unfold Tab.check
 rw [h1,h2,h3,h4,h5,h6,h7,h8,h9];rfl
theorem Made.check (h:Made T):T.check=0:=check_zero h.rule1 h.rule2 h.rule3 h.rule4 h.rule5 h.rule6 h.rule7 h.rule8 h.rule9
end
end ND
namespace Go.Proofs.YtjafpikjpipbkaaGreatDoor
open Go.RowKit ND
def ColAt (W:World) (B:Nat) (ad:Addr) (T:Tab):Prop :=
 ad.block < B ∧ ∀ k c,T.cols[k]?=some c → ∃ v,W.cell? (ad.add (k * 3))=some v ∧ W.cell? (ad.add (k * 3 + 1))=some (.int .i64 c.2.1) ∧ W.cell? (ad.add (k * 3 + 2))=some (.int .i64 c.2.2) ∧ Spans W B v c.1
def MpsAt (W:World) (B:Nat) (ad:Addr) (T:Tab):Prop :=
 ad.block < B ∧ ∀ k c,T.mps[k]?=some c → ∃ v,W.cell? (ad.add k)=some v ∧ Mapps W B v c
def RetCols (T:Tab) (w:World) (e:Ending) (w':World):Prop:=∃ ad,e=.returned (.slice (some ad) 7 7) ∧ ColAt w' w'.heap.size ad T ∧ Below w.heap.size w w'
def RetMps (T:Tab) (w:World) (e:Ending) (w':World):Prop:=∃ ad,e=.returned (.slice (some ad) 4 4) ∧ MpsAt w' w'.heap.size ad T ∧ Below w.heap.size w w'
theorem cols_of_block {w0 w:World} {t:Tv} {T:Tab} {e:TypeId} (ht:TabR w0 w0.heap.size t T) (hb:Below w0.heap.size w0 w) {h:Nat} (hh:w.heap.size=h) :
  ColAt (w.alloc (.cells #[t.c0,.int .i64 0,.int .i64 8,t.c1,.int .i64 1,.int .i64 254,t.c2,.int .i64 0,.int .i64 5,t.c3,.int .i64 0,.int .i64 11,t.c4,.int .i64 0,.int .i64 60,t.c5,.int .i64 0,.int .i64 4,t.c6,.int .i64 1,.int .i64 1] e))
   (w.alloc (.cells #[t.c0,.int .i64 0,.int .i64 8,t.c1,.int .i64 1,.int .i64 254,t.c2,.int .i64 0,.int .i64 5,t.c3,.int .i64 0,.int .i64 11,t.c4,.int .i64 0,.int .i64 60,t.c5,.int .i64 0,.int .i64 4,t.c6,.int .i64 1,.int .i64 1] e)).heap.size ⟨h,0,none⟩ T:=by
 subst hh
 have hc:=cells_new w [t.c0,.int .i64 0,.int .i64 8,t.c1,.int .i64 1,.int .i64 254,t.c2,.int .i64 0,.int .i64 5,t.c3,.int .i64 0,.int .i64 11,t.c4,.int .i64 0,.int .i64 60,t.c5,.int .i64 0,.int .i64 4,t.c6,.int .i64 1,.int .i64 1] e
 have hr:=ht.later (hb.alloc hb.size (.cells #[t.c0,.int .i64 0,.int .i64 8,t.c1,.int .i64 1,.int .i64 254,t.c2,.int .i64 0,.int .i64 5,t.c3,.int .i64 0,.int .i64 11,t.c4,.int .i64 0,.int .i64 60,t.c5,.int .i64 0,.int .i64 4,t.c6,.int .i64 1,.int .i64 1] e))
 refine ⟨by simp,fun k c hk => ?_⟩
 have hk7:k < 7:=(List.getElem?_eq_some_iff.1 hk).1
 have h7:k=0 ∨ k=1 ∨ k=2 ∨ k=3 ∨ k=4 ∨ k=5 ∨ k=6:=by omega
 rcases h7 with rfl | rfl | rfl | rfl | rfl | rfl | rfl <;> cases hk
 ·exact ⟨_,hc 0 _ rfl,hc 1 _ rfl,hc 2 _ rfl,hr.r0⟩
 ·exact ⟨_,hc 3 _ rfl,hc 4 _ rfl,hc 5 _ rfl,hr.r1⟩
 ·exact ⟨_,hc 6 _ rfl,hc 7 _ rfl,hc 8 _ rfl,hr.r2⟩
 ·exact ⟨_,hc 9 _ rfl,hc 10 _ rfl,hc 11 _ rfl,hr.r3⟩
 ·exact ⟨_,hc 12 _ rfl,hc 13 _ rfl,hc 14 _ rfl,hr.r4⟩
 ·exact ⟨_,hc 15 _ rfl,hc 16 _ rfl,hc 17 _ rfl,hr.r5⟩
 ·exact ⟨_,hc 18 _ rfl,hc 19 _ rfl,hc 20 _ rfl,hr.r6⟩
theorem mps_of_block {w0 w:World} {t:Tv} {T:Tab} {e:TypeId} (ht:TabR w0 w0.heap.size t T) (hb:Below w0.heap.size w0 w) {h:Nat} (hh:w.heap.size=h) :
  MpsAt (w.alloc (.cells #[t.c7,t.c8,t.c9,t.c11] e)) (w.alloc (.cells #[t.c7,t.c8,t.c9,t.c11] e)).heap.size ⟨h,0,none⟩ T:=by
 subst hh
 have hc:=cells_new w [t.c7,t.c8,t.c9,t.c11] e
 have hr:=ht.later (hb.alloc hb.size (.cells #[t.c7,t.c8,t.c9,t.c11] e))
 refine ⟨by simp,fun k c hk => ?_⟩
 have hk7:k < 4:=(List.getElem?_eq_some_iff.1 hk).1
 have h7:k=0 ∨ k=1 ∨ k=2 ∨ k=3:=by omega
 rcases h7 with rfl | rfl | rfl | rfl <;> cases hk
 ·exact ⟨_,hc 0 _ rfl,hr.r7⟩
 ·exact ⟨_,hc 1 _ rfl,hr.r8⟩
 ·exact ⟨_,hc 2 _ rfl,hr.r9⟩
 ·exact ⟨_,hc 3 _ rfl,hr.r11⟩
theorem TabR.shape {w:World} {B:Nat} {t:Tv} {T:Tab} (h:TabR w B t T):∃ (A0 A1 A2 A3 A4 A5 A6 A7 A8 A9 A10 A11:Option Addr) (k0 k1 k2 k3 k4 k5 k6 k7 k8 k9 k10 k11:Nat),
  t=⟨.slice A0 T.category.length k0,.slice A1 T.cls.length k1,.slice A2 T.joining.length k2,.slice A3 T.bidi.length k3,.slice A4 T.script.length k4,.slice A5 T.status.length k5,.slice A6 T.ignorable.length k6,
   .slice A7 T.extensions.length k7,.slice A8 T.maps.length k8,.slice A9 T.decomps.length k9,.slice A10 T.excluded.length k10,.slice A11 T.prototypes.length k11⟩:=by
 obtain ⟨c0,c1,c2,c3,c4,c5,c6,c7,c8,c9,c10,c11⟩:=t
 obtain ⟨A0,k0,h0,_⟩:=h.r0
 obtain ⟨A1,k1,h1,_⟩:=h.r1
 obtain ⟨A2,k2,h2,_⟩:=h.r2
 obtain ⟨A3,k3,h3,_⟩:=h.r3
 obtain ⟨A4,k4,h4,_⟩:=h.r4
 obtain ⟨A5,k5,h5,_⟩:=h.r5
 obtain ⟨A6,k6,h6,_⟩:=h.r6
 obtain ⟨A7,k7,h7,_⟩:=h.r7
 obtain ⟨A8,k8,h8,_⟩:=h.r8
 obtain ⟨A9,k9,h9,_⟩:=h.r9
 obtain ⟨A10,k10,h10,_⟩:=h.r10
 obtain ⟨A11,k11,h11,_⟩:=h.r11
 simp only at h0 h1 h2 h3 h4 h5 h6 h7 h8 h9 h10 h11
 subst h0 h1 h2 h3 h4 h5 h6 h7 h8 h9 h10 h11
 exact ⟨A0,A1,A2,A3,A4,A5,A6,A7,A8,A9,A10,A11,k0,k1,k2,k3,k4,k5,k6,k7,k8,k9,k10,k11,rfl⟩
theorem columns_any (t:Tv) (T:Tab) (w:World) (ht:TabR w w.heap.size t T):Calls Tryz.prog 89 #[t.val] w (RetCols T w):=by
 obtain ⟨A0,A1,A2,A3,A4,A5,A6,A7,A8,A9,A10,A11,k0,k1,k2,k3,k4,k5,k6,k7,k8,k9,k10,k11,rfl⟩:=ht.shape
 have HT:=Lib.hid ht;clear ht
 go_enter Tryz.func89,Tryz.ntmps89
 go_wp2_with fail
 go_ret
 refine ⟨_,rfl,cols_of_block HT.out ?_ (by simp),?_⟩
 all_goals
  repeat (first | exact Below.refl _ _ | refine Below.setCell ?_ (by simp) _ | refine Below.alloc ?_ (by simp <;> omega) _)
theorem mappings_any (t:Tv) (T:Tab) (w:World) (ht:TabR w w.heap.size t T):Calls Tryz.prog 90 #[t.val] w (RetMps T w):=by
 obtain ⟨A0,A1,A2,A3,A4,A5,A6,A7,A8,A9,A10,A11,k0,k1,k2,k3,k4,k5,k6,k7,k8,k9,k10,k11,rfl⟩:=ht.shape
 have HT:=Lib.hid ht;clear ht
 go_enter Tryz.func90,Tryz.ntmps90
 go_wp2_with fail
 go_ret
 refine ⟨_,rfl,mps_of_block HT.out ?_ (by simp),?_⟩
 all_goals
  repeat (first | exact Below.refl _ _ | refine Below.setCell ?_ (by simp) _ | refine Below.alloc ?_ (by simp <;> omega) _)
end Go.Proofs.YtjafpikjpipbkaaGreatDoor
namespace Go.Proofs.YtjafpikjpipbkaaGreatDoor
open Go.RowKit ND
theorem Blk.tab {w:World} {g:Nat} {e:TypeId} {c0 c1 c2 c3 c4 c5 c6 c7 c8 c9 c10 c11:Value} (h:Blk w g e #[c0,c1,c2,c3,c4,c5,c6,c7,c8,c9,c10,c11]):w.cell? ⟨g,0,none⟩=some c0 ∧ w.cell? ⟨g,1,none⟩=some c1 ∧ w.cell? ⟨g,2,none⟩=some c2 ∧ w.cell? ⟨g,3,none⟩=some c3 ∧ w.cell? ⟨g,4,none⟩=some c4 ∧ w.cell? ⟨g,5,none⟩=some c5 ∧
  w.cell? ⟨g,6,none⟩=some c6 ∧ w.cell? ⟨g,7,none⟩=some c7 ∧ w.cell? ⟨g,8,none⟩=some c8 ∧ w.cell? ⟨g,9,none⟩=some c9 ∧ w.cell? ⟨g,10,none⟩=some c10 ∧ w.cell? ⟨g,11,none⟩=some c11 :=
 ⟨h.at_ rfl,h.at_ rfl,h.at_ rfl,h.at_ rfl,h.at_ rfl,h.at_ rfl,h.at_ rfl,h.at_ rfl,h.at_ rfl,h.at_ rfl,h.at_ rfl,h.at_ rfl⟩
theorem all_go {α:Type} {f:α → Bool} {xs:List α} {k:Nat} {x:α} {b R:Bool} (hx:xs[k]?=some x) (h:(b && (xs.drop k).all f)=R) {r:Bool} (hr:f x=r):((b && r) && (xs.drop (k + 1)).all f)=R:=by
 rw [← h,drop_of_get hx,List.all_cons,hr,Bool.and_assoc]
theorem all_done {α:Type} {f:α → Bool} {xs:List α} {k:Nat} {b R:Bool} (hk:xs.length ≤ k) (h:(b && (xs.drop k).all f)=R):b=R:=by
 rw [List.drop_eq_nil_of_le hk] at h;simpa using h
theorem each_go {α:Type} {f:α → Bool} {xs:List α} {k:Nat} {x:α} {R:Bool} (hx:xs[k]?=some x) (h:(xs.drop k).all f=R) (hf:f x=true):(xs.drop (k + 1)).all f=R:=by
 rw [← h,drop_of_get hx,List.all_cons,hf,Bool.true_and]
theorem each_no {α:Type} {f:α → Bool} {xs:List α} {k:Nat} {x:α} {R:Bool} (hx:xs[k]?=some x) (h:(xs.drop k).all f=R) (hf:f x=false):R=false:=by
 rw [← h,drop_of_get hx,List.all_cons,hf,Bool.false_and]
theorem each_end {α:Type} {f:α → Bool} {xs:List α} {k:Nat} {R:Bool} (hk:xs.length ≤ k) (h:(xs.drop k).all f=R):R=true:=by
 rw [← h,List.drop_eq_nil_of_le hk];rfl
theorem cast_le (n:Nat):decide ((n:Int) ≤ 256)=decide (n ≤ 256):=by
 by_cases h:n ≤ 256
 ·rw [decide_eq_true h,decide_eq_true (by omega)]
 ·rw [decide_eq_false h,decide_eq_false (by omega)]
def lenC_ (c:List Sp × Int × Int):Bool:=decide ((c.1.length:Int) ≤ 256)
def lenM_ (c:List Mp):Bool:=decide ((c.length:Int) ≤ 256)
theorem rule1_cast (T:Tab):T.rule1=(decide ((T.excluded.length:Int) ≤ 256) && (T.cols.all lenC_ && T.mps.all lenM_)):=by
 have h1:lenC_=fun c:List Sp × Int × Int => decide (c.1.length ≤ 256):=funext fun c => cast_le _
 have h2:lenM_=fun c:List Mp => decide (c.length ≤ 256):=funext fun c => cast_le _
 rw [h1,h2,cast_le];rfl
theorem rows_any (t:Tv) (T:Tab) (w:World) (ht:TabR w w.heap.size t T) :
  Calls Tryz.prog 49 #[t.val] w fun e w' => e=.returned (.bool T.rule1) ∧ Below w.heap.size w w':=by
 obtain ⟨A0,A1,A2,A3,A4,A5,A6,A7,A8,A9,A10,A11,k0,k1,k2,k3,k4,k5,k6,k7,k8,k9,k10,k11,rfl⟩:=ht.shape
 have HR:=Lib.hid (fun o:Obj => ht.later ((Below.refl _ _).alloc (Nat.le_refl _) o))
 clear ht
 obtain ⟨R,hR⟩:∃ R,R=T.rule1:=⟨_,rfl⟩
 rw [← hR]
 obtain ⟨R1,hR1⟩:∃ R1,R1=(decide ((T.excluded.length:Int) ≤ 256) && T.cols.all lenC_):=⟨_,rfl⟩
 have HR1:Hid ((decide ((T.excluded.length:Int) ≤ 256) && (T.cols.drop 0).all lenC_)=R1):=Lib.hid hR1.symm
 have HRR:Hid ((R1 && (T.mps.drop 0).all lenM_)=R):=Lib.hid (by rw [hR,hR1,rule1_cast,Bool.and_assoc];rfl)
 clear hR hR1
 go_enter Tryz.func49,Tryz.ntmps49
 go_wp2_with fail
 refine (columns_any _ T _ (HR.out _)).mono ?_
 rintro e w1 ⟨ad,rfl,hc,b1⟩
 have HC:=Lib.hid hc.2
 have hca:=hc.1
 have HB:=Lib.hid ((Blk.new w 26 _).later b1)
 have HT:=Lib.hid ((HR.out _).later b1)
 have hbel1:=below_next ((Below.refl _ _).alloc (Nat.le_refl _) _) b1
 clear hc b1 HR
 go_wp2_with fail
 go_loopw [3,15] (fun o i wr => ∃ (k:Nat) (b:Bool),k ≤ 7 ∧ i=.int .i64 k ∧ o=.bool b ∧ Hid ((b && (T.cols.drop k).all lenC_)=R1) ∧ Below w1.heap.size w1 wr) (fun _ i _ => 7 - (intOf i).toNat)
 case atStart => exact ⟨0,_,by omega,rfl,rfl,HR1,Below.refl _ _⟩
 case round =>
  obtain ⟨k,b,hk,rfl,rfl,HS,hbel⟩:=hrel
  clear HR1
  by_cases hlt:k < 7
  ·obtain ⟨⟨l,lo,hi⟩,hxk,_⟩:=get_el (xs:=T.cols) (k:=k) hlt
   obtain ⟨v,d0,d1,d2,A,c,rfl,_⟩:=HC.out k _ hxk
   simp only at d0 d1 d2
   obtain ⟨e0,e1,e2⟩:=span_cells hbel hca d0 d1 d2
   have HX:=Lib.hid hxk
   clear d0 d1 d2 hxk
   have k0:(0:Int) ≤ (k:Int):=by omega
   have k1:(k:Int) < (7:Int):=by omega
   have HN:=Lib.hid (all_go (r:=decide ((l.length:Int) ≤ 256)) HX.out HS.out rfl)
   cases b
   all_goals
    go_wp2_with fail
    go_roundw
    case rel => exact ⟨k + 1,_,by omega,by go_num,rfl,HN,hbel.alloc hbel.size _⟩
    case measure => simp [intOf];omega
  ·have HN:=Lib.hid (all_done (by show 7 ≤ k;omega) HS.out)
   obtain ⟨x0,x1,x2,x3,x4,x5,x6,x7,x8,x9,x10,x11⟩:=(HB.out.later hbel).tab
   have HT2:=Lib.hid (HT.out.later hbel)
   clear HT HB HC hca HS
   go_wp2_with fail
   refine (mappings_any _ T _ HT2.out).mono ?_
   rintro e w2 ⟨am,rfl,hm,b2⟩
   have HM:=Lib.hid hm.2
   have hma:=hm.1
   have hbel2:=below_next hbel1 (below_next hbel b2)
   clear hm HT2 hbel hbel1 b2 x0 x1 x2 x3 x4 x5 x6 x7 x8 x9 x10 x11
   have HRR2:Hid ((b && (T.mps.drop 0).all lenM_)=R):=Lib.hid (by rw [HN.out];exact HRR.out)
   clear HRR HN
   go_wp2_with fail
   go_loop [3,30] (fun o i => ∃ (k:Nat) (b:Bool),k ≤ 4 ∧ i=.int .i64 k ∧ o=.bool b ∧ Hid ((b && (T.mps.drop k).all lenM_)=R)) (fun _ i => 4 - (intOf i).toNat)
   case atStart => exact ⟨0,_,by omega,rfl,rfl,HRR2⟩
   case round =>
    obtain ⟨k,b,hk,rfl,rfl,HS⟩:=hrel
    clear HRR2
    by_cases hlt:k < 4
    ·obtain ⟨l,hxk,_⟩:=get_el (xs:=T.mps) (k:=k) hlt
     obtain ⟨v,d0,A,c,rfl,_⟩:=HM.out k _ hxk
     have HX:=Lib.hid hxk
     clear hxk
     have k0:(0:Int) ≤ (k:Int):=by omega
     have k1:(k:Int) < (4:Int):=by omega
     have HN:=Lib.hid (all_go (r:=decide ((l.length:Int) ≤ 256)) HX.out HS.out rfl)
     cases b
     all_goals
      go_wp2_with fail
      go_round
      case rel => exact ⟨k + 1,_,by omega,by go_num,rfl,HN⟩
      case measure => simp [intOf];omega
    ·have HN:=Lib.hid (all_done (by show 4 ≤ k;omega) HS.out)
     go_wp2_with fail
     go_ret
     rw [HN.out]
     exact ⟨rfl,hbel2⟩
end Go.Proofs.YtjafpikjpipbkaaGreatDoor
namespace Go.Proofs.YtjafpikjpipbkaaGreatDoor
open Go.RowKit
def RetSearch (w:World) (n:Nat) (p:Nat → Bool) (e:Ending) (w':World):Prop :=
 ∃ k:Nat,e=.returned (.int .i64 k) ∧ k ≤ n ∧ (∀ i,i < k → p i=false) ∧ (k < n → p k=true) ∧ Below w.heap.size w w'
def Says (P:Program) (w:World) (g:FuncId) (cb:Array Value) (n:Nat) (p:Nat → Bool):Prop :=
 ∀ (W:World) (i:Nat),Below w.heap.size w W → i < n → Calls P g (#[.int .i64 i] ++ cb) W fun e W' => e=.returned (.bool (p i)) ∧ Below W.heap.size W W'
theorem search_any (g:Nat) (cb:Array Value) (n:Nat) (p:Nat → Bool) (w:World) (eg:∀ args w,(callFunc g args).run Tryz.prog w=.ok (.enter g args) w) (hsz:n < 4611686018427387904)
  (hf:Says Tryz.prog w g cb n p) (hmono:∀ a b,a ≤ b → b < n → p a=true → p b=true) :
  Calls Tryz.prog 132 #[.int .i64 n,.func (.func g) #[] cb] w (RetSearch w n p):=by
 have HF:=Lib.hid hf
 have HM:=Lib.hid hmono
 clear hf hmono
 go_enter Tryz.func132,Tryz.ntmps132
 go_wp2_with fail
 go_loopw [5,6] (fun s5 s6 wr => ∃ (lo hi:Nat),s5=.int .i64 lo ∧ s6=.int .i64 hi ∧ lo ≤ hi ∧ hi ≤ n ∧ Below w.heap.size w wr ∧ Hid ((∀ t,t < lo → p t=false) ∧ (∀ t,hi ≤ t → t < n → p t=true))) (fun s5 s6 _ => (intOf s6).toNat - (intOf s5).toNat)
 case atStart => exact ⟨0,n,rfl,rfl,Nat.zero_le _,Nat.le_refl _,Below.refl _ _,Lib.hid ⟨fun t ht => absurd ht (Nat.not_lt_zero _),fun t h1 h2 => by omega⟩⟩
 case round =>
  obtain ⟨lo,hi,rfl,rfl,hlh,hin,hbel,HI⟩:=hrel
  by_cases hlt:lo < hi
  ·have hc:=HF.out wr ((lo + hi) / 2) hbel (by omega)
   rw [show (((lo + hi) / 2:Nat):Int)=((lo:Int) + (hi:Int)) / 2 by omega] at hc
   cases hp:p ((lo + hi) / 2) <;> rw [hp] at hc
   ·have HC:=Lib.hid hc
    have HI2:Hid ((∀ t,t < (lo + hi) / 2 + 1 → p t=false) ∧ (∀ t,hi ≤ t → t < n → p t=true)):=Lib.hid ⟨fun t ht => (by
      cases h:p t with
      | false => rfl
      | true => have:=HM.out t ((lo + hi) / 2) (by omega) (by omega) h;rw [hp] at this;cases this),HI.out.2⟩
    clear hp hc HI
    go_wp2_with fail
    refine HC.out.mono ?_
    rintro e w1 ⟨rfl,b1⟩
    clear HC
    go_wp2_with fail
    have hbel2:=below_next hbel b1
    go_roundw
    case rel => exact ⟨(lo + hi) / 2 + 1,hi,by rw [show ((lo:Int) + (hi:Int)) / 2 + 1=(((lo + hi) / 2 + 1:Nat):Int) by omega],rfl,by omega,hin,hbel2,HI2⟩
    case measure => simp [intOf];omega
   ·have HC:=Lib.hid hc
    have HI2:Hid ((∀ t,t < lo → p t=false) ∧ (∀ t,(lo + hi) / 2 ≤ t → t < n → p t=true)):=Lib.hid ⟨HI.out.1,fun t ht htn => HM.out ((lo + hi) / 2) t ht htn hp⟩
    clear hp hc HI
    go_wp2_with fail
    refine HC.out.mono ?_
    rintro e w1 ⟨rfl,b1⟩
    clear HC
    go_wp2_with fail
    have hbel2:=below_next hbel b1
    go_roundw
    case rel => exact ⟨lo,(lo + hi) / 2,rfl,by rw [show ((lo:Int) + (hi:Int)) / 2=(((lo + hi) / 2:Nat):Int) by omega],by omega,by omega,hbel2,HI2⟩
    case measure => simp [intOf];omega
  ·obtain rfl:hi=lo:=by omega
   go_wp2_with fail
   go_ret
   exact ⟨hi,rfl,hin,HI.out.1,fun h => HI.out.2 hi (Nat.le_refl _) h,hbel⟩
end Go.Proofs.YtjafpikjpipbkaaGreatDoor
namespace Go.Proofs.YtjafpikjpipbkaaGreatDoor
open Go.RowKit ND
def pV (xs:List Sp) (c:Int) (i:Nat):Bool:=match xs[i]? with | some a => decide (c ≤ a.2.1) | none => true
theorem pV_some {xs:List Sp} {c:Int} {i:Nat} {a:Sp} (h:xs[i]?=some a):pV xs c i=decide (c ≤ a.2.1):=by unfold pV;rw [h]
theorem pV_mono {xs:List Sp} {c lo hi:Int} (hs:okS lo hi (-1) xs=true) (a b:Nat) (hab:a ≤ b) (hb:b < xs.length) (h:pV xs c a=true):pV xs c b=true:=by
 rcases Nat.lt_or_ge a b with hlt | hge
 ·have ha:xs[a]?=some (xs[a]'(by omega)):=List.getElem?_eq_getElem (by omega)
  have hb':xs[b]?=some xs[b]:=List.getElem?_eq_getElem hb
  rw [pV_some ha,decide_eq_true_eq] at h
  rw [pV_some hb',decide_eq_true_eq]
  have:=okS_at hs hlt ha hb'
  have:=okS_el hs hb'
  omega
 ·obtain rfl:a=b:=by omega
  exact h
theorem cell_new1 (W:World) (v:Value) (t:TypeId):(W.alloc (.cells #[v] t)).cell? ⟨W.heap.size,0,none⟩=some v:=by
 rw [cell_of_row _ _ _ _ _ _ (heap_alloc_new W _)];rfl
theorem valueClos (bl bc:Nat) (A:Option Addr) (cap:Nat) (xs:List Sp) (c:Int) (W:World) (i:Nat) (hi:i < xs.length) (hbl:W.cell? ⟨bl,0,none⟩=some (.slice A xs.length cap)) (hbc:W.cell? ⟨bc,0,none⟩=some (.int .i64 c)) (hv:Spans W W.heap.size (.slice A xs.length cap) xs) :
  Calls Tryz.prog 167 #[.int .i64 i,.pointer (some ⟨bl,0,none⟩),.pointer (some ⟨bc,0,none⟩)] W fun e W' => e=.returned (.bool (pV xs c i)) ∧ Below W.heap.size W W':=by
 obtain ⟨A',c',hA,_,_,_,hcell⟩:=hv
 cases hA
 obtain ⟨⟨f,t,x⟩,hxi,_⟩:=get_el hi
 obtain ⟨ad,rfl,ha,d0,d1,d2⟩:=hcell i _ hxi
 obtain ⟨e0,e1,e2⟩:=span_cells (Below.refl _ _) ha d0 d1 d2
 rw [pV_some hxi]
 simp only at e0 e1 e2 ⊢
 clear d0 d1 d2 hcell hxi e0 e2
 have k0:(0:Int) ≤ (i:Int):=by omega
 have k1:(i:Int) < (xs.length:Int):=by omega
 go_enter Tryz.func167,Tryz.ntmps167
 go_wp2_with fail
 go_quiet (fail)
 go_wp2_with fail
 go_ret
 exact ⟨rfl,below_drewN (Below.refl _ _) nq⟩
theorem value_any (v:Value) (xs:List Sp) (c lo hi:Int) (w:World) (hv:Spans w w.heap.size v xs) (hs:okS lo hi (-1) xs=true) (hlen:xs.length ≤ 256) :
  Calls Tryz.prog 131 #[v,.int .i64 c] w fun e w' => e=.returned (.int .i64 (valueL xs c)) ∧ Below w.heap.size w w':=by
 have eg:=enters_of Tryz.func167 (by kernel_rfl) rfl
 have HV:=Lib.hid hv
 obtain ⟨A,cap,rfl,_,_,_,_⟩:=hv
 have hbw:Below w.heap.size w ((w.alloc (.cells #[.slice A xs.length cap] 23)).alloc (.cells #[.int .i64 c] 3)):=((Below.refl _ _).alloc (Nat.le_refl _) _).alloc (by simp) _
 have hboxes:∀ W,Below ((w.alloc (.cells #[.slice A xs.length cap] 23)).alloc (.cells #[.int .i64 c] 3)).heap.size ((w.alloc (.cells #[.slice A xs.length cap] 23)).alloc (.cells #[.int .i64 c] 3)) W →
   W.cell? ⟨w.heap.size,0,none⟩=some (.slice A xs.length cap) ∧ W.cell? ⟨w.heap.size + 1,0,none⟩=some (.int .i64 c):=by
  intro W hb
  have hsz:(w.alloc (.cells #[.slice A xs.length cap] 23)).heap.size=w.heap.size + 1:=by simp
  have h1:=cell_new1 w (.slice A xs.length cap) 23
  have h2:=cell_new1 (w.alloc (.cells #[.slice A xs.length cap] 23)) (.int .i64 c) 3
  rw [hsz] at h2
  have h1':=(World.cell?_alloc_lt (w.alloc (.cells #[.slice A xs.length cap] 23)) (.cells #[.int .i64 c] 3) ⟨w.heap.size,0,none⟩ (by simp)).trans h1
  exact ⟨(hb.cell (p:=⟨w.heap.size,0,none⟩) (by simp;omega)).trans h1',(hb.cell (p:=⟨w.heap.size + 1,0,none⟩) (by simp)).trans h2⟩
 have HB:=Lib.hid hboxes
 have HBW:=Lib.hid hbw
 clear hboxes hbw
 have HSR:=Lib.hid (search_any 167 #[.pointer (some ⟨w.heap.size,0,none⟩),.pointer (some ⟨w.heap.size + 1,0,none⟩)] xs.length (pV xs c) ((w.alloc (.cells #[.slice A xs.length cap] 23)).alloc (.cells #[.int .i64 c] 3)) eg (by omega) (by
  intro W i hb hi
  exact valueClos _ _ A cap xs c W i hi (HB.out W hb).1 (HB.out W hb).2 ((HV.out.later HBW.out).later hb)) (pV_mono hs))
 go_enter Tryz.func131,Tryz.ntmps131
 go_wp2_with fail
 refine HSR.out.mono ?_
 rintro e w2 ⟨k,rfl,hk,hlow,hhigh,b2⟩
 obtain ⟨q0,q1⟩:=HB.out w2 b2
 have hv2:=(HV.out.later HBW.out).later b2
 have hbel:=HBW.out.trans (b2.mono HBW.out.size)
 have HL:Hid (∀ i a,i < k → xs[i]?=some a → a.2.1 < c):=Lib.hid (fun i a hi ha => by
  have:=hlow i hi
  rw [pV_some ha,decide_eq_false_iff_not] at this
  omega)
 clear HSR HB HBW HV b2 hlow eg
 by_cases hkn:k < xs.length
 ·obtain ⟨⟨f,t,x⟩,hxk,_⟩:=get_el hkn
  have hct:=hhigh hkn
  rw [pV_some hxk,decide_eq_true_eq] at hct
  obtain ⟨A',c',hA,_,_,_,hcell⟩:=hv2
  cases hA
  obtain ⟨ad,rfl,ha,d0,d1,d2⟩:=hcell k _ hxk
  obtain ⟨e0,e1,e2⟩:=span_cells (Below.refl _ w2) ha d0 d1 d2
  simp only at e0 e1 e2 hct
  have HX:=Lib.hid hxk
  clear d0 d1 d2 hcell hxk hhigh e1
  have k0:(0:Int) ≤ (k:Int):=by omega
  have k1:(k:Int) < (xs.length:Int):=by omega
  have hb0:((k:Int) == (xs.length:Int))=false:=by rw [beq_eq_false_iff_ne];omega
  by_cases hfc:f ≤ c
  ·have hd:decide (c < f)=false:=by rw [decide_eq_false_iff_not];omega
   have HR:=Lib.hid (valueL_at HL.out HX.out hfc hct)
   clear hfc hct
   go_wp2_with fail
   go_quiet (fail)
   go_wp2_with fail
   go_ret
   rw [HR.out]
   exact ⟨rfl,below_drewN hbel nq⟩
  ·have hd:decide (c < f)=true:=by rw [decide_eq_true_iff];omega
   have HR:=Lib.hid (valueL_miss hs HL.out (fun a ha => by rw [HX.out] at ha;cases ha;simp only;omega))
   clear hfc hct
   go_wp2_with fail
   go_quiet (fail)
   go_wp2_with fail
   go_ret
   rw [HR.out]
   exact ⟨rfl,below_drewN hbel nq⟩
 ·have hb0:((k:Int) == (xs.length:Int))=true:=by rw [beq_iff_eq];omega
  have HR:=Lib.hid (valueL_miss hs HL.out (fun a ha => by have:=(List.getElem?_eq_some_iff.1 ha).1;omega))
  clear hhigh hv2
  go_wp2_with fail
  go_quiet (fail)
  go_wp2_with fail
  go_ret
  rw [HR.out]
  exact ⟨rfl,below_drewN hbel nq⟩
end Go.Proofs.YtjafpikjpipbkaaGreatDoor
