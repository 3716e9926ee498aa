/-
  Merged texts: lemmas and walks that the last text of this claim leans on.
-/
import Derived.Test.YtjafpikjpipbkaaGreatDoorMgTS21
import Derived.Test.YtjafpikjpipbkaaGreatDoorMgTS4
import Derived.Test.YtjafpikjpipbkaaGreatDoorMgTS6
import Derived.Deep.Cut
import Derived.Deep.CutRange
import Derived.Deep.CutBlock
import Derived.Deep.LoopGhost
import Derived.Test.YtjafpikjpipbkaaGreatDoorMgTS10
import Derived.Test.YtjafpikjpipbkaaGreatDoorMgTS1
set_option maxRecDepth 100000
set_option maxHeartbeats 40000000
namespace Go.Proofs.YtjafpikjpipbkaaGreatDoor
open Go.RowKit ND
def RetPro (w:World) (g b:Nat) (v:Value) (n:Nat) (t:Tv) (T:Tab) (e:Ending) (w':World):Prop :=
 ∃ v11 D,e=.returned (.tuple #[]) ∧ Blk w' b 26 #[t.c0,t.c1,t.c2,t.c3,t.c4,t.c5,t.c6,t.c7,t.c8,t.c9,t.c10,v11] ∧ TabR (veil [g,b] w') w'.heap.size { t with c11:=v11 } { T with prototypes:=D } ∧
  D.Sublist protoL ∧ (∀ m ∈ D,T.ignB m.1=false ∧ T.ignB (m.2.getLastD 0)=false) ∧ Src w' g v n ∧ onlyIn [g,b] w w'
theorem proto_lit (w:World) (g b:Nat) (hgb:g < b) (hb:b < w.heap.size):Mapps (veil [g,b] ((((((w.alloc (.cells #[.int .i64 111] 3)).alloc (.cells #[.int .i64 114,.int .i64 110] 3)).alloc (.cells #[.int .i64 97] 3)).alloc (.cells #[.int .i64 97] 3)).alloc (.cells #[.int .i64 111,.int .i64 803] 3)).alloc (.cells #[.int .i64 48,.slice (some ⟨w.heap.size,0,none⟩) 1 1,.int .i64 109,.slice (some ⟨w.heap.size + 1,0,none⟩) 2 2,.int .i64 945,.slice (some ⟨w.heap.size + 1 + 1,0,none⟩) 1 1,.int .i64 1072,.slice (some ⟨w.heap.size + 1 + 1 + 1,0,none⟩) 1 1,.int .i64 1632,.slice (some ⟨w.heap.size + 1 + 1 + 1 + 1,0,none⟩) 2 2] 61))) ((((((w.alloc (.cells #[.int .i64 111] 3)).alloc (.cells #[.int .i64 114,.int .i64 110] 3)).alloc (.cells #[.int .i64 97] 3)).alloc (.cells #[.int .i64 97] 3)).alloc (.cells #[.int .i64 111,.int .i64 803] 3)).alloc (.cells #[.int .i64 48,.slice (some ⟨w.heap.size,0,none⟩) 1 1,.int .i64 109,.slice (some ⟨w.heap.size + 1,0,none⟩) 2 2,.int .i64 945,.slice (some ⟨w.heap.size + 1 + 1,0,none⟩) 1 1,.int .i64 1072,.slice (some ⟨w.heap.size + 1 + 1 + 1,0,none⟩) 1 1,.int .i64 1632,.slice (some ⟨w.heap.size + 1 + 1 + 1 + 1,0,none⟩) 2 2] 61)).heap.size (.slice (some ⟨w.heap.size + 1 + 1 + 1 + 1 + 1,0,none⟩) 5 5) protoL:=by
 have n (k:Nat) (hk:w.heap.size ≤ k):k ∉ [g,b]:=by simp;omega
 have h0:Blk ((((((w.alloc (.cells #[.int .i64 111] 3)).alloc (.cells #[.int .i64 114,.int .i64 110] 3)).alloc (.cells #[.int .i64 97] 3)).alloc (.cells #[.int .i64 97] 3)).alloc (.cells #[.int .i64 111,.int .i64 803] 3)).alloc (.cells #[.int .i64 48,.slice (some ⟨w.heap.size,0,none⟩) 1 1,.int .i64 109,.slice (some ⟨w.heap.size + 1,0,none⟩) 2 2,.int .i64 945,.slice (some ⟨w.heap.size + 1 + 1,0,none⟩) 1 1,.int .i64 1072,.slice (some ⟨w.heap.size + 1 + 1 + 1,0,none⟩) 1 1,.int .i64 1632,.slice (some ⟨w.heap.size + 1 + 1 + 1 + 1,0,none⟩) 2 2] 61)) (w.heap.size) 3 ([111].map (Value.int .i64)).toArray:=by have h:=((((((Blk.new w 3 #[.int .i64 111]).alloc (.cells #[.int .i64 114,.int .i64 110] 3)).alloc (.cells #[.int .i64 97] 3)).alloc (.cells #[.int .i64 97] 3)).alloc (.cells #[.int .i64 111,.int .i64 803] 3)).alloc (.cells #[.int .i64 48,.slice (some ⟨w.heap.size,0,none⟩) 1 1,.int .i64 109,.slice (some ⟨w.heap.size + 1,0,none⟩) 2 2,.int .i64 945,.slice (some ⟨w.heap.size + 1 + 1,0,none⟩) 1 1,.int .i64 1072,.slice (some ⟨w.heap.size + 1 + 1 + 1,0,none⟩) 1 1,.int .i64 1632,.slice (some ⟨w.heap.size + 1 + 1 + 1 + 1,0,none⟩) 2 2] 61));simpa using h
 have h1:Blk ((((((w.alloc (.cells #[.int .i64 111] 3)).alloc (.cells #[.int .i64 114,.int .i64 110] 3)).alloc (.cells #[.int .i64 97] 3)).alloc (.cells #[.int .i64 97] 3)).alloc (.cells #[.int .i64 111,.int .i64 803] 3)).alloc (.cells #[.int .i64 48,.slice (some ⟨w.heap.size,0,none⟩) 1 1,.int .i64 109,.slice (some ⟨w.heap.size + 1,0,none⟩) 2 2,.int .i64 945,.slice (some ⟨w.heap.size + 1 + 1,0,none⟩) 1 1,.int .i64 1072,.slice (some ⟨w.heap.size + 1 + 1 + 1,0,none⟩) 1 1,.int .i64 1632,.slice (some ⟨w.heap.size + 1 + 1 + 1 + 1,0,none⟩) 2 2] 61)) (w.heap.size + 1) 3 ([114,110].map (Value.int .i64)).toArray:=by have h:=(((((Blk.new (w.alloc (.cells #[.int .i64 111] 3)) 3 #[.int .i64 114,.int .i64 110]).alloc (.cells #[.int .i64 97] 3)).alloc (.cells #[.int .i64 97] 3)).alloc (.cells #[.int .i64 111,.int .i64 803] 3)).alloc (.cells #[.int .i64 48,.slice (some ⟨w.heap.size,0,none⟩) 1 1,.int .i64 109,.slice (some ⟨w.heap.size + 1,0,none⟩) 2 2,.int .i64 945,.slice (some ⟨w.heap.size + 1 + 1,0,none⟩) 1 1,.int .i64 1072,.slice (some ⟨w.heap.size + 1 + 1 + 1,0,none⟩) 1 1,.int .i64 1632,.slice (some ⟨w.heap.size + 1 + 1 + 1 + 1,0,none⟩) 2 2] 61));simpa using h
 have h2:Blk ((((((w.alloc (.cells #[.int .i64 111] 3)).alloc (.cells #[.int .i64 114,.int .i64 110] 3)).alloc (.cells #[.int .i64 97] 3)).alloc (.cells #[.int .i64 97] 3)).alloc (.cells #[.int .i64 111,.int .i64 803] 3)).alloc (.cells #[.int .i64 48,.slice (some ⟨w.heap.size,0,none⟩) 1 1,.int .i64 109,.slice (some ⟨w.heap.size + 1,0,none⟩) 2 2,.int .i64 945,.slice (some ⟨w.heap.size + 1 + 1,0,none⟩) 1 1,.int .i64 1072,.slice (some ⟨w.heap.size + 1 + 1 + 1,0,none⟩) 1 1,.int .i64 1632,.slice (some ⟨w.heap.size + 1 + 1 + 1 + 1,0,none⟩) 2 2] 61)) (w.heap.size + 1 + 1) 3 ([97].map (Value.int .i64)).toArray:=by have h:=((((Blk.new ((w.alloc (.cells #[.int .i64 111] 3)).alloc (.cells #[.int .i64 114,.int .i64 110] 3)) 3 #[.int .i64 97]).alloc (.cells #[.int .i64 97] 3)).alloc (.cells #[.int .i64 111,.int .i64 803] 3)).alloc (.cells #[.int .i64 48,.slice (some ⟨w.heap.size,0,none⟩) 1 1,.int .i64 109,.slice (some ⟨w.heap.size + 1,0,none⟩) 2 2,.int .i64 945,.slice (some ⟨w.heap.size + 1 + 1,0,none⟩) 1 1,.int .i64 1072,.slice (some ⟨w.heap.size + 1 + 1 + 1,0,none⟩) 1 1,.int .i64 1632,.slice (some ⟨w.heap.size + 1 + 1 + 1 + 1,0,none⟩) 2 2] 61));simpa using h
 have h3:Blk ((((((w.alloc (.cells #[.int .i64 111] 3)).alloc (.cells #[.int .i64 114,.int .i64 110] 3)).alloc (.cells #[.int .i64 97] 3)).alloc (.cells #[.int .i64 97] 3)).alloc (.cells #[.int .i64 111,.int .i64 803] 3)).alloc (.cells #[.int .i64 48,.slice (some ⟨w.heap.size,0,none⟩) 1 1,.int .i64 109,.slice (some ⟨w.heap.size + 1,0,none⟩) 2 2,.int .i64 945,.slice (some ⟨w.heap.size + 1 + 1,0,none⟩) 1 1,.int .i64 1072,.slice (some ⟨w.heap.size + 1 + 1 + 1,0,none⟩) 1 1,.int .i64 1632,.slice (some ⟨w.heap.size + 1 + 1 + 1 + 1,0,none⟩) 2 2] 61)) (w.heap.size + 1 + 1 + 1) 3 ([97].map (Value.int .i64)).toArray:=by have h:=(((Blk.new (((w.alloc (.cells #[.int .i64 111] 3)).alloc (.cells #[.int .i64 114,.int .i64 110] 3)).alloc (.cells #[.int .i64 97] 3)) 3 #[.int .i64 97]).alloc (.cells #[.int .i64 111,.int .i64 803] 3)).alloc (.cells #[.int .i64 48,.slice (some ⟨w.heap.size,0,none⟩) 1 1,.int .i64 109,.slice (some ⟨w.heap.size + 1,0,none⟩) 2 2,.int .i64 945,.slice (some ⟨w.heap.size + 1 + 1,0,none⟩) 1 1,.int .i64 1072,.slice (some ⟨w.heap.size + 1 + 1 + 1,0,none⟩) 1 1,.int .i64 1632,.slice (some ⟨w.heap.size + 1 + 1 + 1 + 1,0,none⟩) 2 2] 61));simpa using h
 have h4:Blk ((((((w.alloc (.cells #[.int .i64 111] 3)).alloc (.cells #[.int .i64 114,.int .i64 110] 3)).alloc (.cells #[.int .i64 97] 3)).alloc (.cells #[.int .i64 97] 3)).alloc (.cells #[.int .i64 111,.int .i64 803] 3)).alloc (.cells #[.int .i64 48,.slice (some ⟨w.heap.size,0,none⟩) 1 1,.int .i64 109,.slice (some ⟨w.heap.size + 1,0,none⟩) 2 2,.int .i64 945,.slice (some ⟨w.heap.size + 1 + 1,0,none⟩) 1 1,.int .i64 1072,.slice (some ⟨w.heap.size + 1 + 1 + 1,0,none⟩) 1 1,.int .i64 1632,.slice (some ⟨w.heap.size + 1 + 1 + 1 + 1,0,none⟩) 2 2] 61)) (w.heap.size + 1 + 1 + 1 + 1) 3 ([111,803].map (Value.int .i64)).toArray:=by have h:=((Blk.new ((((w.alloc (.cells #[.int .i64 111] 3)).alloc (.cells #[.int .i64 114,.int .i64 110] 3)).alloc (.cells #[.int .i64 97] 3)).alloc (.cells #[.int .i64 97] 3)) 3 #[.int .i64 111,.int .i64 803]).alloc (.cells #[.int .i64 48,.slice (some ⟨w.heap.size,0,none⟩) 1 1,.int .i64 109,.slice (some ⟨w.heap.size + 1,0,none⟩) 2 2,.int .i64 945,.slice (some ⟨w.heap.size + 1 + 1,0,none⟩) 1 1,.int .i64 1072,.slice (some ⟨w.heap.size + 1 + 1 + 1,0,none⟩) 1 1,.int .i64 1632,.slice (some ⟨w.heap.size + 1 + 1 + 1 + 1,0,none⟩) 2 2] 61));simpa using h
 have h5:Blk ((((((w.alloc (.cells #[.int .i64 111] 3)).alloc (.cells #[.int .i64 114,.int .i64 110] 3)).alloc (.cells #[.int .i64 97] 3)).alloc (.cells #[.int .i64 97] 3)).alloc (.cells #[.int .i64 111,.int .i64 803] 3)).alloc (.cells #[.int .i64 48,.slice (some ⟨w.heap.size,0,none⟩) 1 1,.int .i64 109,.slice (some ⟨w.heap.size + 1,0,none⟩) 2 2,.int .i64 945,.slice (some ⟨w.heap.size + 1 + 1,0,none⟩) 1 1,.int .i64 1072,.slice (some ⟨w.heap.size + 1 + 1 + 1,0,none⟩) 1 1,.int .i64 1632,.slice (some ⟨w.heap.size + 1 + 1 + 1 + 1,0,none⟩) 2 2] 61)) (w.heap.size + 1 + 1 + 1 + 1 + 1) 61 (mpCells [((48:Int),.slice (some ⟨w.heap.size,0,none⟩) 1 1),((109:Int),.slice (some ⟨w.heap.size + 1,0,none⟩) 2 2),((945:Int),.slice (some ⟨w.heap.size + 1 + 1,0,none⟩) 1 1),((1072:Int),.slice (some ⟨w.heap.size + 1 + 1 + 1,0,none⟩) 1 1),((1632:Int),.slice (some ⟨w.heap.size + 1 + 1 + 1 + 1,0,none⟩) 2 2)]).toArray:=by have h:=Blk.new (((((w.alloc (.cells #[.int .i64 111] 3)).alloc (.cells #[.int .i64 114,.int .i64 110] 3)).alloc (.cells #[.int .i64 97] 3)).alloc (.cells #[.int .i64 97] 3)).alloc (.cells #[.int .i64 111,.int .i64 803] 3)) 61 #[.int .i64 48,.slice (some ⟨w.heap.size,0,none⟩) 1 1,.int .i64 109,.slice (some ⟨w.heap.size + 1,0,none⟩) 2 2,.int .i64 945,.slice (some ⟨w.heap.size + 1 + 1,0,none⟩) 1 1,.int .i64 1072,.slice (some ⟨w.heap.size + 1 + 1 + 1,0,none⟩) 1 1,.int .i64 1632,.slice (some ⟨w.heap.size + 1 + 1 + 1 + 1,0,none⟩) 2 2];simpa [mpCells] using h
 refine Mapps.of_blk (D:=protoL) h5 (n _ (by omega)) (by simp) rfl fun i p d hp hd => ?_
 match i,hp,hd with
 | 0,hp,hd => cases hp;cases hd;exact Ints.of_blk h0 (n _ (by omega)) (by simp)
 | 1,hp,hd => cases hp;cases hd;exact Ints.of_blk h1 (n _ (by omega)) (by simp)
 | 2,hp,hd => cases hp;cases hd;exact Ints.of_blk h2 (n _ (by omega)) (by simp)
 | 3,hp,hd => cases hp;cases hd;exact Ints.of_blk h3 (n _ (by omega)) (by simp)
 | 4,hp,hd => cases hp;cases hd;exact Ints.of_blk h4 (n _ (by omega)) (by simp)
 | _ + 5,hp,hd => simp at hp
theorem add_zero_off (k i:Nat):Addr.add ⟨k,0,none⟩ i=⟨k,i,none⟩:=by cases i <;> simp [Addr.add]
theorem proto_len:∀ m ∈ protoL,1 ≤ m.2.length ∧ m.2.length ≤ 2:=by decide
theorem prototypes_any (w:World) (g b:Nat) (v:Value) (xs:List Int) (t:Tv) (T:Tab) (hv:Ints w g .i64 v xs) (hs:Src w g v xs.length)
  (hb:Blk w b 26 #[t.c0,t.c1,t.c2,t.c3,t.c4,t.c5,t.c6,t.c7,t.c8,t.c9,t.c10,.slice none 0 0]) (hgb:g < b)
  (ht:TabR (veil [g,b] w) w.heap.size { t with c11:=.slice none 0 0 } { T with prototypes:=[] }) :
  Calls Tryz.prog 25 #[.pointer (some ⟨g,0,none⟩),.pointer (some ⟨b,0,none⟩)] w (RetPro w g b v xs.length t T):=by
 have hbw:b < w.heap.size:=hb.lt
 have HT:=Lib.hid ht
 have HV:=Lib.hid hv
 have HS:=Lib.hid hs
 have HB:=Lib.hid hb
 clear hv hs hb ht
 have HNX:Hid (∀ (W:World) (m:Int),onlyIn [g,b] w W → Src W g v xs.length → 0 < m → m ≤ 1000000 → Calls Tryz.prog 18 #[.pointer (some ⟨g,0,none⟩),.int .i64 m] W (RetNext W g v xs.length m)) :=
  Lib.hid fun W m h1 h2 h3 h4 => next_src W g v xs m (HV.out.below (h1.below (by intro x hx;simp at hx;omega) (by omega))) h2 h3 h4
 go_enter Tryz.func25,Tryz.ntmps25
 go_wp2_with fail
 have hbel:Below w.heap.size w ((((((w.alloc (.cells #[.int .i64 111] 3)).alloc (.cells #[.int .i64 114,.int .i64 110] 3)).alloc (.cells #[.int .i64 97] 3)).alloc (.cells #[.int .i64 97] 3)).alloc (.cells #[.int .i64 111,.int .i64 803] 3)).alloc (.cells #[.int .i64 48,.slice (some ⟨w.heap.size,0,none⟩) 1 1,.int .i64 109,.slice (some ⟨w.heap.size + 1,0,none⟩) 2 2,.int .i64 945,.slice (some ⟨w.heap.size + 1 + 1,0,none⟩) 1 1,.int .i64 1072,.slice (some ⟨w.heap.size + 1 + 1 + 1,0,none⟩) 1 1,.int .i64 1632,.slice (some ⟨w.heap.size + 1 + 1 + 1 + 1,0,none⟩) 2 2] 61)):=(((((((Below.refl _ _).alloc (Nat.le_refl _) _).alloc (by simp;try omega) _).alloc (by simp;try omega) _).alloc (by simp;try omega) _).alloc (by simp;try omega) _).alloc (by simp;try omega) _)
 have hI:PSt w g b xs.length v t T (.slice (some ⟨w.heap.size + 1 + 1 + 1 + 1 + 1,0,none⟩) 5 5) (.slice none 0 0) [] ((((((w.alloc (.cells #[.int .i64 111] 3)).alloc (.cells #[.int .i64 114,.int .i64 110] 3)).alloc (.cells #[.int .i64 97] 3)).alloc (.cells #[.int .i64 97] 3)).alloc (.cells #[.int .i64 111,.int .i64 803] 3)).alloc (.cells #[.int .i64 48,.slice (some ⟨w.heap.size,0,none⟩) 1 1,.int .i64 109,.slice (some ⟨w.heap.size + 1,0,none⟩) 2 2,.int .i64 945,.slice (some ⟨w.heap.size + 1 + 1,0,none⟩) 1 1,.int .i64 1072,.slice (some ⟨w.heap.size + 1 + 1 + 1,0,none⟩) 1 1,.int .i64 1632,.slice (some ⟨w.heap.size + 1 + 1 + 1 + 1,0,none⟩) 2 2] 61)):=by
  have ho:onlyIn [g,b] w ((((((w.alloc (.cells #[.int .i64 111] 3)).alloc (.cells #[.int .i64 114,.int .i64 110] 3)).alloc (.cells #[.int .i64 97] 3)).alloc (.cells #[.int .i64 97] 3)).alloc (.cells #[.int .i64 111,.int .i64 803] 3)).alloc (.cells #[.int .i64 48,.slice (some ⟨w.heap.size,0,none⟩) 1 1,.int .i64 109,.slice (some ⟨w.heap.size + 1,0,none⟩) 2 2,.int .i64 945,.slice (some ⟨w.heap.size + 1 + 1,0,none⟩) 1 1,.int .i64 1072,.slice (some ⟨w.heap.size + 1 + 1 + 1,0,none⟩) 1 1,.int .i64 1632,.slice (some ⟨w.heap.size + 1 + 1 + 1 + 1,0,none⟩) 2 2] 61)):=onlyIn.of_below hbel
  have hso:onlyIn [] w ((((((w.alloc (.cells #[.int .i64 111] 3)).alloc (.cells #[.int .i64 114,.int .i64 110] 3)).alloc (.cells #[.int .i64 97] 3)).alloc (.cells #[.int .i64 97] 3)).alloc (.cells #[.int .i64 111,.int .i64 803] 3)).alloc (.cells #[.int .i64 48,.slice (some ⟨w.heap.size,0,none⟩) 1 1,.int .i64 109,.slice (some ⟨w.heap.size + 1,0,none⟩) 2 2,.int .i64 945,.slice (some ⟨w.heap.size + 1 + 1,0,none⟩) 1 1,.int .i64 1072,.slice (some ⟨w.heap.size + 1 + 1 + 1,0,none⟩) 1 1,.int .i64 1632,.slice (some ⟨w.heap.size + 1 + 1 + 1 + 1,0,none⟩) 2 2] 61)):=onlyIn.of_below hbel
  refine ⟨hso.blk HB.out (by simp),(HT.out.reveil (onlyIn_reveil ho fun x hx => hx)).more hbel.size,OwnM.nil _ _ _,proto_lit w g b hgb hbw,HS.out.below hbel,ho⟩
 have HI:=Lib.hid hI
 clear hI hbel HB HS HT
 generalize ((((((w.alloc (.cells #[.int .i64 111] 3)).alloc (.cells #[.int .i64 114,.int .i64 110] 3)).alloc (.cells #[.int .i64 97] 3)).alloc (.cells #[.int .i64 97] 3)).alloc (.cells #[.int .i64 111,.int .i64 803] 3)).alloc (.cells #[.int .i64 48,.slice (some ⟨w.heap.size,0,none⟩) 1 1,.int .i64 109,.slice (some ⟨w.heap.size + 1,0,none⟩) 2 2,.int .i64 945,.slice (some ⟨w.heap.size + 1 + 1,0,none⟩) 1 1,.int .i64 1072,.slice (some ⟨w.heap.size + 1 + 1 + 1,0,none⟩) 1 1,.int .i64 1632,.slice (some ⟨w.heap.size + 1 + 1 + 1 + 1,0,none⟩) 2 2] 61))=W0 at *
 obtain ⟨lb,hlb⟩:∃ lb,lb=w.heap.size + 1 + 1 + 1 + 1 + 1:=⟨_,rfl⟩
 rw [← hlb] at HI
 rw [← hlb]
 clear hlb
 go_loopg [18] 5 (fun gk iv wr => ∃ (k:Nat) (v11:Value) (D:List Mp),iv=.int .i64 k ∧ k + gk=5 ∧ Hid (PSt w g b xs.length v t T (.slice (some ⟨lb,0,none⟩) 5 5) v11 D wr) ∧ Hid (D.Sublist (protoL.take k)) ∧ Hid (∀ m ∈ D,T.ignB m.1=false ∧ T.ignB (m.2.getLastD 0)=false))
 case atStart => exact ⟨0,_,[],rfl,rfl,HI,Lib.hid (List.nil_sublist _),Lib.hid (by simp)⟩
 case round =>
  obtain ⟨k,v11,D,rfl,hk,HM,HD,HG⟩:=hrel
  clear HI
  by_cases hlt:k < 5
  ·obtain ⟨⟨mc,ml⟩,hm,hmm⟩:=get_el (show k < protoL.length from hlt)
   obtain ⟨hm1,hm2⟩:=proto_len _ hmm
   simp only at hm1 hm2
   obtain ⟨A,c,hlv,_,_,_,hcl⟩:=HM.out.lit
   cases hlv
   obtain ⟨aj,sv,hA,haj,d0',d1',hto⟩:=hcl k _ hm
   cases hA
   have d0:=veil_cell d0'
   have d1:=veil_cell d1'
   simp only at d0 d1 hto
   have HTO:=Lib.hid hto
   obtain ⟨A',c',rfl,hl1,hl2,_,hcx⟩:=id hto
   obtain ⟨j,hj⟩:∃ j,ml.length=j + 1:=⟨ml.length - 1,by omega⟩
   obtain ⟨x,hx⟩:∃ x,ml[j]?=some x:=⟨_,List.getElem?_eq_getElem (by omega)⟩
   have hxl:ml.getLastD 0=x:=by
    rw [List.getLastD_eq_getLast?,List.getLast?_eq_getElem?,hj,show j + 1 - 1=j from rfl,hx];rfl
   obtain ⟨ad,rfl,_,_⟩:=hcx j x hx
   have HMM:=Lib.hid hm
   have HJ:=Lib.hid hj
   have HX:=Lib.hid hx
   have HXL:=Lib.hid hxl
   have hj1:j < ml.length:=by omega
   have e0:wr.cell? ⟨lb,k * 2,none⟩=some (.int .i64 mc):=by rw [← d0,add_zero_off]
   have e1:wr.cell? ⟨lb,k * 2 + 1,none⟩=some (.slice (some ad) ml.length c'):=by rw [← d1,add_zero_off]
   clear hcl d0 d1 d0' d1' hto hm hmm haj hcx hj hx hxl hl1 hl2
   have k1:(k:Int) < 5:=by omega
   go_upto_region 3 with fail
   go_cut [46] from 22 to 46 (fun s46 wx => ∃ d:Bool,s46=.bool d ∧ Hid (d=false → T.ignB mc=false ∧ T.ignB (ml.getLastD 0)=false) ∧ Hid (onlyIn [g] wr wx) ∧ Hid (Src wx g v xs.length) ∧ Hid (Blk wx wr.heap.size 61 #[.int .i64 mc,.slice (some ad) ml.length c']))
   case first =>
    clear e0 e1 k1
    have HO2:Hid (onlyIn [g] wr (wr.alloc (.cells #[.int .i64 mc,.slice (some ad) ml.length c'] 61))):=Lib.hid (onlyIn.of_below ((Below.refl _ _).alloc (Nat.le_refl _) _))
    have HS2:Hid (Src (wr.alloc (.cells #[.int .i64 mc,.slice (some ad) ml.length c'] 61)) g v xs.length):=Lib.hid (HM.out.src.alloc _)
    have HX2:Hid (Blk (wr.alloc (.cells #[.int .i64 mc,.slice (some ad) ml.length c'] 61)) wr.heap.size 61 #[.int .i64 mc,.slice (some ad) ml.length c']):=Lib.hid (Blk.new wr 61 _)
    have HN:=Lib.hid (HNX.out (wr.alloc (.cells #[.int .i64 mc,.slice (some ad) ml.length c'] 61)).drew 3 (HM.out.only hgb hbw HO2.out HS2.out).oi HS2.out (by decide) (by decide))
    generalize wr.alloc (.cells #[.int .i64 mc,.slice (some ad) ml.length c'] 61)=W2 at *
    refine wp_region_any (by kernel_rfl) ?_
    refine wpAny_one 0 _ (by kernel_rfl) rfl (fun K hK => ?_)
    go_simp
    refine hK _ _ ?_
    clear hK K
    refine wpAny_one 1 _ (by kernel_rfl) rfl (fun K hK => ?_)
    go_simp
    go_at_call 18
    refine HN.out.mono ?_
    rintro e w7 ⟨q7,rfl,q70,q71,hs7,hg70⟩
    refine hK _ _ ?_
    clear hK K
    have hO7:=HO2.out.trans (onlyIn.of_grown (undrew hg70) (by simp))
    have hM7:=HM.out.only hgb hbw hO7 hs7
    have hX7:=HX2.out.grown (undrew hg70) (by intro e;injection e with e;have:=HM.out.oi.2.2.2.1;omega)
    have HTab:=Lib.hid fun W (hW:Below w7.heap.size w7 W) => (hM7.tab hgb hbw).unveil.later hW
    have HO7:=Lib.hid hO7
    have HS7:=Lib.hid hs7
    have HX7:=Lib.hid hX7
    obtain ⟨x0,x1,x2,x3,x4,x5,x6,x7,x8,x9,x10,x11⟩:=hM7.blk.tabG
    have m0:=cell_regrown (hX7.at_ (i:=0) rfl)
    have m1:=cell_regrown (hX7.at_ (i:=1) rfl)
    obtain ⟨_,_,hvx,_,_,_,hcx⟩:=(HTO.out.reveil (onlyIn_reveil (S1:=[g,b] ++ v11.ownBlock.toList) hO7 fun x hx => by simp at hx;simp [hx])).unveil
    cases hvx
    obtain ⟨_,hA,_,hcx2⟩:=hcx j x HX.out
    cases hA
    have m2:=cell_regrown hcx2
    have hj2:(0:Int) ≤ (j:Int):=by omega
    have hj3:(j:Int) < (ml.length:Int):=by omega
    have hw:IntKind.i64.wrap ((ml.length:Int) - 1)=(j:Int):=by rw [IntWalk.i64_in _ (by omega)];have:=HJ.out;omega
    clear hg70 hs7 hO7 hM7 hX7 hcx hcx2 HN HO2 HS2 HX2
    by_cases h7:q7=0
    ·have n7:(q7 == 0)=true:=by simpa using h7
     clear h7
     refine wpAny_one 2 _ (by kernel_rfl) rfl (fun K hK => ?_)
     go_simp
     refine hK _ _ ?_
     clear hK K
     refine wpAny_one 3 _ (by kernel_rfl) rfl (fun K hK => ?_)
     go_simp
     refine hK _ _ ?_
     clear hK K
     refine wpAny_below 4 _ rfl rfl (by kernel_rfl) (by kernel_rfl) ?_
     simp only [List.drop_succ_cons,List.drop_zero]
     repeat (go_big_quiet_step (fail))
     refine wpQuiet_nil ?_
     rintro _ ⟨⟨dq,osq⟩,rfl⟩
     go_wp2
     go_meet
     case rel => exact ⟨_,rfl,Lib.hid (fun h => by cases h),Lib.hid (HO7.out.trans (onlyIn.of_below (below_regrown _ dq osq))),Lib.hid (HS7.out.below (below_regrown _ dq osq)),Lib.hid (HX7.out.later (below_regrown _ dq osq))⟩
    ·have n7:(q7 == 0)=false:=by simpa using h7
     clear h7
     obtain ⟨b1,hb1⟩:∃ b1,T.ignB mc=b1:=⟨_,rfl⟩
     obtain ⟨b2,hb2⟩:∃ b2,T.ignB x=b2:=⟨_,rfl⟩
     have HI1:Hid (∀ W,Below w7.heap.size w7 W → Calls Tryz.prog 46 #[.agg #[t.c0,t.c1,t.c2,t.c3,t.c4,t.c5,t.c6,t.c7,t.c8,t.c9,t.c10,v11],.int .i64 mc] W fun e w' => e=.returned (.bool b1) ∧ Below W.heap.size W w') :=
      Lib.hid fun W hW => by rw [← hb1];exact refIgnorable_any { t with c11:=v11 } { T with prototypes:=D } mc W (HTab.out W hW)
     have HI2:Hid (∀ W,Below w7.heap.size w7 W → Calls Tryz.prog 46 #[.agg #[t.c0,t.c1,t.c2,t.c3,t.c4,t.c5,t.c6,t.c7,t.c8,t.c9,t.c10,v11],.int .i64 x] W fun e w' => e=.returned (.bool b2) ∧ Below W.heap.size W w') :=
      Lib.hid fun W hW => by rw [← hb2];exact refIgnorable_any { t with c11:=v11 } { T with prototypes:=D } x W (HTab.out W hW)
     have HB1:=Lib.hid hb1
     have HB2:=Lib.hid hb2
     clear hb1 hb2 HTab
     cases b1
     ·cases b2
      all_goals
       refine wpAny_one 2 _ (by kernel_rfl) rfl (fun K hK => ?_)
       go_simp
       refine hK _ _ ?_
       clear hK K
       refine wpAny_one 3 _ (by kernel_rfl) rfl (fun K hK => ?_)
       go_simp
       refine hK _ _ ?_
       clear hK K
       refine wpAny_below 4 _ rfl rfl (by kernel_rfl) (by kernel_rfl) ?_
       simp only [List.drop_succ_cons,List.drop_zero]
       repeat (go_big_quiet_step (first | (go_at_call 46;with_reducible exact quiet_t HI1.out) | (go_at_call 46;with_reducible exact quiet_t HI2.out)))
       refine wpQuiet_nil ?_
       rintro _ ⟨⟨dq,osq⟩,rfl⟩
       go_wp2
       go_meet
       case rel => exact ⟨_,rfl,Lib.hid (fun h => by first | (cases h;done) | exact ⟨HB1.out,by rw [HXL.out];exact HB2.out⟩),Lib.hid (HO7.out.trans (onlyIn.of_below (below_regrown _ dq osq))),Lib.hid (HS7.out.below (below_regrown _ dq osq)),Lib.hid (HX7.out.later (below_regrown _ dq osq))⟩
     ·cases b2
      all_goals
       refine wpAny_one 2 _ (by kernel_rfl) rfl (fun K hK => ?_)
       go_simp
       refine hK _ _ ?_
       clear hK K
       refine wpAny_one 3 _ (by kernel_rfl) rfl (fun K hK => ?_)
       go_simp
       refine hK _ _ ?_
       clear hK K
       refine wpAny_below 4 _ rfl rfl (by kernel_rfl) (by kernel_rfl) ?_
       simp only [List.drop_succ_cons,List.drop_zero]
       repeat (go_big_quiet_step (first | (go_at_call 46;with_reducible exact quiet_t HI1.out) | (go_at_call 46;with_reducible exact quiet_t HI2.out)))
       refine wpQuiet_nil ?_
       rintro _ ⟨⟨dq,osq⟩,rfl⟩
       go_wp2
       go_meet
       case rel => exact ⟨_,rfl,Lib.hid (fun h => by cases h),Lib.hid (HO7.out.trans (onlyIn.of_below (below_regrown _ dq osq))),Lib.hid (HS7.out.below (below_regrown _ dq osq)),Lib.hid (HX7.out.later (below_regrown _ dq osq))⟩
   case rest =>
    obtain ⟨d,rfl,HDD,HO3,HS3,HX3⟩:=hcut
    have HM3:=Lib.hid (HM.out.only hgb hbw HO3.out HS3.out)
    cases d
    ·have hb3:=HM3.out.blk
     have e11:=hb3.at_ (i:=11) rfl
     have e11a:=(hb3.alloc (.cells #[.int .i64 mc,.slice (some ad) ml.length c'] 61)).at_ (i:=11) rfl
     have hx3:=HX3.out
     have x0:=hx3.at_ (i:=0) rfl
     have x1:=hx3.at_ (i:=1) rfl
     have HBA:=Lib.hid (hb3.alloc (.cells #[.int .i64 mc,.slice (some ad) ml.length c'] 61))
     have HOX:Hid (onlyIn [] wc (wc.alloc (.cells #[.int .i64 mc,.slice (some ad) ml.length c'] 61)).drew):=Lib.hid (onlyIn.of_below ((Below.refl _ _).alloc (Nat.le_refl _) _).drew)
     have HMX:=Lib.hid (HM3.out.only hgb hbw (HOX.out.more (by simp)) (show Src (wc.alloc (.cells #[.int .i64 mc,.slice (some ad) ml.length c'] 61)).drew g v xs.length from HM3.out.src.alloc _))
     have HIX:Hid (Ints (veil ([g,b] ++ v11.ownBlock.toList) (wc.alloc (.cells #[.int .i64 mc,.slice (some ad) ml.length c'] 61)).drew) (wc.alloc (.cells #[.int .i64 mc,.slice (some ad) ml.length c'] 61)).drew.heap.size .i64 (.slice (some ad) ml.length c') ml):=by
      have h1:=(HTO.out.reveil (onlyIn_reveil (S1:=[g,b] ++ v11.ownBlock.toList) HO3.out fun x hx => by simp at hx;simp [hx]))
      have h2:=((h1.more HO3.out.2.2.2.1).reveil (onlyIn_reveil (S1:=[g,b] ++ v11.ownBlock.toList) HOX.out fun x hx => by cases hx)).more HOX.out.2.2.2.1
      exact Lib.hid h2
     have HKX:Hid (Blk (wc.alloc (.cells #[.int .i64 mc,.slice (some ad) ml.length c'] 61)).drew wc.heap.size 61 #[.int .i64 mc,.slice (some ad) ml.length c']):=Lib.hid (Blk.new wc 61 #[.int .i64 mc,.slice (some ad) ml.length c'])
     have hszY:w.heap.size ≤ (wc.alloc (.cells #[.int .i64 mc,.slice (some ad) ml.length c'] 61)).drew.heap.size:=by have h1:=HM3.out.oi.2.2.2.1;simp;omega
     have hDl:D.length ≤ 1000000:=by have h:=HD.out.length_le;rw [List.length_take] at h;omega
     obtain ⟨i0,hi,hz0,hz1,hz2⟩:=info_parts Tryz.infoMap
     clear hb3 hx3 e0 e1
     go_wp2
     go_region_law (first
      | (refine step_app_map rfl (.tmp 51) (.tmp 53) rfl Tryz.underlying24 hi _ hz0 hz1 hz2 rfl [g,b] w.heap.size v11 D wc.heap.size mc (.slice (some ad) ml.length c') ml rfl rfl HMX.out.om HKX.out HIX.out hDl hszY ?_;intro v13 w13 hM13 hg13 hr13 hs13;have hb13:=(show Blk (wc.alloc (.cells #[.int .i64 mc,.slice (some ad) ml.length c'] 61)).drew b 26 #[t.c0,t.c1,t.c2,t.c3,t.c4,t.c5,t.c6,t.c7,t.c8,t.c9,t.c10,v11] from HBA.out).grown hg13 (fun e => by have:=(HM3.out.own b e.symm).1;omega);have e13:=hb13.at_ (i:=11) rfl;have f13:=hb13.free 11;have HM13:=Lib.hid hM13;have HG13:=Lib.hid hg13;have HR13:=Lib.hid hr13;obtain ⟨A13,m13,c13',rfl⟩:=hs13;clear hb13 hM13 hg13 hr13))
     all_goals go_wp2
     all_goals
      go_roundg (4 - k)
      case measure => omega
      case rel =>
       refine ⟨k + 1,_,D ++ [(mc,ml)],by go_num,by omega,Lib.hid (HM3.out.append hgb hbw HOX.out HG13.out HR13.out HM13.out),Lib.hid ?_,Lib.hid ?_⟩
       ·rw [take_snoc_get HMM.out];exact HD.out.append (List.Sublist.refl _)
       ·intro m hm
        rcases List.mem_append.1 hm with hm | hm
        ·exact HG.out m hm
        ·rw [List.mem_singleton] at hm;subst hm;exact HDD.out (by simp)
    ·clear e0 e1
     go_wp2
     go_roundg (4 - k)
     case measure => omega
     case rel => exact ⟨k + 1,v11,D,by go_num,by omega,HM3,Lib.hid (HD.out.trans (List.take_sublist_take_left (by omega))),HG⟩
  ·have hk5:k=5:=by omega
   subst hk5
   go_wp2
   go_end0
   have h:=HM.out.tab hgb hbw
   exact ⟨v11,D,rfl,HM.out.blk,h,HD.out.trans (List.take_sublist _ _),HG.out,HM.out.src,HM.out.oi⟩
end Go.Proofs.YtjafpikjpipbkaaGreatDoor
namespace Go.Proofs.YtjafpikjpipbkaaGreatDoor
open Go.RowKit ND
theorem veil_more {R:Nat} {S:List Nat} {W:World} {p:Addr} {x:Value} (h:(veil S W).cell? p=some x) (hp:p.block ≠ R):(veil (R :: S) W).cell? p=some x:=by
 have hn:p.block ∉ R :: S:=by
  intro hx
  rcases List.mem_cons.1 hx with e | e
  ·exact hp e
  ·exact unveil_at h e
 rw [cell_veil hn];exact veil_cell h
theorem Ints.apart {R:Nat} {S:List Nat} {W:World} {B:Nat} {v:Value} {xs:List Int} (hR:∀ (p:Addr) (x:Int),W.cell? p=some (.int .i64 x) → p.block ≠ R) (h:Ints (veil S W) B .i64 v xs):Ints (veil (R :: S) W) B .i64 v xs:=by
 obtain ⟨A,c,hv,h1,h2,h3,h4⟩:=h
 refine ⟨A,c,hv,h1,h2,h3,fun i x hi => ?_⟩
 obtain ⟨ad,e,hb,hc⟩:=h4 i x hi
 exact ⟨ad,e,hb,veil_more hc (hR _ _ (veil_cell hc))⟩
theorem Spans.apart {R:Nat} {S:List Nat} {W:World} {B:Nat} {v:Value} {xs:List Sp} (hR:∀ (p:Addr) (x:Int),W.cell? p=some (.int .i64 x) → p.block ≠ R) (h:Spans (veil S W) B v xs):Spans (veil (R :: S) W) B v xs:=by
 obtain ⟨A,c,hv,h1,h2,h3,h4⟩:=h
 refine ⟨A,c,hv,h1,h2,h3,fun i x hi => ?_⟩
 obtain ⟨ad,e,hb,c0,c1,c2⟩:=h4 i x hi
 exact ⟨ad,e,hb,veil_more c0 (hR _ _ (veil_cell c0)),veil_more c1 (hR _ _ (veil_cell c1)),veil_more c2 (hR _ _ (veil_cell c2))⟩
theorem Mapps.apart {R:Nat} {S:List Nat} {W:World} {B:Nat} {v:Value} {xs:List Mp} (hR:∀ (p:Addr) (x:Int),W.cell? p=some (.int .i64 x) → p.block ≠ R) (h:Mapps (veil S W) B v xs):Mapps (veil (R :: S) W) B v xs:=by
 obtain ⟨A,c,hv,h1,h2,h3,h4⟩:=h
 refine ⟨A,c,hv,h1,h2,h3,fun i x hi => ?_⟩
 obtain ⟨ad,sv,e,hb,c0,c1,hI⟩:=h4 i x hi
 have hn:=hR _ _ (veil_cell c0)
 rw [block_of_add] at hn
 exact ⟨ad,sv,e,hb,veil_more c0 (by rw [block_of_add];exact hn),veil_more c1 (by rw [block_of_add];exact hn),hI.apart hR⟩
theorem TabR.apart {R:Nat} {S:List Nat} {W:World} {B:Nat} {t:Tv} {T:Tab} (hR:∀ (p:Addr) (x:Int),W.cell? p=some (.int .i64 x) → p.block ≠ R) (h:TabR (veil S W) B t T):TabR (veil (R :: S) W) B t T :=
 ⟨h.r0.apart hR,h.r1.apart hR,h.r2.apart hR,h.r3.apart hR,h.r4.apart hR,h.r5.apart hR,h.r6.apart hR,h.r7.apart hR,h.r8.apart hR,h.r9.apart hR,h.r10.apart hR,h.r11.apart hR⟩
theorem no_int {W:World} {R:Nat} {t:TypeId} {cs:Array Value} (h:Blk W R t cs) (hc:∀ u ∈ cs.toList,∀ x,u ≠ .int .i64 x):∀ (p:Addr) (x:Int),W.cell? p=some (.int .i64 x) → p.block ≠ R:=by
 rintro ⟨q,off,spot⟩ x hp rfl
 cases spot with
 | none =>
   rw [h.cell off] at hp
   exact hc _ (Array.mem_toList_iff.2 (Array.mem_of_getElem? hp)) x rfl
 | some s =>
   unfold World.cell? at hp
   rw [h] at hp
   simp at hp
def more (L:List Sp) (c x:Int):List Sp:=if 0 < x then L ++ [(c,c,x)] else L
theorem colN_more {k:Nat} {hi c x:Int} {L:List Sp} (h:colN k 1 hi L) (hc:poolL[k]?=some c) (hx:x ≤ hi):colN (k + 1) 1 hi (more L c x):=by
 unfold more
 split
 ·exact colN_add h hc (by omega) hx
 ·exact colN_skip h
structure KSt (w:World) (g b n:Nat) (v:Value) (t:Tv) (T:Tab) (sv:Value) (st:List Int) (wr:World):Prop where
 blk:Blk wr b 26 t.cells
 tr:TabR (veil ([g,b] ++ sv.ownBlock.toList) wr) wr.heap.size t T
 st:wr.ownsRow w.heap.size 3 1 sv st.length (st.map (Value.int .i64))
 src:Src wr g v n
 oi:onlyIn [g,b] w wr
section
variable {w:World} {g b n:Nat} {v:Value} {t:Tv} {T:Tab} {sv:Value} {st:List Int} {wr w':World}
theorem KSt.own (h:KSt w g b n v t T sv st wr):∀ q,sv.ownBlock=some q → w.heap.size ≤ q ∧ q < wr.heap.size:=fun q hq => h.st.lt q hq
theorem KSt.only (h:KSt w g b n v t T sv st wr) (hgb:g < b) (hb:b < w.heap.size) (ho:onlyIn [g] wr w') (hs:Src w' g v n):KSt w g b n v t T sv st w':=by
 have hown:=h.own
 have ho2:onlyIn [g,b] wr w':=ho.more fun x hx => by simp at hx ⊢;exact .inl hx
 have hk:=onlyIn_reveil (S1:=[g,b] ++ sv.ownBlock.toList) ho2 fun x hx => List.mem_append_left _ hx
 refine ⟨ho.blk h.blk (by simp;omega),(h.tr.reveil hk).more ho.2.2.2.1,⟨h.st.1,?_⟩,hs,h.oi.trans ho2⟩
 rcases h.st.2 with hn | ⟨q,cap,cur,rfl,hq,hg,hrest⟩
 ·exact .inl hn
 ·exact .inr ⟨q,cap,cur,rfl,hq,ho.blk hg (by simp;omega),hrest⟩
theorem KSt.keepAdd (h:KSt w g b n v t T sv st wr) (hgb:g < b) (hb:b < w.heap.size) (hg:wr.grownBy w' (some b)) :
  TabR (veil ([g,b] ++ sv.ownBlock.toList) w') w'.heap.size t T ∧ w'.ownsRow w.heap.size 3 1 sv st.length (st.map (Value.int .i64)) ∧ Src w' g v n ∧ onlyIn [g,b] w w':=by
 have hown:=h.own
 have ho2:onlyIn [g,b] wr w':=onlyIn.of_grown hg (by simp)
 have hk:=onlyIn_reveil (S1:=[g,b] ++ sv.ownBlock.toList) ho2 fun x hx => List.mem_append_left _ hx
 exact ⟨(h.tr.reveil hk).more hg.size,h.st.kept hg (by
  cases hv:sv.ownBlock with
  | none => exact .inl rfl
  | some q => have:=hown q hv;refine .inr (fun e => ?_);injection e;omega),h.src.grown hg (by intro e;injection e;omega),h.oi.trans ho2⟩
theorem KSt.inS (h:KSt w g b n v t T sv st wr) (hgb:g < b) (hb:b < w.heap.size):∀ x ∈ [g,b] ++ sv.ownBlock.toList,x < wr.heap.size:=fun x hx => by
 have h1:=h.oi.2.2.2.1
 rcases List.mem_append.1 hx with hx | hx
 ·simp at hx;omega
 ·rw [Option.mem_toList] at hx;exact (h.own x hx).2
theorem KSt.add0 (h:KSt w g b n v t T sv st wr) (hgb:g < b) (hb:b < w.heap.size) {c x:Int} {e:Ending} (ret:RetAdd wr b 0 26 t.cells t.c0 T.category c c x e w') :
  ∃ v',e=.returned (.tuple #[]) ∧ KSt w g b n v { t with c0:=v' } { T with category:=more T.category c x } sv st w' ∧ wr.grownBy w' (some b):=by
 obtain ⟨v',rfl,hb',hg,hz,hp⟩:=ret
 obtain ⟨h1,h2,h3,h4⟩:=h.keepAdd hgb hb hg
 refine ⟨v',rfl,⟨by simpa using hb',?_,h2,h3,h4⟩,hg⟩
 by_cases hx:0 < x
 ·have hp':=hp hx ([g,b] ++ sv.ownBlock.toList) (h.inS hgb hb)
  rw [veil_size] at hp'
  exact { h1 with r0:=by show Spans _ _ _ (more T.category c x);unfold more;rw [if_pos hx];exact hp' }
 ·have hv:=hz (by omega)
  exact { h1 with r0:=by show Spans _ _ v' (more T.category c x);unfold more;rw [if_neg hx,hv];exact h1.r0 }
theorem KSt.add1 (h:KSt w g b n v t T sv st wr) (hgb:g < b) (hb:b < w.heap.size) {c x:Int} {e:Ending} (ret:RetAdd wr b 1 26 t.cells t.c1 T.cls c c x e w') :
  ∃ v',e=.returned (.tuple #[]) ∧ KSt w g b n v { t with c1:=v' } { T with cls:=more T.cls c x } sv st w' ∧ wr.grownBy w' (some b):=by
 obtain ⟨v',rfl,hb',hg,hz,hp⟩:=ret
 obtain ⟨h1,h2,h3,h4⟩:=h.keepAdd hgb hb hg
 refine ⟨v',rfl,⟨by simpa using hb',?_,h2,h3,h4⟩,hg⟩
 by_cases hx:0 < x
 ·have hp':=hp hx ([g,b] ++ sv.ownBlock.toList) (h.inS hgb hb)
  rw [veil_size] at hp'
  exact { h1 with r1:=by show Spans _ _ _ (more T.cls c x);unfold more;rw [if_pos hx];exact hp' }
 ·have hv:=hz (by omega)
  exact { h1 with r1:=by show Spans _ _ v' (more T.cls c x);unfold more;rw [if_neg hx,hv];exact h1.r1 }
theorem KSt.add2 (h:KSt w g b n v t T sv st wr) (hgb:g < b) (hb:b < w.heap.size) {c x:Int} {e:Ending} (ret:RetAdd wr b 2 26 t.cells t.c2 T.joining c c x e w') :
  ∃ v',e=.returned (.tuple #[]) ∧ KSt w g b n v { t with c2:=v' } { T with joining:=more T.joining c x } sv st w' ∧ wr.grownBy w' (some b):=by
 obtain ⟨v',rfl,hb',hg,hz,hp⟩:=ret
 obtain ⟨h1,h2,h3,h4⟩:=h.keepAdd hgb hb hg
 refine ⟨v',rfl,⟨by simpa using hb',?_,h2,h3,h4⟩,hg⟩
 by_cases hx:0 < x
 ·have hp':=hp hx ([g,b] ++ sv.ownBlock.toList) (h.inS hgb hb)
  rw [veil_size] at hp'
  exact { h1 with r2:=by show Spans _ _ _ (more T.joining c x);unfold more;rw [if_pos hx];exact hp' }
 ·have hv:=hz (by omega)
  exact { h1 with r2:=by show Spans _ _ v' (more T.joining c x);unfold more;rw [if_neg hx,hv];exact h1.r2 }
theorem KSt.add3 (h:KSt w g b n v t T sv st wr) (hgb:g < b) (hb:b < w.heap.size) {c x:Int} {e:Ending} (ret:RetAdd wr b 3 26 t.cells t.c3 T.bidi c c x e w') :
  ∃ v',e=.returned (.tuple #[]) ∧ KSt w g b n v { t with c3:=v' } { T with bidi:=more T.bidi c x } sv st w' ∧ wr.grownBy w' (some b):=by
 obtain ⟨v',rfl,hb',hg,hz,hp⟩:=ret
 obtain ⟨h1,h2,h3,h4⟩:=h.keepAdd hgb hb hg
 refine ⟨v',rfl,⟨by simpa using hb',?_,h2,h3,h4⟩,hg⟩
 by_cases hx:0 < x
 ·have hp':=hp hx ([g,b] ++ sv.ownBlock.toList) (h.inS hgb hb)
  rw [veil_size] at hp'
  exact { h1 with r3:=by show Spans _ _ _ (more T.bidi c x);unfold more;rw [if_pos hx];exact hp' }
 ·have hv:=hz (by omega)
  exact { h1 with r3:=by show Spans _ _ v' (more T.bidi c x);unfold more;rw [if_neg hx,hv];exact h1.r3 }
theorem KSt.add4 (h:KSt w g b n v t T sv st wr) (hgb:g < b) (hb:b < w.heap.size) {c x:Int} {e:Ending} (ret:RetAdd wr b 4 26 t.cells t.c4 T.script c c x e w') :
  ∃ v',e=.returned (.tuple #[]) ∧ KSt w g b n v { t with c4:=v' } { T with script:=more T.script c x } sv st w' ∧ wr.grownBy w' (some b):=by
 obtain ⟨v',rfl,hb',hg,hz,hp⟩:=ret
 obtain ⟨h1,h2,h3,h4⟩:=h.keepAdd hgb hb hg
 refine ⟨v',rfl,⟨by simpa using hb',?_,h2,h3,h4⟩,hg⟩
 by_cases hx:0 < x
 ·have hp':=hp hx ([g,b] ++ sv.ownBlock.toList) (h.inS hgb hb)
  rw [veil_size] at hp'
  exact { h1 with r4:=by show Spans _ _ _ (more T.script c x);unfold more;rw [if_pos hx];exact hp' }
 ·have hv:=hz (by omega)
  exact { h1 with r4:=by show Spans _ _ v' (more T.script c x);unfold more;rw [if_neg hx,hv];exact h1.r4 }
theorem KSt.add6 (h:KSt w g b n v t T sv st wr) (hgb:g < b) (hb:b < w.heap.size) {c x:Int} {e:Ending} (ret:RetAdd wr b 6 26 t.cells t.c6 T.ignorable c c x e w') :
  ∃ v',e=.returned (.tuple #[]) ∧ KSt w g b n v { t with c6:=v' } { T with ignorable:=more T.ignorable c x } sv st w' ∧ wr.grownBy w' (some b):=by
 obtain ⟨v',rfl,hb',hg,hz,hp⟩:=ret
 obtain ⟨h1,h2,h3,h4⟩:=h.keepAdd hgb hb hg
 refine ⟨v',rfl,⟨by simpa using hb',?_,h2,h3,h4⟩,hg⟩
 by_cases hx:0 < x
 ·have hp':=hp hx ([g,b] ++ sv.ownBlock.toList) (h.inS hgb hb)
  rw [veil_size] at hp'
  exact { h1 with r6:=by show Spans _ _ _ (more T.ignorable c x);unfold more;rw [if_pos hx];exact hp' }
 ·have hv:=hz (by omega)
  exact { h1 with r6:=by show Spans _ _ v' (more T.ignorable c x);unfold more;rw [if_neg hx,hv];exact h1.r6 }
theorem KSt.status (h:KSt w g b n v t T sv st wr) (hgb:g < b) (hb:b < w.heap.size) {Y:World} {sv':Value} {st':List Int}
  (ho:onlyIn [] wr Y) (hg:Y.grownBy w' sv.ownBlock) (hr:∀ q,sv'.ownBlock=some q → sv.ownBlock=some q ∨ q=Y.heap.size) (hS:w'.ownsRow w.heap.size 3 1 sv' st'.length (st'.map (Value.int .i64))) :
  KSt w g b n v t T sv' st' w':=by
 have hown:=h.own
 have hnot:∀ q,q < w.heap.size → some q ≠ sv.ownBlock:=fun q hq e => by have:=hown q e.symm;omega
 have k1:=onlyIn_reveil (S1:=[g,b] ++ sv.ownBlock.toList) (ho.more (S':=[g,b]) (by simp)) fun x hx => List.mem_append_left _ hx
 have k2:=grown_reveil (S:=[g,b]) (v:=sv) (v':=sv') hg hr
 refine ⟨(ho.blk h.blk (by simp)).grown hg (hnot b hb),((((h.tr.reveil k1).more ho.2.2.2.1).reveil k2)).more hg.size,hS,?_,?_⟩
 ·obtain ⟨i,h1,h2⟩:=h.src
  exact ⟨i,h1,(ho.blk h2 (by simp)).grown hg (hnot g (by omega))⟩
 ·have oX:=h.oi.trans (ho.more (S':=[g,b]) (by simp))
  exact ⟨hg.os.trans oX.1,hg.tape.trans oX.2.1,hg.output.trans oX.2.2.1,Nat.le_trans oX.2.2.2.1 hg.size,fun q hq hl => (hg.block q (by have:=oX.2.2.2.1;omega) (hnot q (by omega))).trans (oX.2.2.2.2 q hq hl)⟩
end
end Go.Proofs.YtjafpikjpipbkaaGreatDoor
namespace Go.Proofs.YtjafpikjpipbkaaGreatDoor
open Go.RowKit ND
end Go.Proofs.YtjafpikjpipbkaaGreatDoor
namespace Go.Proofs.YtjafpikjpipbkaaGreatDoor
open Go.RowKit ND
def wlitL:List Int:=[769,803,945,946,1072,1488,1576,1632,7680,7681,7682,19968,44032,8204,2381]
def wordL:List Int:=[97,98,109,110,111,114,48,120,121] ++ wlitL
def wordB (c:Int):Bool:=wordL.contains c
theorem wlit_mem:∀ c ∈ wlitL,wordB c=true:=by decide
def RetWord1 (w:World) (g:Nat) (v:Value) (n:Nat) (e:Ending) (w':World):Prop :=
 ∃ r:Int,e=.returned (.int .i64 r) ∧ wordB r=true ∧ Src w' g v n ∧ w.grownBy w' (some g)
theorem word_src (w:World) (g:Nat) (v:Value) (xs:List Int) (hv:Ints w g .i64 v xs) (hs:Src w g v xs.length) :
  Calls Tryz.prog 28 #[.pointer (some ⟨g,0,none⟩)] w (RetWord1 w g v xs.length):=by
 have hlt:=hs.lt
 go_enter Tryz.func28,Tryz.ntmps28
 go_wp2_with fail
 refine (next_src w g v xs 2 hv hs (by decide) (by decide)).mono ?_
 rintro e w2 ⟨r,rfl,hr0,hr1,hs2,hg2⟩
 have hv2:=hv.grown hg2 hlt
 have hc2:r=0 ∨ 1 ≤ r ∧ (r == 0)=false:=by
  have:r=0 ∨ 1 ≤ r:=by omega
  rcases this with h | h
  ·exact .inl h
  ·exact .inr ⟨h,beq_eq_false_iff_ne.2 (by omega)⟩
 rcases hc2 with rfl | ⟨h5,q0⟩
 ·go_wp2_with fail
  refine (next_src w2 g v xs 9 hv2 hs2 (by decide) (by decide)).mono ?_
  rintro e w3 ⟨s,rfl,hs0,hs1',hs3,hg3⟩
  have hG3:=grown_trans hg2 hg3
  have h12:s=0 ∨ s=1 ∨ s=2 ∨ s=3 ∨ s=4 ∨ s=5 ∨ s=6 ∨ s=7 ∨ s=8:=by omega
  clear hs0 hs1' hg3 hv2 hs2 hg2 hv hs
  rcases h12 with rfl | rfl | rfl | rfl | rfl | rfl | rfl | rfl | rfl
  all_goals
   go_wp2_with fail
   go_ret
   exact ⟨_,rfl,by first | decide +kernel | kernel_rfl | rfl,hs3,hG3⟩
 ·go_wp2_with fail
  have hg':=grown_alloc w2 (.cells #[.int .i64 769,.int .i64 803,.int .i64 945,.int .i64 946,.int .i64 1072,.int .i64 1488,.int .i64 1576,.int .i64 1632,.int .i64 7680,.int .i64 7681,.int .i64 7682,.int .i64 19968,.int .i64 44032,.int .i64 8204,.int .i64 2381] 3) (some g)
  refine (next_src _ g v xs 15 (hv2.grown hg' hs2.lt) (hs2.alloc _) (by decide) (by decide)).mono ?_
  rintro e w3 ⟨s,rfl,hs0,hs1',hs3,hg3⟩
  have hG3:=grown_trans hg2 (grown_trans hg' hg3)
  have hk:=cell_kept w2.heap.size (cells_new w2 [.int .i64 769,.int .i64 803,.int .i64 945,.int .i64 946,.int .i64 1072,.int .i64 1488,.int .i64 1576,.int .i64 1632,.int .i64 7680,.int .i64 7681,.int .i64 7682,.int .i64 19968,.int .i64 44032,.int .i64 8204,.int .i64 2381] 3) hg3 (by simp) (by have:=hs2.lt;omega)
  obtain ⟨m,rfl⟩:=Int.eq_ofNat_of_zero_le hs0
  have hm:m < wlitL.length:=by show m < 15;omega
  obtain ⟨x,hx,hxm⟩:=get_of hm
  have k0:=hk m (.int .i64 x) (by
   have h:(wlitL.map (Value.int .i64))[m]?=some (.int .i64 x):=by rw [List.getElem?_map,hx];rfl
   exact h)
  have hsx:=Lib.hid (wlit_mem x hxm)
  clear hk hx hxm hg3 hg'
  go_wp2_with fail
  go_ret
  exact ⟨_,rfl,hsx.out,hs3,hG3⟩
end Go.Proofs.YtjafpikjpipbkaaGreatDoor
