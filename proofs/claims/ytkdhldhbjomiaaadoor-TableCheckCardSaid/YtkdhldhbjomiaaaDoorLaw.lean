/-
  What every law's row asks of the call, once the walk is there: the call returns true, and below the old heap nothing has turned; so each argument reads as it read.
-/
import Derived.Test.YtkdhldhbjomiaaaDoorRows
import Derived.WalkKit
import Derived.ProofKit
import Derived.OpenShut
import Derived.ShutString
import Derived.SizedLaws
namespace Go.Proofs.YtkdhldhbjomiaaaDoor
open Go.ChangeShapes Go.WideShapes Go.ChangeAt Go.RowKit

theorem Tryd.own_ : ownKnob Tryd.prog.godebug = none := by kernel_rfl
theorem Tryd.laidOut_ : laidOutB Tryd.prog = true := by kernel_rfl

section
variable {H : Type} {enc : TypeId × Value → H} {P : Program} {W W' : World}

theorem trodAll_below (hl : laidOutB P = true) (hb : Below W.heap.size W W') : ∀ (ts : List TypeId) (vs : List Value) (ds : List (DataW H)) (ps : List MemPlace),
    (∀ t ∈ ts, P.readableRec t = true ∧ t < P.types.size) → (∀ x ∈ ps, x.block < W.heap.size) →
    DataW.TrodAll enc P W 0 (fun _ => true) true ts vs ds ps → DataW.TrodAll enc P W' 0 (fun b => decide (b < W.heap.size)) true ts vs ds ps
  | [], [], [], _, _, _, h => h
  | t :: ts, v :: vs, d :: ds, ps, hk, hlt, h => by
    obtain ⟨p, q, hp, hq, rfl⟩ := h
    have ht := hk t (by simp)
    exact ⟨p, q, Below.trod hl ht.1 ht.2 hp hb (fun x hx => hlt x (by simp [hx])),
      trodAll_below hl hb ts vs ds q (fun t h => hk t (by simp [h])) (fun x hx => hlt x (by simp [hx])) hq, rfl⟩
  | [], _ :: _, _, _, _, _, h => by simp [DataW.TrodAll] at h
  | [], [], _ :: _, _, _, _, h => by simp [DataW.TrodAll] at h
  | _ :: _, [], _, _, _, _, h => by simp [DataW.TrodAll] at h
  | _ :: _, _ :: _, [], _, _, _, h => by simp [DataW.TrodAll] at h

theorem law_post {f : Func} {s : ChangeSpec} {tb : TypeId} {args : Array Value} {ds : List (DataW H)} {before : List MemPlace} (hl : laidOutB P = true)
    (hk : ∀ t ∈ f.params.toList, P.readableRec t = true ∧ t < P.types.size) (hres : f.resultTypes = #[tb]) (hbool : P.underlying tb = some .bool) (hvars : s.vars = [])
    (hW : DataW.Whole enc P f.params.toList s.vars false W args.toList ds [] before) (hfn : s.fn H (ds ++ []) = { results := [.lit (.bool true)], args := ds })
    (hb : Below W.heap.size W W') : s.post enc P f false true false false W args (.bool true) W' := by
  have hlt : ∀ x ∈ before, x.block < W.heap.size := fun x hx => hW.lt x hx
  have hW' := hW
  obtain ⟨p, q, hA, hV, rfl, _, _⟩ := hW'
  rw [hvars] at hV
  obtain ⟨_, rfl⟩ := trodVars_none hV
  refine ⟨ds, [], p ++ [], [], p, [], hW, ?_, ?_, ?_, hb.frame _, fun h => by cases h⟩
  · rw [hfn, hres]
    exact trodAll_cons_mk (shut_bool hbool true) trodAll_mk0
  · rw [hfn]
    exact trodAll_below hl hb _ _ _ _ hk (fun x hx => hlt x (by simp [hx])) hA
  · rw [hfn, hvars]; rfl
end
end Go.Proofs.YtkdhldhbjomiaaaDoor
