/-
  One integer is appended, at a step of a region that draws its order: a law for go_region_law.
-/
import Derived.Test.YtmbphpocbajlmaaMem
import Derived.Deep.RegionLaw
import Derived.Deep.AppendLies
namespace Go.Proofs.Ytmbphpocbajlmaa
open Go.RowKit

theorem step_push_int {P : Program} {ops : Array Oper} {o : Oper} {a : Act} {W w : World} {K : Act → World → Prop} {Q : Exit → Act → World → Prop} {E : Prop} {T e : TypeId} {i0 : TypeInfo} (hgd : o.guard = none) (s x : Operand)
    (ho : o.op = .call { callee := .builtin .append, args := #[s, x], argTypes := #[T, T] }) (ht : P.underlying T = some (.slice e)) (hi : P.info? e = some i0) (hz : i0.zero = some (.int .i64 0)) (h1 : i0.size = 1) (h2 : i0.bytes = 8)
    (v : Value) (acc : List Int) (y : Int) (hs : a.eval s = v) (hown : w.ownsRow W.heap.size e 1 v acc.length (acc.map (Value.int .i64))) (hbel : Below W.heap.size W w) (hx : a.eval x = .slice (some ⟨w.heap.size, 0, none⟩) 1 1) (hl : acc.length ≤ 1000000)
    (h : ∀ v' w', w'.ownsRow W.heap.size e 1 v' (acc ++ [y]).length ((acc ++ [y]).map (Value.int .i64)) → Below W.heap.size W w' → K (a.put o.dst v') w') :
    if Region.wanted o (yielded ops a.tmps) = true then Oper.wp P o a ((w.alloc (.cells #[.int .i64 y] e)).drew) K Q else E := by
  refine step_append_lies _ hgd s x T ho W.heap.size e i0 (.int .i64 0) 1 8 ht hi hz h1 h2 rfl (by omega) v acc.length (acc.map (Value.int .i64)) hs ((hown.alloc _).drew) ⟨w.heap.size, 0, none⟩ 1 1 [.int .i64 y] hx rfl
    (World.news_of_block (cs := #[.int .i64 y]) (t := e) (fr := (0, 0)) (heap_alloc_new w _)) (by simp [Value.oneCell']) (by omega) (by unfold maxLen; omega) (by omega) (by have := hbel.size; simp; omega) _ rfl ?_
  intro g cap w1 hown1 hgrow hat hlt
  refine h _ _ (by simpa using hown1) ?_
  refine ((hbel.alloc hbel.size _).drew).grown hgrow ?_ ?_
  · have := hbel.size; simp; omega
  · intro k hk
    exact (hown.lt k hk).1
end Go.Proofs.Ytmbphpocbajlmaa
