/-
  The law namedesklaw1.UtfConcatenation returns true for every input; each argument reads afterwards as before. Condition: none.
-/
import Derived.Test.YtmbphpocbajlmaaLaw
import Derived.Test.YtmbphpocbajlmaaBase
import Derived.Test.YtmbphpocbajlmaaL1Concat
namespace Go.Proofs.Ytmbphpocbajlmaa.utfConcatenation
open Go.ChangeShapes Go.WideShapes Go.ChangeAt Go.RowKit
open Go.ChangeMaps (open_string shut_string)

set_option maxRecDepth 100000 in
theorem lifted (os : Os) (started : os.Started) (H : Type) (enc : TypeId × Value → H) :
    ReturnsInHanded {} Try.checked os 7 .any (Rows.utfConcatenationSpec.pre6 enc Try.prog Try.f7 Rows.utfConcatenationRow.domain false) (Rows.utfConcatenationSpec.post enc Try.prog Try.f7 false true false false) := by
  refine returnsInHanded_of_change_sized (C := Try.checked) Try.own_ started (by kernel_rfl) Try.func7
    (ChangeSpec.witness6 (enc := enc) (C := Try.checked) false ⟨#[], #[.slice none 0 0, .slice none 0 0], []⟩ 8 (by kernel_rfl) (by kernel_rfl) (by kernel_rfl) (by kernel_rfl)) ?_
  intro W base args ds gs before hval0 hW hcnd hsz0 _
  have hval : ∀ (j : Nat) t v, Try.f7.params[j]? = some t → args[j]? = some v → Value.okWide Try.prog W .any base t v := hval0
  have hsz : (DataW.weightsEach Try.prog (Try.f7.params.toList ++ Rows.utfConcatenationSpec.plain.varTypes Try.prog) (ds ++ gs)).all (· ≤ reachBytes) = true := hsz0
  have hW' := hW
  obtain ⟨p, q, hA0, hV, rfl, hfz, hnd⟩ := hW
  have hA : DataW.TrodAll enc Try.prog W 0 (fun _ => true) true Try.f7.params.toList args.toList ds p := hA0
  have hlt0 : ∀ x ∈ p ++ q, x.block < W.heap.size := fun x hx => by simpa using hW'.lt x hx
  rw [Try.params7] at hA hval hsz
  obtain ⟨v0, vs0, d0, ds0, p0, q0, hargs, rfl, rfl, h0, r0⟩ := trodAll_cons hA
  obtain ⟨v1, vs1, d1, ds1, p1, q1, rfl, rfl, rfl, h1, r1⟩ := trodAll_cons r0
  obtain ⟨rfl, rfl, rfl⟩ := trodAll_nil r1
  obtain rfl : args = #[v0, v1] := by cases args; simp_all
  obtain ⟨rfl, rfl⟩ := trodVars_none hV
  clear hA0 hval0 hsz0 hcnd
  have lt0 : ∀ x ∈ p0, x.block < W.heap.size := fun x hx => hlt0 x (by simp [hx])
  obtain ⟨xs0, i0, w0, z0⟩ := open_intslice Try.underlying35 Try.underlying3 (by kernel_rfl) (hval 0 35 v0 rfl rfl) h0 lt0
  have s0 : xs0.length * 8 ≤ 140737488351232 := len_in hsz (j := 0) rfl rfl Try.underlying35 (by kernel_rfl) z0
  have lt1 : ∀ x ∈ p1, x.block < W.heap.size := fun x hx => hlt0 x (by simp [hx])
  obtain ⟨xs1, i1, w1, z1⟩ := open_intslice Try.underlying35 Try.underlying3 (by kernel_rfl) (hval 1 35 v1 rfl rfl) h1 lt1
  have s1 : xs1.length * 8 ≤ 140737488351232 := len_in hsz (j := 1) rfl rfl Try.underlying35 (by kernel_rfl) z1
  refine (UtfConcatenation_walk W v0 xs0 i0 (fun x hx => int_in (w0 x hx)) s0 v1 xs1 i1 (fun x hx => int_in (w1 x hx)) s1).mono fun e W' ⟨he, hb⟩ => ?_
  subst he
  exact ⟨_, rfl, law_post Try.laidOut_ (by decide +kernel) rfl Try.underlying4 rfl hW' rfl hb⟩

theorem proved : Rows.UtfConcatenationSaid :=
  OpenClaim.holds_of_wide 7 Try.f7 rfl rfl rfl rfl rfl rfl rfl ⟨rfl, rfl, rfl, rfl, rfl⟩ rfl rfl rfl rfl rfl (by kernel_rfl) Try.func7 (by kernel_rfl)
    (of_decide_eq_true (by kernel_rfl)) (by unfold Func.isWrapper; first | (rw [if_pos (by decide +kernel)]; kernel_rfl) | (rw [if_neg (by decide +kernel)]; exact ⟨rfl, rfl⟩))
    (fun os started H enc _ => lifted os started H enc)
end Go.Proofs.Ytmbphpocbajlmaa.utfConcatenation
