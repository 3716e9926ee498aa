/-
  The law namedesklaw1.UtfDecode returns true for every input of bulk at most 1048576; each argument reads afterwards as before. Condition: the bound that the statement bears.
-/
import Derived.Test.YtmbphpocbajlmaaLaw
import Derived.Test.YtmbphpocbajlmaaBase
import Derived.Test.YtmbphpocbajlmaaBulk
import Derived.Test.YtmbphpocbajlmaaL1Decode
import Derived.JoinedCond
namespace Go.Proofs.Ytmbphpocbajlmaa.utfDecodeUpto
open Go.ChangeShapes Go.WideShapes Go.ChangeAt Go.RowKit
open Go.ChangeMaps (open_string shut_string)

theorem contract (H : Type) (enc : TypeId × Value → H) (W : World) (base : Nat) (args : Array Value) (ds gs : List (DataW H)) (before : List MemPlace)
    (hval0 : ∀ (j : Nat) t v, Try.f8.params[j]? = some t → args[j]? = some v → Value.okWide Try.prog W .any base t v)
    (hW : DataW.Whole enc Try.prog Try.f8.params.toList Rows.utfDecodeSpec.vars false W args.toList ds gs before) (hk : Rows.uptoSmall H (ds ++ gs) = true) :
    Calls Try.prog 8 args W fun e W' => ∃ v, e = .returned v ∧ Rows.utfDecodeSpec.post enc Try.prog Try.f8 false true false false W args v W' := by
  have hbk := bulks.bound hk
  have hval := hval0
  have hW' := hW
  obtain ⟨p, q, hA0, hV, rfl, hfz, hnd⟩ := hW
  have hA : DataW.TrodAll enc Try.prog W 0 (fun _ => true) true Try.f8.params.toList args.toList ds p := hA0
  have hlt0 : ∀ x ∈ p ++ q, x.block < W.heap.size := fun x hx => by simpa using hW'.lt x hx
  rw [Try.params8] at hA hval
  obtain ⟨v0, vs0, d0, ds0, p0, q0, hargs, rfl, rfl, h0, r0⟩ := trodAll_cons hA
  obtain ⟨v1, vs1, d1, ds1, p1, q1, rfl, rfl, rfl, h1, r1⟩ := trodAll_cons r0
  obtain ⟨rfl, rfl, rfl⟩ := trodAll_nil r1
  obtain rfl : args = #[v0, v1] := by cases args; simp_all
  obtain ⟨rfl, rfl⟩ := trodVars_none hV
  clear hA0 hval0
  obtain ⟨a0, rfl, rfl, rfl, w0⟩ := open_string Try.underlying9 (hval 0 9 v0 rfl rfl) h0
  have s0 : a0.size ≤ 1048576 := by
    have h1 := bulks.part_le (d := DataW.lit (H := H) (.string a0.data.toList)) (l := [.lit (.string a0.data.toList), d1] ++ []) (by simp)
    rw [bulks.string_eq, Array.length_toList] at h1
    have e : a0.data.size = a0.size := rfl
    omega
  have lt1 : ∀ x ∈ p1, x.block < W.heap.size := fun x hx => hlt0 x (by simp [hx])
  obtain ⟨xs1, i1, w1, z1⟩ := open_intslice Try.underlying30 Try.underlying5 (by kernel_rfl) (hval 1 30 v1 rfl rfl) h1 lt1
  have s1 : xs1.length ≤ 1048576 := by
    have h1 := bulks.part_le (d := d1) (l := [.lit (.string a0.data.toList), d1] ++ []) (by simp)
    rcases z1 with ⟨_, hz⟩ | ⟨es, sp, rfl, hz⟩
    · omega
    · have h2 := bulks.slice_le es sp
      omega
  refine (UtfDecode_walk W a0 s0 v1 xs1 i1 (fun x hx => byte_in (w1 x hx)) s1).mono fun e W' ⟨he, hb⟩ => ?_
  subst he
  exact ⟨_, rfl, law_post Try.laidOut_ (by decide +kernel) rfl Try.underlying4 rfl hW' rfl hb⟩

set_option maxRecDepth 100000 in
theorem lifted (os : Os) (started : os.Started) (H : Type) (enc : TypeId × Value → H) (F : Stop.Interp) :
    ReturnsInHanded {} Try.checked os 8 .any ((Rows.OpenSpec.upto Rows.utfDecodeSpec).pre6 enc Try.prog Try.f8 Rows.utfDecodeUptoRow.domain false) (((Rows.OpenSpec.upto Rows.utfDecodeSpec).at F).post enc Try.prog Try.f8 false true false false) := by
  refine returnsInHanded_of_cond (C := Try.checked) (s := Rows.OpenSpec.upto Rows.utfDecodeSpec) (k := Rows.uptoSmall) rfl Try.own_ started (by kernel_rfl) Try.func8
    (OpenSpec.witness (enc := enc) (C := Try.checked) (s := Rows.OpenSpec.upto Rows.utfDecodeSpec) (k := Rows.uptoSmall) rfl false ⟨#[], #[.string ByteArray.empty, .slice none 0 0], []⟩ 8 (by kernel_rfl) (by kernel_rfl) (by kernel_rfl)
      (x := ([.lit (.string []), .nil], [], [])) (by kernel_rfl) rfl (by kernel_rfl)) ?_
  intro W base args ds gs before hval hW _ hk _
  exact contract H enc W base args ds gs before hval hW hk

theorem proved : Rows.UtfDecodeUptoSaid :=
  OpenClaim.holds_of_cond 8 Try.f8 rfl rfl rfl rfl rfl rfl rfl ⟨rfl, rfl, rfl, rfl, rfl⟩ rfl rfl rfl rfl rfl (by kernel_rfl) Try.func8 (by kernel_rfl)
    (of_decide_eq_true (by kernel_rfl)) (by unfold Func.isWrapper; first | (rw [if_pos (by decide +kernel)]; kernel_rfl) | (rw [if_neg (by decide +kernel)]; exact ⟨rfl, rfl⟩))
    (fun os started H enc _ F => lifted os started H enc F)
end Go.Proofs.Ytmbphpocbajlmaa.utfDecodeUpto
