/-
  The law namedesklaw3.PackedPut returns true for every input of bulk at most 1048576; each argument reads afterwards as before. Condition: the bound that the statement bears.
-/
import Derived.Test.YtmbphpocbajlmaaLaw
import Derived.Test.YtmbphpocbajlmaaBase
import Derived.Test.YtmbphpocbajlmaaBulk
import Derived.Test.YtmbphpocbajlmaaL3Put
import Derived.JoinedCond
namespace Go.Proofs.Ytmbphpocbajlmaa.packedPutUpto
open Go.ChangeShapes Go.WideShapes Go.ChangeAt Go.RowKit
open Go.ChangeMaps (open_string shut_string)

theorem contract (H : Type) (enc : TypeId × Value → H) (W : World) (base : Nat) (args : Array Value) (ds gs : List (DataW H)) (before : List MemPlace)
    (hval0 : ∀ (j : Nat) t v, Try.f9.params[j]? = some t → args[j]? = some v → Value.okWide Try.prog W .any base t v)
    (hW : DataW.Whole enc Try.prog Try.f9.params.toList Rows.packedPutSpec.vars false W args.toList ds gs before) (hk : Rows.uptoSmall H (ds ++ gs) = true) :
    Calls Try.prog 9 args W fun e W' => ∃ v, e = .returned v ∧ Rows.packedPutSpec.post enc Try.prog Try.f9 false true false false W args v W' := by
  have hbk := bulks.bound hk
  have hval := hval0
  have hW' := hW
  obtain ⟨p, q, hA0, hV, rfl, hfz, hnd⟩ := hW
  have hA : DataW.TrodAll enc Try.prog W 0 (fun _ => true) true Try.f9.params.toList args.toList ds p := hA0
  have hlt0 : ∀ x ∈ p ++ q, x.block < W.heap.size := fun x hx => by simpa using hW'.lt x hx
  rw [Try.params9] at hA hval
  obtain ⟨v0, vs0, d0, ds0, p0, q0, hargs, rfl, rfl, h0, r0⟩ := trodAll_cons hA
  obtain ⟨v1, vs1, d1, ds1, p1, q1, rfl, rfl, rfl, h1, r1⟩ := trodAll_cons r0
  obtain ⟨v2, vs2, d2, ds2, p2, q2, rfl, rfl, rfl, h2, r2⟩ := trodAll_cons r1
  obtain ⟨v3, vs3, d3, ds3, p3, q3, rfl, rfl, rfl, h3, r3⟩ := trodAll_cons r2
  obtain ⟨v4, vs4, d4, ds4, p4, q4, rfl, rfl, rfl, h4, r4⟩ := trodAll_cons r3
  obtain ⟨rfl, rfl, rfl⟩ := trodAll_nil r4
  obtain rfl : args = #[v0, v1, v2, v3, v4] := by cases args; simp_all
  obtain ⟨rfl, rfl⟩ := trodVars_none hV
  clear hA0 hval0
  obtain ⟨a0, rfl, rfl, rfl, w0⟩ := open_string Try.underlying9 (hval 0 9 v0 rfl rfl) h0
  have s0 : a0.size ≤ 1048576 := by
    have h1 := bulks.part_le (d := DataW.lit (H := H) (.string a0.data.toList)) (l := [.lit (.string a0.data.toList), d1, d2, d3, d4] ++ []) (by simp)
    rw [bulks.string_eq, Array.length_toList] at h1
    have e : a0.data.size = a0.size := rfl
    omega
  obtain ⟨a1, rfl, rfl, rfl, w1⟩ := open_int Try.underlying3 (hval 1 3 v1 rfl rfl) h1
  have lt2 : ∀ x ∈ p2, x.block < W.heap.size := fun x hx => hlt0 x (by simp [hx])
  obtain ⟨xs2, i2, w2, z2⟩ := open_intslice Try.underlying35 Try.underlying3 (by kernel_rfl) (hval 2 35 v2 rfl rfl) h2 lt2
  have s2 : xs2.length ≤ 1048576 := by
    have h1 := bulks.part_le (d := d2) (l := [.lit (.string a0.data.toList), .lit (.int .i64 a1), d2, d3, d4] ++ []) (by simp)
    rcases z2 with ⟨_, hz⟩ | ⟨es, sp, rfl, hz⟩
    · omega
    · have h2 := bulks.slice_le es sp
      omega
  have lt3 : ∀ x ∈ p3, x.block < W.heap.size := fun x hx => hlt0 x (by simp [hx])
  obtain ⟨xs3, i3, w3, z3⟩ := open_spans Try.underlying43 Try.underlying60 (by kernel_rfl) (by kernel_rfl) rfl rfl rfl Try.underlying3 (hval 3 43 v3 rfl rfl) h3 lt3
  have s3 : xs3.length ≤ 1048576 := by
    have h1 := bulks.part_le (d := d3) (l := [.lit (.string a0.data.toList), .lit (.int .i64 a1), d2, d3, d4] ++ []) (by simp)
    rcases z3 with ⟨_, hz⟩ | ⟨es, sp, rfl, hz⟩
    · omega
    · have h2 := bulks.slice_le es sp
      omega
  obtain ⟨a4, rfl, rfl, rfl, w4⟩ := open_int Try.underlying3 (hval 4 3 v4 rfl rfl) h4
  refine (PackedPut_walk W a0 s0 a1 (int_in w1) v2 xs2 i2 (fun x hx => int_in (w2 x hx)) s2 v3 xs3 i3 s3 a4 (int_in w4)).mono fun e W' ⟨he, hb⟩ => ?_
  subst he
  exact ⟨_, rfl, law_post Try.laidOut_ (by decide +kernel) rfl Try.underlying4 rfl hW' rfl hb⟩

set_option maxRecDepth 100000 in
theorem lifted (os : Os) (started : os.Started) (H : Type) (enc : TypeId × Value → H) (F : Stop.Interp) :
    ReturnsInHanded {} Try.checked os 9 .any ((Rows.OpenSpec.upto Rows.packedPutSpec).pre6 enc Try.prog Try.f9 Rows.packedPutUptoRow.domain false) (((Rows.OpenSpec.upto Rows.packedPutSpec).at F).post enc Try.prog Try.f9 false true false false) := by
  refine returnsInHanded_of_cond (C := Try.checked) (s := Rows.OpenSpec.upto Rows.packedPutSpec) (k := Rows.uptoSmall) rfl Try.own_ started (by kernel_rfl) Try.func9
    (OpenSpec.witness (enc := enc) (C := Try.checked) (s := Rows.OpenSpec.upto Rows.packedPutSpec) (k := Rows.uptoSmall) rfl false ⟨#[], #[.string ByteArray.empty, .int .i64 0, .slice none 0 0, .slice none 0 0, .int .i64 0], []⟩ 8 (by kernel_rfl) (by kernel_rfl) (by kernel_rfl)
      (x := ([.lit (.string []), .lit (.int .i64 0), .nil, .nil, .lit (.int .i64 0)], [], [])) (by kernel_rfl) rfl (by kernel_rfl)) ?_
  intro W base args ds gs before hval hW _ hk _
  exact contract H enc W base args ds gs before hval hW hk

theorem proved : Rows.PackedPutUptoSaid :=
  OpenClaim.holds_of_cond 9 Try.f9 rfl rfl rfl rfl rfl rfl rfl ⟨rfl, rfl, rfl, rfl, rfl⟩ rfl rfl rfl rfl rfl (by kernel_rfl) Try.func9 (by kernel_rfl)
    (of_decide_eq_true (by kernel_rfl)) (by unfold Func.isWrapper; first | (rw [if_pos (by decide +kernel)]; kernel_rfl) | (rw [if_neg (by decide +kernel)]; exact ⟨rfl, rfl⟩))
    (fun os started H enc _ F => lifted os started H enc F)
end Go.Proofs.Ytmbphpocbajlmaa.packedPutUpto
