/-
  The example of chapter 1, and 'agrees'.
-/
import Derived.Test.YtmbphpocbajlmaaUtfH
import Derived.Test.YtmbphpocbajlmaaSame
namespace Go.Proofs.Ytmbphpocbajlmaa
open Go.RowKit ND

/-- A slice literal. -/
theorem ints_new {k : IntKind} (w : World) (e : TypeId) (xs : List Int) (n : Nat) (cells : List Value) (hn : xs.length = n) (hm : n ≤ maxLen) (hc : cells = xs.map (Value.int k)) :
    Ints (w.alloc (.cells cells.toArray e)) (w.heap.size + 1) k (.slice (some ⟨w.heap.size, 0, none⟩) n n) xs := by
  subst hn; subst hc
  refine ⟨_, _, rfl, Nat.le_refl _, hm, (by intro h; cases h), fun i x hx => ⟨_, rfl, Nat.lt_succ_self _, ?_⟩⟩
  exact cells_new w _ e i _ (by rw [List.getElem?_map, hx]; rfl)

theorem dec_c1 (w : World) : Calls Try.prog 24 #[.string ⟨#[97, 204, 129]⟩] w (RetDec w ([97, 769], 0, 0)) := by
  have h := dec_any ⟨#[97, 204, 129]⟩ w
  have e : decodeL (⟨#[97, 204, 129]⟩ : ByteArray).data.toList = ([97, 769], 0, 0) := by decide +kernel
  rw [e] at h; exact h
theorem dec_c2 (w : World) : Calls Try.prog 24 #[.string ⟨#[97, 192, 128]⟩] w (RetDec w ([], 1, 9)) := by
  have h := dec_any ⟨#[97, 192, 128]⟩ w
  have e : decodeL (⟨#[97, 192, 128]⟩ : ByteArray).data.toList = ([], 1, 9) := by decide +kernel
  rw [e] at h; exact h

set_option maxRecDepth 100000 in
set_option maxHeartbeats 400000 in
theorem awake1 (w : World) : Calls Try.prog 25 #[] w fun e w' => e = .returned (.bool true) ∧ Below w.heap.size w w' := by
  go_enter Try.func25, Try.ntmps25
  go_wp2_with fail
  refine (dec_c1 _).mono ?_
  rintro e w1 ⟨v, rfl, hv, b1⟩
  have HV := Lib.hid hv; clear hv
  go_wp2_with fail
  refine (dec_c2 _).mono ?_
  rintro e w2 ⟨u, rfl, _, b2⟩
  have hv2 := Lib.hid (HV.out.later b2)
  clear HV
  go_wp2_with fail
  refine (same_any _ _ [97, 769] [97, 769] _ ((hv2.out.later ((Below.refl _ _).alloc (Nat.le_refl _) _))) ((ints_new w2 3 [97, 769] 2 _ rfl (by decide) rfl).more (by simp))).mono ?_
  rintro e w3 ⟨rfl, b3⟩
  have b4 := below_next b1 (below_next b2 (below_next ((Below.refl _ w2).alloc (Nat.le_refl _) _) b3))
  clear b1 b2 b3
  go_wp2_with fail
  go_ret
  exact ⟨by simp, b4⟩

set_option maxRecDepth 100000 in
set_option maxHeartbeats 400000 in
theorem agrees1 (s : ByteArray) (w : World) (hs : s.size ≤ 2097152) : Calls Try.prog 27 #[.string s] w fun e w' => e = .returned (.bool true) ∧ Below w.heap.size w w' := by
  have h1 := Lib.hid (fun W => dec_any s W)
  have h2 := Lib.hid (fun W => refDec_any s W)
  have h3 := Lib.hid (fun W => decValid_any s W hs)
  have h4 := Lib.hid (fun W => refDecValid_any s W hs)
  generalize decodeL s.data.toList = r at *
  generalize ((((scanL s.data.toList).2 : Nat) : Int) == (s.size : Int)) = b at *
  obtain ⟨cs, i, e⟩ := r
  go_enter Try.func27, Try.ntmps27
  go_wp2_with fail
  refine (h1.out _).mono ?_
  rintro e w1 ⟨v, rfl, hv, b1⟩
  have HV := Lib.hid hv; clear hv
  go_wp2_with fail
  refine (h2.out _).mono ?_
  rintro e w2 ⟨u, rfl, hu, b2⟩
  have hv2 := Lib.hid (HV.out.later b2)
  have HU := Lib.hid hu; clear hu
  clear HV
  go_wp2_with fail
  refine (same_any _ _ _ _ _ hv2.out HU.out).mono ?_
  rintro e w3 ⟨rfl, b3⟩
  simp only [decide_true]
  go_wp2_with fail
  refine (h3.out _).mono ?_
  rintro e w4 ⟨rfl, b4⟩
  go_wp2_with fail
  refine (h4.out _).mono ?_
  rintro e w5 ⟨rfl, b5⟩
  have b6 := below_next b1 (below_next b2 (below_next b3 (below_next b4 b5)))
  clear b1 b2 b3 b4 b5 HU hv2
  go_wp2_with fail
  go_ret
  exact ⟨by simp, b6⟩
end Go.Proofs.Ytmbphpocbajlmaa
