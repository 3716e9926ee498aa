/-
  The walks through table.last and table.Composable.
-/
import Derived.Test.YtkdhldhbjomiaaaDoorTabR6c
import Derived.Test.YtkdhldhbjomiaaaDoorQuiet
import Derived.Deep.LoopGhost
import Derived.BigQuiet
namespace Go.Proofs.YtkdhldhbjomiaaaDoor
open Go.RowKit ND

theorem quiet_t {P : Program} {f : FuncId} {args : Array Value} {w : World} {d : Nat} {os : Array Obj} {v : Value} (h : ∀ W, Below w.heap.size w W → Calls P f args W fun e w' => e = .returned v ∧ Below W.heap.size W w') :
    Calls P f args (Go.Sort.grow (redrawn w d) os) fun e w'' => e = .returned v ∧ ∃ p : Regrown, w'' = Go.Sort.grow (redrawn w p.d) p.os := Calls.regrown_of (h _ (below_regrown w d os))
theorem getLastD_app {a b : List Int} (h : b ≠ []) : (a ++ b).getLastD 0 = b.getLastD 0 := by
  rw [List.getLastD_eq_getLast?, List.getLastD_eq_getLast?, List.getLast?_append]
  cases hb : b.getLast? with
  | none => exact absurd (List.getLast?_eq_none_iff.1 hb) h
  | some x => rfl
theorem snoc_of {l : List Int} {n : Nat} (h : l.length = n + 1) : ∃ a z, l = a ++ [z] ∧ l[n]? = some z := by
  refine ⟨l.take n, l[n]'(by omega), ?_, List.getElem?_eq_getElem (by omega)⟩
  have h1 : l.take (n + 1) = l := List.take_of_length_le (by omega)
  rw [← take_snoc' (List.getElem?_eq_getElem (show n < l.length by omega)), h1]
theorem lastF_step {D : List Mp} {k : Nat} {c : Int} {n : Nat} (hl : (findL D c).length = n + 1) (hf : fin D (k + 1) c = true) : ∃ z, (findL D c)[n]? = some z ∧ lastF D (k + 1) c = lastF D k z ∧ fin D k z = true := by
  obtain ⟨a, z, he, hz⟩ := snoc_of hl
  have hne : findL D c ≠ [] := fun e => by rw [e] at hl; cases hl
  refine ⟨z, hz, ?_, ?_⟩
  · unfold lastF
    rw [expF_some hne, he, List.flatMap_append, List.flatMap_cons, List.flatMap_nil, List.append_nil, getLastD_app (expF_ne D k z)]
  · rw [fin_succ hne, he, List.all_append, Bool.and_eq_true] at hf
    simpa using hf.2
theorem lastF_none {D : List Mp} {k : Nat} {c : Int} (h : findL D c = []) : lastF D k c = c := by unfold lastF; rw [expF_none h]; rfl

set_option maxRecDepth 100000 in
set_option maxHeartbeats 2000000 in
theorem last_any (t : Tv) (T : Tab) (hs : sortM T.decomps) (hne : ∀ m ∈ T.decomps, m.2 ≠ [] ∧ m.2.length ≤ 1000) (hlen : T.decomps.length ≤ 256) (f : Nat) (c : Int) (w : World) (ht : TabR w w.heap.size t T) (hf : fin T.decomps f c = true) :
    Calls Tryd.prog 133 #[t.val, .int .i64 c] w fun e w' => e = .returned (.int .i64 (lastF T.decomps f c)) ∧ Below w.heap.size w w' := by
  obtain ⟨tc, htc⟩ : ∃ tc, tc = t.cells := ⟨_, rfl⟩
  have HT := Lib.hid (fun W (h : Below w.heap.size w W) => (ht.later h).r9)
  obtain ⟨A0, A1, A2, A3, A4, A5, A6, A7, A8, A9, A10, A11, k0, k1, k2, k3, k4, k5, k6, k7, k8, k9, k10, k11, rfl⟩ := ht.shape
  have HF := Lib.hid (fun c W (h : Mapps W W.heap.size (.slice A9 T.decomps.length k9) T.decomps) => find_any _ T.decomps c W h hs (fun m hm => (hne m hm).1) hlen)
  have HNL := Lib.hid (fun x => findL_len (c := x) (fun m hm => (hne m hm).2))
  have HTC := Lib.hid htc
  have hnq := fun (w : World) (a : Option Addr) (n c : Nat) => run_neq_slice_nil_any (P := Tryd.prog) w 24 3 a n c 0 0 Tryd.underlying24
  clear ht htc hs hne
  have HFC := Lib.hid hf
  obtain ⟨R, hR⟩ : ∃ R, R = lastF T.decomps f c := ⟨_, rfl⟩
  rw [← hR]
  have HR := Lib.hid hR.symm
  clear hR hf
  go_enter Tryd.func133, Tryd.ntmps133
  go_wp2_with fail
  have HB0 := Lib.hid (show Blk (w.alloc (.cells #[.slice A0 T.category.length k0, .slice A1 T.cls.length k1, .slice A2 T.joining.length k2, .slice A3 T.bidi.length k3, .slice A4 T.script.length k4, .slice A5 T.status.length k5, .slice A6 T.ignorable.length k6, .slice A7 T.extensions.length k7, .slice A8 T.maps.length k8, .slice A9 T.decomps.length k9, .slice A10 T.excluded.length k10, .slice A11 T.prototypes.length k11] 26)) w.heap.size 26 tc from by rw [HTC.out]; exact Blk.new _ _ _)
  refine (HF.out c _ (HT.out _ ((Below.refl _ _).alloc (Nat.le_refl _) _))).mono ?_
  rintro e w1 ⟨u, rfl, hu, hun, b1⟩
  have HB1 := Lib.hid (HB0.out.later b1)
  have hbel1 := below_next ((Below.refl _ _).alloc (Nat.le_refl _) _) b1
  have HU := Lib.hid hu
  have HUN := Lib.hid hun
  clear hu hun HB0 b1
  go_wp2_with fail
  go_loopg [1, 5] f (fun k cv lv wr => ∃ (c' : Int), cv = .int .i64 c' ∧ Hid (Ints wr wr.heap.size .i64 lv (findL T.decomps c') ∧ (findL T.decomps c' = [] → lv = .slice none 0 0) ∧ fin T.decomps k c' = true ∧ lastF T.decomps k c' = R) ∧ Below w.heap.size w wr ∧ Hid (Blk wr w.heap.size 26 tc))
  case atStart => exact ⟨c, rfl, Lib.hid ⟨HU.out, HUN.out, HFC.out, HR.out⟩, hbel1, HB1⟩
  case round =>
    obtain ⟨c', rfl, HS, hbel, HB⟩ := hrel
    clear HU HUN HFC HR hbel1 HB1
    obtain ⟨hi, hin, hfc, hla⟩ := HS.out
    rcases nilB_ways hi hin with ⟨hn, rfl⟩ | ⟨hn, ad, cu, rfl⟩
    · have HN := Lib.hid ((lastF_none (k := gk) hn).symm.trans hla)
      clear hi hin hfc hla hn HS
      go_wp2_with fail
      go_ret
      rw [HN.out]
      exact ⟨rfl, hbel⟩
    · obtain ⟨k', rfl⟩ : ∃ k', gk = k' + 1 := by
        cases gk with
        | zero => rw [fin_zero, decide_eq_true_eq] at hfc; exact absurd hfc hn
        | succ k' => exact ⟨k', rfl⟩
      have hlen1 := HNL.out c'
      have hpos := length_pos_ne hn
      obtain ⟨n, hnl⟩ : ∃ n, (findL T.decomps c').length = n + 1 := ⟨(findL T.decomps c').length - 1, by omega⟩
      obtain ⟨z, hz, hlz, hfz⟩ := lastF_step hnl hfc
      obtain ⟨ad', cu', he, hau, _, _, hcell⟩ := hi.some_ hn
      cases he
      have e0 := hcell n z hz
      have HZ := Lib.hid (And.intro hfz (hlz.symm.trans hla))
      have hw2 : ((findL T.decomps c').length : Int) - 1 = n := by omega
      have s0 : (0 : Int) ≤ (n : Int) := by omega
      have s1 : (n : Int) < ((findL T.decomps c').length : Int) := by omega
      have x9 := (show Blk _ _ _ #[_, _, _, _, _, _, _, _, _, _, _, _] from by have h := HB.out; rw [HTC.out] at h; exact h).at_ (i := 9) rfl
      have HCA := Lib.hid (HF.out z _ (HT.out _ hbel))
      generalize (findL T.decomps c').length = ln at *
      clear hi hin hfc hla hn HS hz hlz hfz hcell hpos hnl
      go_wp2_with fail
      refine HCA.out.mono ?_
      rintro e w2 ⟨u, rfl, hu, hun, b2⟩
      have HU := Lib.hid (And.intro hu hun)
      have HB2 := Lib.hid (HB.out.later b2)
      clear hu hun x9 e0 HB hnq
      go_wp2_with fail
      go_roundg k'
      case measure => omega
      case rel => exact ⟨z, rfl, Lib.hid ⟨HU.out.1, HU.out.2, HZ.out.1, HZ.out.2⟩, below_next hbel b2, HB2⟩
end Go.Proofs.YtkdhldhbjomiaaaDoor
