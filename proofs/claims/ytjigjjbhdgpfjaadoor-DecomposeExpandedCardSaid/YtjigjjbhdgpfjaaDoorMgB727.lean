/-
  Merged texts: lemmas and walks that the last text of this claim leans on.
-/
import Derived.Test.YtjigjjbhdgpfjaaDoorMgB725
import Derived.Test.YtjigjjbhdgpfjaaDoorMgB77
import Derived.Test.YtjigjjbhdgpfjaaDoorMgB78
import Derived.Test.YtjigjjbhdgpfjaaDoorMgB71
import Derived.Test.YtjigjjbhdgpfjaaDoorMgB715
import Derived.Test.YtjigjjbhdgpfjaaDoorMgB716
import Derived.Test.YtjigjjbhdgpfjaaDoorMgB726
import Derived.Test.YtjigjjbhdgpfjaaDoorMgB724
import Derived.Test.YtjigjjbhdgpfjaaDoorMgB76
/-
  The walks through the reference's Parts and HangulDecompose.
-/
namespace Go.Proofs.YtjigjjbhdgpfjaaDoor
open Go.RowKit ND

theorem ret_four {a b c : Int} {x : Bool} {a' b' c' : Int} {x' : Bool} (h1 : a = a') (h2 : b = b') (h3 : c = c') (h4 : x = x') : Ending.returned (.tuple #[.int .i64 a, .int .i64 b, .int .i64 c, .bool x]) = .returned (.tuple #[.int .i64 a', .int .i64 b', .int .i64 c', .bool x']) := by rw [h1, h2, h3, h4]
set_option maxRecDepth 100000 in
set_option maxHeartbeats 1000000 in
theorem refParts_no (c : Int) (w : World) (h : sylB c = false) :
    Calls Tryd.prog 49 #[.int .i64 c] w fun e w' => e = .returned (.tuple #[.int .i64 0, .int .i64 0, .int .i64 0, .bool false]) ∧ w = w' := by
  have HY := Lib.hid (refSyl_any c)
  rw [h] at HY
  clear h
  go_enter Tryd.func49, Tryd.ntmps49
  go_wp2_with fail
  go_loop [6] (fun s6 => ∃ i : Nat, i ≤ 19 ∧ s6 = .int .i64 i ) (fun s6 => 19 - (intOf s6).toNat)
  case atStart => exact ⟨0, by omega, rfl⟩
  case round =>
    obtain ⟨i, hi, rfl⟩ := hrel
    by_cases hlt : i < 19
    · have i0 : (i : Int) < 19 := by omega
      have i1 : (0 : Int) ≤ (i : Int) := by omega
      go_wp2_with fail
      go_loop [7] (fun s7 => ∃ j : Nat, j ≤ 21 ∧ s7 = .int .i64 j ) (fun s7 => 21 - (intOf s7).toNat)
      case atStart => exact ⟨0, by omega, rfl⟩
      case round =>
        obtain ⟨j, hj, rfl⟩ := hrel
        by_cases hlt2 : j < 21
        · have j0 : (j : Int) < 21 := by omega
          have j1 : (0 : Int) ≤ (j : Int) := by omega
          go_wp2_with (go_at_call 73; refine (HY.out _).mono ?_; rintro e w2 ⟨rfl, rfl⟩)
          go_round
          case rel => exact ⟨j + 1, by omega, by go_num⟩
          case measure => simp [intOf]; omega
        · have j0 : ¬ (j : Int) < 21 := by omega
          go_wp2_with fail
          go_round
          case rel => exact ⟨i + 1, by omega, by go_num⟩
          case measure => simp [intOf]; omega
    · have i0 : ¬ (i : Int) < 19 := by omega
      go_wp2_with fail
      exact bodyPost_ret (v := .tuple #[.int .i64 0, .int .i64 0, .int .i64 0, .bool false]) (by simp [results, Tryd.results49, go_sem]) rfl ⟨rfl, rfl⟩
set_option maxRecDepth 100000 in
set_option maxHeartbeats 1000000 in
theorem refParts_yes (c : Int) (w : World) (h : sylB c = true) :
    Calls Tryd.prog 49 #[.int .i64 c] w fun e w' => e = .returned (.tuple #[.int .i64 ((c - 44032) / 28 / 21), .int .i64 ((c - 44032) / 28 % 21), .int .i64 ((c - 44032) % 28), .bool true]) ∧ w = w' := by
  have HY := Lib.hid (refSyl_any c)
  rw [h] at HY
  rw [sylB_iff] at h
  obtain ⟨h1, h2⟩ := h
  obtain ⟨q, hq⟩ : ∃ q, (c - 44032) / 28 = q := ⟨_, rfl⟩
  have hr : (c - 44032) % 28 = c - 44032 - q * 28 := by omega
  have hq0 : 0 ≤ q := by omega
  have hq1 : q ≤ 398 := by omega
  have hq2 : q * 28 ≤ c - 44032 := by omega
  have hq3 : c - 44032 < q * 28 + 28 := by omega
  have HR := Lib.hid hr
  rw [hq, HR.out]
  clear hr hq
  go_enter Tryd.func49, Tryd.ntmps49
  go_wp2_with fail
  go_loop [6] (fun s6 => ∃ i : Nat, i ≤ 19 ∧ s6 = .int .i64 i ∧ 21 * (i : Int) ≤ q) (fun s6 => 19 - (intOf s6).toNat)
  case atStart => exact ⟨0, by omega, rfl, by simpa using hq0⟩
  case round =>
    obtain ⟨i, hi, rfl, hiq⟩ := hrel
    by_cases hlt : i < 19
    · have i0 : (i : Int) < 19 := by omega
      have i1 : (0 : Int) ≤ (i : Int) := by omega
      go_wp2_with fail
      go_loop [7] (fun s7 => ∃ j : Nat, j ≤ 21 ∧ s7 = .int .i64 j ∧ 21 * (i : Int) + (j : Int) ≤ q) (fun s7 => 21 - (intOf s7).toNat)
      case atStart => exact ⟨0, by omega, rfl, by simpa using hiq⟩
      case round =>
        obtain ⟨j, hj, rfl, hjq⟩ := hrel
        by_cases hlt2 : j < 21
        · have j0 : (j : Int) < 21 := by omega
          have j1 : (0 : Int) ≤ (j : Int) := by omega
          by_cases hit : q = 21 * (i : Int) + (j : Int)
          · have k0 : (0 : Int) ≤ c - 44032 - (21 * (i : Int) + (j : Int)) * 28 := by omega
            have k1 : c - 44032 - (21 * (i : Int) + (j : Int)) * 28 < 28 := by omega
            have HH := Lib.hid hit
            clear hit
            go_wp2_with (go_at_call 73; refine (HY.out _).mono ?_; rintro e w2 ⟨rfl, rfl⟩)
            refine bodyPost_ret (v := .tuple #[.int .i64 (i : Int), .int .i64 (j : Int), .int .i64 (c - 44032 - (21 * (i : Int) + (j : Int)) * 28), .bool true]) (by simp [results, Tryd.results49, go_sem]) rfl ⟨?_, rfl⟩
            have hh := HH.out
            exact ret_four (by omega) (by omega) (by omega) rfl
          · have k0 : ¬ c - 44032 - (21 * (i : Int) + (j : Int)) * 28 < 28 := by omega
            have k1 : (0 : Int) ≤ c - 44032 - (21 * (i : Int) + (j : Int)) * 28 := by omega
            go_wp2_with (go_at_call 73; refine (HY.out _).mono ?_; rintro e w2 ⟨rfl, rfl⟩)
            go_round
            case rel => exact ⟨j + 1, by omega, by go_num, by omega⟩
            case measure => simp [intOf]; omega
        · have j0 : ¬ (j : Int) < 21 := by omega
          go_wp2_with fail
          go_round
          case rel => exact ⟨i + 1, by omega, by go_num, by omega⟩
          case measure => simp [intOf]; omega
    · have i0 : ¬ (i : Int) < 19 := by omega
      exfalso; omega
set_option maxRecDepth 100000 in
set_option maxHeartbeats 1000000 in
theorem refHdec_any (c : Int) (w : World) : Calls Tryd.prog 20 #[.int .i64 c] w (RetSeq w (hangD c)) := by
  cases hs : sylB c
  · have HP := Lib.hid (refParts_no c w hs)
    rw [hangD_none hs]
    clear hs
    go_enter Tryd.func20, Tryd.ntmps20
    go_wp2_with (go_at_call 49; refine HP.out.mono ?_; rintro e w2 ⟨rfl, rfl⟩)
    go_ret
    exact ⟨_, rfl, Ints.none_, fun _ => rfl, Below.refl _ _⟩
  · have HP := Lib.hid (refParts_yes c w hs)
    have hb := (sylB_iff c).1 hs
    unfold hangD
    rw [if_pos hs]
    clear hs
    obtain ⟨n, hn⟩ : ∃ n, c - 44032 = n := ⟨_, rfl⟩
    have n0 : 0 ≤ n := by omega
    have n1 : n ≤ 11171 := by omega
    rw [hn] at HP ⊢
    clear hn hb
    have a0 : 0 ≤ n / 28 / 21 := by omega
    have a1 : n / 28 / 21 ≤ 18 := by omega
    have b0 : 0 ≤ n / 28 % 21 := by omega
    have b1 : n / 28 % 21 ≤ 20 := by omega
    have c0 : 0 ≤ n % 28 := by omega
    have c1 : n % 28 ≤ 27 := by omega
    generalize n / 28 / 21 = i at *
    generalize n / 28 % 21 = j at *
    generalize n % 28 = k at *
    by_cases hk : k = 0
    · rw [if_pos hk]
      subst hk
      go_enter Tryd.func20, Tryd.ntmps20
      go_wp2_with (go_at_call 49; refine HP.out.mono ?_; rintro e w2 ⟨rfl, rfl⟩)
      go_ret
      exact ⟨_, rfl, by have h := Ints.of_own (own_new w 3 [4352 + i, 4449 + j] (by simp)); simpa using h, (by simp), (Below.refl _ _).alloc (Nat.le_refl _) _⟩
    · rw [if_neg hk]
      have hb : (k == 0) = false := by simpa using hk
      clear hk
      go_enter Tryd.func20, Tryd.ntmps20
      go_wp2_with (go_at_call 49; refine HP.out.mono ?_; rintro e w2 ⟨rfl, rfl⟩)
      go_ret
      exact ⟨_, rfl, by have h := Ints.of_own (own_new w 3 [4352 + i, 4449 + j, 4519 + k] (by simp)); simpa using h, (by simp), (Below.refl _ _).alloc (Nat.le_refl _) _⟩
end Go.Proofs.YtjigjjbhdgpfjaaDoor
/-
  Below, whatever name the size of the first heap bears.
-/
namespace Go.Proofs.YtjigjjbhdgpfjaaDoor
open Go.RowKit
theorem below_w {a b c : World} {B : Nat} (h : Below a.heap.size a b) (k : Below b.heap.size b c) (hB : B = a.heap.size := by first | rfl | omega) : Below B a c := hB ▸ below_next h k
end Go.Proofs.YtjigjjbhdgpfjaaDoor
/-
  The walk through the law DecomposeTwice.
-/
namespace Go.Proofs.YtjigjjbhdgpfjaaDoor
open Go.RowKit ND

/-- What holds ahead of region 2. -/
structure w7Ctx (w0 : World) (b : Nat) (t : Tv) (T : Tab) (va : Value) (ms : List Int) : Prop where
  tb : Tbl w0 b t T
  g : Glob w0
  v : Ints w0 w0.heap.size .i64 va ms
  ck : T.check = 0
def w7Specs (t : Tv) (T : Tab) (va : Value) : List SpecK := [.val t.val, .val va, .lst (fun l => l.length ≤ 10 ∧ l.all scalarB = true), .two 0 (fun ys => ∃ l : List Int, l.length ≤ 10 ∧ l.all scalarB = true ∧ ys = nfdL T l), .two 0 (fun ys => ∃ l : List Int, l.length ≤ 10 ∧ l.all scalarB = true ∧ ys = nfdL T l), .lst (fun ys => ∃ l : List Int, l.length ≤ 10 ∧ l.all scalarB = true ∧ ys = nfdL T l), .val (.int .i64 0), .lst (fun ys => ∃ l : List Int, l.length ≤ 10 ∧ l.all scalarB = true ∧ ys = nfdL T l), .val (.int .i64 0)]
def w7Fixed (b : Nat) (va : Value) : List (Tmp × Value) := [(1, va), (5, .pointer (some ⟨b, 0, none⟩))]
def w7Ob (w0 : World) (b : Nat) (t : Tv) (T : Tab) (va : Value) (Q : Exit → Act → World → Prop) (k : Nat) : Prop := ObR 24 Tryd.prog (opsAt Tryd.f4 2) 64 [] (w7Fixed b va) w0 (w7Specs t T va) [] Q k
section
variable {w0 : World} {b : Nat} {t : Tv} {T : Tab} {va : Value} {ms : List Int} {Q : Exit → Act → World → Prop}
theorem w7_ob0 (H : w7Ctx w0 b t T va ms) : w7Ob w0 b t T va Q 0 := by
  intro o ho a w hb hf hd K hK
  rw [if_pos (wanted_none _ (get_op (·.guard) ho (by kernel_rfl)))]
  exact ob_value (load_tab (H.tb.later hb) (get_op (·.op) ho (by kernel_rfl)) (eval_tmp (hf.2.2 (5, _) (by simp [w7Fixed])))) (hK _ _ (rk_of rfl rfl) (.inl (Below.refl _ _)))
theorem w7_ob1 : w7Ob w0 b t T va Q 1 := by
  intro o ho a w hb hf hd K hK
  rw [if_pos (wanted_none _ (get_op (·.guard) ho (by kernel_rfl)))]
  exact ob_move (get_op (·.op) ho (by kernel_rfl)) (eval_tmp (hf.2.2 (1, _) (by simp [w7Fixed]))) (hK _ _ (rk_of rfl rfl) (.inl (Below.refl _ _)))
theorem w7_ob2 (H : w7Ctx w0 b t T va ms) : w7Ob w0 b t T va Q 2 := by
  intro o ho a w hb hf hd K hK
  rw [if_pos (wanted_none _ (get_op (·.guard) ho (by kernel_rfl)))]
  obtain ⟨v1, h1, e1⟩ := dep_k (F := 24) ho hd 1 16 (.val va) (by kernel_rfl) (by kernel_rfl) rfl (by kernel_rfl)
  obtain rfl : _ = v1 := Eq.symm e1
  refine ob_enter (enter1 (tys := #[22]) (x := .tmp 16) (get_op (·.op) ho (by kernel_rfl)) (eval_tmp h1) (fun args w => enters_of Tryd.func17 (by kernel_rfl) rfl args w)) (points_any w _ _ (H.v.later hb)) fun e w' ⟨v, ys, he, h2, hl, hs, h1⟩ => ⟨v, he, ?_⟩
  exact hK _ _ (rk_of rfl ⟨ys, h2, hl, List.all_eq_true.2 hs⟩) (.inl h1)
theorem w7_ob3 (H : w7Ctx w0 b t T va ms) : w7Ob w0 b t T va Q 3 := by
  intro o ho a w hb hf hd K hK
  rw [if_pos (wanted_none _ (get_op (·.guard) ho (by kernel_rfl)))]
  obtain ⟨v0, h0, e0⟩ := dep_k (F := 24) ho hd 0 15 (.val t.val) (by kernel_rfl) (by kernel_rfl) rfl (by kernel_rfl)
  obtain rfl : _ = v0 := Eq.symm e0
  obtain ⟨v2, h2, e2⟩ := dep_k (F := 24) ho hd 2 17 (.lst (fun l => l.length ≤ 10 ∧ l.all scalarB = true)) (by kernel_rfl) (by kernel_rfl) rfl (by kernel_rfl)
  obtain ⟨ys2, hi2, hp2⟩ := e2
  refine ob_enter (enter2 (tys := #[26, 22]) (x := .tmp 15) (y := .tmp 17) (get_op (·.op) ho (by kernel_rfl)) (eval_tmp h0) (eval_tmp h2) (fun args w => enters_of Tryd.func15 (by kernel_rfl) rfl args w)) (nfd7_eq t T _ ys2 w _ (H.tb.later hb).2 (H.g.later hb) hi2 (nfd_short H.ck hp2.2 (by have := hp2.1; omega))) fun e w' ⟨u, he, h2, h1⟩ => ⟨_, he, ?_⟩
  exact hK _ _ (rk_of rfl ⟨u, _, rfl, Ints.of_own h2, ys2, hp2.1, hp2.2, rfl⟩) (.inl h1)
theorem w7_ob4 : w7Ob w0 b t T va Q 4 := by
  intro o ho a w hb hf hd K hK
  rw [if_pos (wanted_none _ (get_op (·.guard) ho (by kernel_rfl)))]
  obtain ⟨v3, h3, e3⟩ := dep_k (F := 24) ho hd 3 18 (.two 0 (fun ys => ∃ l : List Int, l.length ≤ 10 ∧ l.all scalarB = true ∧ ys = nfdL T l)) (by kernel_rfl) (by kernel_rfl) rfl (by kernel_rfl)
  exact ob_move (get_op (·.op) ho (by kernel_rfl)) (eval_tmp h3) (hK _ _ (rk_of rfl e3) (.inl (Below.refl _ _)))
theorem w7_ob5 : w7Ob w0 b t T va Q 5 := by
  intro o ho a w hb hf hd K hK
  rw [if_pos (wanted_none _ (get_op (·.guard) ho (by kernel_rfl)))]
  obtain ⟨v4, h4, e4⟩ := dep_k (F := 24) ho hd 4 14 (.two 0 (fun ys => ∃ l : List Int, l.length ≤ 10 ∧ l.all scalarB = true ∧ ys = nfdL T l)) (by kernel_rfl) (by kernel_rfl) rfl (by kernel_rfl)
  obtain ⟨u, ys, rfl, hi1, hp⟩ := e4
  exact ob_extract (k := 0) (get_op (·.op) ho (by kernel_rfl)) (eval_tmp h4) rfl (hK _ _ (rk_of rfl ⟨ys, hi1, hp⟩) (.inl (Below.refl _ _)))
theorem w7_ob6 : w7Ob w0 b t T va Q 6 := by
  intro o ho a w hb hf hd K hK
  rw [if_pos (wanted_none _ (get_op (·.guard) ho (by kernel_rfl)))]
  obtain ⟨v4, h4, e4⟩ := dep_k (F := 24) ho hd 4 14 (.two 0 (fun ys => ∃ l : List Int, l.length ≤ 10 ∧ l.all scalarB = true ∧ ys = nfdL T l)) (by kernel_rfl) (by kernel_rfl) rfl (by kernel_rfl)
  obtain ⟨u, ys, rfl, hi1, hp⟩ := e4
  exact ob_extract (k := 1) (get_op (·.op) ho (by kernel_rfl)) (eval_tmp h4) rfl (hK _ _ (rk_of rfl rfl) (.inl (Below.refl _ _)))
theorem w7_ob7 : w7Ob w0 b t T va Q 7 := by
  intro o ho a w hb hf hd K hK
  rw [if_pos (wanted_none _ (get_op (·.guard) ho (by kernel_rfl)))]
  obtain ⟨v5, h5, e5⟩ := dep_k (F := 24) ho hd 5 19 (.lst (fun ys => ∃ l : List Int, l.length ≤ 10 ∧ l.all scalarB = true ∧ ys = nfdL T l)) (by kernel_rfl) (by kernel_rfl) rfl (by kernel_rfl)
  exact ob_assign (get_op (·.op) ho (by kernel_rfl)) (eval_tmp h5) (hK _ _ (rk_of rfl e5) (.inl (Below.refl _ _)))
theorem w7_ob8 : w7Ob w0 b t T va Q 8 := by
  intro o ho a w hb hf hd K hK
  rw [if_pos (wanted_none _ (get_op (·.guard) ho (by kernel_rfl)))]
  obtain ⟨v6, h6, e6⟩ := dep_k (F := 24) ho hd 6 20 (.val (.int .i64 0)) (by kernel_rfl) (by kernel_rfl) rfl (by kernel_rfl)
  obtain rfl : _ = v6 := Eq.symm e6
  exact ob_assign (get_op (·.op) ho (by kernel_rfl)) (eval_tmp h6) (hK _ _ (rk_of rfl rfl) (.inl (Below.refl _ _)))
theorem w7_obs (H : w7Ctx w0 b t T va ms) (k : Nat) (hk : k < 9) : w7Ob w0 b t T va Q k := by
  match k, hk with
  | 0, _ => exact w7_ob0 H
  | 1, _ => exact w7_ob1
  | 2, _ => exact w7_ob2 H
  | 3, _ => exact w7_ob3 H
  | 4, _ => exact w7_ob4
  | 5, _ => exact w7_ob5
  | 6, _ => exact w7_ob6
  | 7, _ => exact w7_ob7
  | 8, _ => exact w7_ob8
  | m + 9, h => exact absurd h (by omega)
theorem w7_region {a : Act} (H : w7Ctx w0 b t T va ms) (hf : FS 64 [] (w7Fixed b va) a)
    (hend : ∀ a w, Below w0.heap.size w0 w → FS 64 [] (w7Fixed b va) a → (∀ (i : Nat) (o : Oper) (d : Tmp), (opsAt Tryd.f4 2)[i]? = some o → (∀ j, killK (w7Specs t T va) [] i j = false) → o.dst = some d → ∃ v, a.tmps[d]? = some v ∧ RK w0.heap.size (w7Specs t T va) i v w) → Q .normal a w) : (Code.region 2 (opsAt Tryd.f4 2) true).wp Tryd.prog Q a w0 := by
  refine wp_region_k 24 (n := 64) (ds := []) (fixed := w7Fixed b va) (specs := w7Specs t T va) (apps := []) (by kernel_rfl) (by kernel_rfl) (by kernel_rfl) (by kernel_rfl) hf (fun i hi => w7_obs H i ?_) hend
  have hn : (opsAt Tryd.f4 2).size = 9 := by kernel_rfl
  omega
theorem w7_region2 {a : Act} (H : w7Ctx w0 b t T va ms) (hf : FS 64 [] (w7Fixed b va) a)
    (hend : ∀ a' w, Below w0.heap.size w0 w → FS 64 [] (w7Fixed b va) a' → (∀ i, i < 64 → freeOf (opsAt Tryd.f4 2) i = true → a'.tmps[i]? = a.tmps[i]?) → (∀ (i : Nat) (o : Oper) (d : Tmp), (opsAt Tryd.f4 2)[i]? = some o → (∀ j, killK (w7Specs t T va) [] i j = false) → o.dst = some d → ∃ v, a'.tmps[d]? = some v ∧ RK w0.heap.size (w7Specs t T va) i v w) → Q .normal a' w) : (Code.region 2 (opsAt Tryd.f4 2) true).wp Tryd.prog Q a w0 := by
  refine wp_region_k2 24 (n := 64) (ds := []) (fixed := w7Fixed b va) (specs := w7Specs t T va) (apps := []) (by kernel_rfl) (by kernel_rfl) (by kernel_rfl) (by kernel_rfl) hf (fun i hi => w7_obs H i ?_) hend
  have hn : (opsAt Tryd.f4 2).size = 9 := by kernel_rfl
  omega
end

set_option maxRecDepth 100000 in
set_option maxHeartbeats 4000000 in
theorem DecomposeTwice_go (W : World) (hg : Glob W) (v : Value) (xs : List Int) (hv : Ints W W.heap.size .i64 v xs) (vm : Value) (ms : List Int) (hvm : Ints W W.heap.size .i64 vm ms) :
    Calls Tryd.prog 4 #[v, vm] W fun e W' => e = .returned (.bool true) ∧ Below W.heap.size W W' := by
  have HG := Lib.hid hg
  have HM := Lib.hid hvm
  obtain ⟨Ax, cx, rfl, _⟩ := id hv
  obtain ⟨Am, cm, rfl, _⟩ := id hvm
  have HT := Lib.hid (keepTables_any W _ xs hv)
  clear hv hg hvm
  go_enter Tryd.func4, Tryd.ntmps4
  go_upto_region 2 with (go_at_call 10; refine HT.out.mono ?_; rintro e w1 ⟨t, T, rfl, ht1, hm1, hb1⟩; obtain ⟨A0, A1, A2, A3, A4, A5, A6, A7, A8, A9, A10, A11, k0, k1, k2, k3, k4, k5, k6, k7, k8, k9, k10, k11, rfl⟩ := ht1.shape; have HT1 := Lib.hid ht1; have HB1 := Lib.hid hb1; have HM1 := Lib.hid hm1; clear ht1 hb1 hm1)
  obtain ⟨t, ht, htb⟩ := Tbl.new HT1.out
  have HT2 := Lib.hid htb
  have HB2 := Lib.hid (HB1.out.alloc HB1.out.size (.cells #[.slice A0 T.category.length k0, .slice A1 T.cls.length k1, .slice A2 T.joining.length k2, .slice A3 T.bidi.length k3, .slice A4 T.script.length k4, .slice A5 T.status.length k5, .slice A6 T.ignorable.length k6, .slice A7 T.extensions.length k7, .slice A8 T.maps.length k8, .slice A9 T.decomps.length k9, .slice A10 T.excluded.length k10, .slice A11 T.prototypes.length k11] 26))
  clear htb HT1 HT
  generalize w1.alloc (.cells #[.slice A0 T.category.length k0, .slice A1 T.cls.length k1, .slice A2 T.joining.length k2, .slice A3 T.bidi.length k3, .slice A4 T.script.length k4, .slice A5 T.status.length k5, .slice A6 T.ignorable.length k6, .slice A7 T.extensions.length k7, .slice A8 T.maps.length k8, .slice A9 T.decomps.length k9, .slice A10 T.excluded.length k10, .slice A11 T.prototypes.length k11] 26) = w2 at *
  generalize w1.heap.size = tb at *
  clear ht
  have hck := HM1.out.check
  have HG2 := Lib.hid (HG.out.later HB2.out)
  have HM2 := Lib.hid (HM.out.later HB2.out)
  clear HG HM HM1
  rename_i K hK
  refine wp_region_as (ops := (opsAt Tryd.f4 2)) (by kernel_rfl) ?_
  refine w7_region2 (b := tb) (t := t) (T := T) (va := .slice Am ms.length cm) (ms := ms) ⟨HT2.out, HG2.out, HM2.out, hck⟩ ⟨rfl, rfl, by intro p hp; simp [w7Fixed] at hp; rcases hp with rfl | rfl <;> rfl⟩ ?_
  intro a w7 hb hf ho hr
  obtain ⟨v6, h6, al, hi6, l0, hl0, hs0, hal⟩ := end_k hr 7 6 (.lst (fun ys => ∃ l : List Int, l.length ≤ 10 ∧ l.all scalarB = true ∧ ys = nfdL T l)) (by kernel_rfl) rfl (by kernel_rfl)
  obtain ⟨v7, h7, e7⟩ := end_k hr 8 7 (.val (.int .i64 0)) (by kernel_rfl) rfl (by kernel_rfl)
  obtain rfl : _ = v7 := Eq.symm e7
  obtain ⟨A6, c6, rfl, _⟩ := id hi6
  have HA7 := Lib.hid hi6
  have B7 := Lib.hid hb
  have hD := decOk_of hck
  have HE1 : Hid (nfdR T (accE T al) al = (al, 0)) := Lib.hid (by
    have h1 := nfd_len hck l0
    have h2 : flatD T al = al := by rw [hal]; exact nfdL_flat hD l0
    have h3 : (flatD T al).length ≤ 4096 := by rw [h2, hal]; omega
    rw [accE_ok hck (by rw [hal]; omega) (by rw [hal]; exact nfdL_scal hD hs0), nfdR_ok h3]
    rw [hal, nfdL_twice hD])
  have HE2 : Hid (isNfdB T al = true) := Lib.hid (by unfold isNfdB; rw [HE1.out]; simp)
  have HEL : Hid (∀ x ∈ al, findL T.decomps x = [] ∧ hangD x = []) := Lib.hid (fun x hx => by
    rw [hal] at hx
    have := nfdL_fix hD hx
    exact ⟨this.1, hangD_none this.2⟩)
  have hal10 : al.length ≤ 200 := by have h1 := nfd_len hck l0; rw [hal]; omega
  have HT7 := Lib.hid (HT2.out.later hb)
  have HG7 := Lib.hid (HG2.out.later hb)
  have hs := hf.1
  have hd := hf.2.1
  refine hK a w7 ?_
  obtain ⟨fa, hfa, ha⟩ := act_fun hs hd
  have ea0 := (hfa 0 (by decide)).symm.trans (ho 0 (by decide) (by kernel_rfl))
  simp only [List.getElem?_toArray, List.getElem?_cons_zero, Option.some.injEq] at ea0
  have ea1 := (hfa 1 (by decide)).symm.trans (ho 1 (by decide) (by kernel_rfl))
  simp only [List.getElem?_toArray, List.getElem?_cons_zero, List.getElem?_cons_succ, Option.some.injEq] at ea1
  have ea2 := (hfa 2 (by decide)).symm.trans (ho 2 (by decide) (by kernel_rfl))
  simp only [List.getElem?_toArray, List.getElem?_cons_zero, List.getElem?_cons_succ, Option.some.injEq] at ea2
  have ea3 := (hfa 3 (by decide)).symm.trans (ho 3 (by decide) (by kernel_rfl))
  simp only [List.getElem?_toArray, List.getElem?_cons_zero, List.getElem?_cons_succ, Option.some.injEq] at ea3
  have ea4 := (hfa 4 (by decide)).symm.trans (ho 4 (by decide) (by kernel_rfl))
  simp only [List.getElem?_toArray, List.getElem?_cons_zero, List.getElem?_cons_succ, Option.some.injEq] at ea4
  have ea5 := (hfa 5 (by decide)).symm.trans (ho 5 (by decide) (by kernel_rfl))
  simp only [List.getElem?_toArray, List.getElem?_cons_zero, List.getElem?_cons_succ, Option.some.injEq] at ea5
  have ea8 := (hfa 8 (by decide)).symm.trans (ho 8 (by decide) (by kernel_rfl))
  simp only [List.getElem?_toArray, List.getElem?_cons_zero, List.getElem?_cons_succ, Option.some.injEq] at ea8
  have ea9 := (hfa 9 (by decide)).symm.trans (ho 9 (by decide) (by kernel_rfl))
  simp only [List.getElem?_toArray, List.getElem?_cons_zero, List.getElem?_cons_succ, Option.some.injEq] at ea9
  have ea10 := (hfa 10 (by decide)).symm.trans (ho 10 (by decide) (by kernel_rfl))
  simp only [List.getElem?_toArray, List.getElem?_cons_zero, List.getElem?_cons_succ, Option.some.injEq] at ea10
  have ea11 := (hfa 11 (by decide)).symm.trans (ho 11 (by decide) (by kernel_rfl))
  simp only [List.getElem?_toArray, List.getElem?_cons_zero, List.getElem?_cons_succ, Option.some.injEq] at ea11
  have ea12 := (hfa 12 (by decide)).symm.trans (ho 12 (by decide) (by kernel_rfl))
  simp only [List.getElem?_toArray, List.getElem?_cons_zero, List.getElem?_cons_succ, Option.some.injEq] at ea12
  have ea13 := (hfa 13 (by decide)).symm.trans (ho 13 (by decide) (by kernel_rfl))
  simp only [List.getElem?_toArray, List.getElem?_cons_zero, List.getElem?_cons_succ, Option.some.injEq] at ea13
  have ea21 := (hfa 21 (by decide)).symm.trans (ho 21 (by decide) (by kernel_rfl))
  simp only [List.getElem?_toArray, List.getElem?_cons_zero, List.getElem?_cons_succ, Option.some.injEq] at ea21
  have ea22 := (hfa 22 (by decide)).symm.trans (ho 22 (by decide) (by kernel_rfl))
  simp only [List.getElem?_toArray, List.getElem?_cons_zero, List.getElem?_cons_succ, Option.some.injEq] at ea22
  have ea23 := (hfa 23 (by decide)).symm.trans (ho 23 (by decide) (by kernel_rfl))
  simp only [List.getElem?_toArray, List.getElem?_cons_zero, List.getElem?_cons_succ, Option.some.injEq] at ea23
  have ea24 := (hfa 24 (by decide)).symm.trans (ho 24 (by decide) (by kernel_rfl))
  simp only [List.getElem?_toArray, List.getElem?_cons_zero, List.getElem?_cons_succ, Option.some.injEq] at ea24
  have ea25 := (hfa 25 (by decide)).symm.trans (ho 25 (by decide) (by kernel_rfl))
  simp only [List.getElem?_toArray, List.getElem?_cons_zero, List.getElem?_cons_succ, Option.some.injEq] at ea25
  have ea26 := (hfa 26 (by decide)).symm.trans (ho 26 (by decide) (by kernel_rfl))
  simp only [List.getElem?_toArray, List.getElem?_cons_zero, List.getElem?_cons_succ, Option.some.injEq] at ea26
  have ea27 := (hfa 27 (by decide)).symm.trans (ho 27 (by decide) (by kernel_rfl))
  simp only [List.getElem?_toArray, List.getElem?_cons_zero, List.getElem?_cons_succ, Option.some.injEq] at ea27
  have ea28 := (hfa 28 (by decide)).symm.trans (ho 28 (by decide) (by kernel_rfl))
  simp only [List.getElem?_toArray, List.getElem?_cons_zero, List.getElem?_cons_succ, Option.some.injEq] at ea28
  have ea29 := (hfa 29 (by decide)).symm.trans (ho 29 (by decide) (by kernel_rfl))
  simp only [List.getElem?_toArray, List.getElem?_cons_zero, List.getElem?_cons_succ, Option.some.injEq] at ea29
  have ea30 := (hfa 30 (by decide)).symm.trans (ho 30 (by decide) (by kernel_rfl))
  simp only [List.getElem?_toArray, List.getElem?_cons_zero, List.getElem?_cons_succ, Option.some.injEq] at ea30
  have ea31 := (hfa 31 (by decide)).symm.trans (ho 31 (by decide) (by kernel_rfl))
  simp only [List.getElem?_toArray, List.getElem?_cons_zero, List.getElem?_cons_succ, Option.some.injEq] at ea31
  have ea32 := (hfa 32 (by decide)).symm.trans (ho 32 (by decide) (by kernel_rfl))
  simp only [List.getElem?_toArray, List.getElem?_cons_zero, List.getElem?_cons_succ, Option.some.injEq] at ea32
  have ea33 := (hfa 33 (by decide)).symm.trans (ho 33 (by decide) (by kernel_rfl))
  simp only [List.getElem?_toArray, List.getElem?_cons_zero, List.getElem?_cons_succ, Option.some.injEq] at ea33
  have ea34 := (hfa 34 (by decide)).symm.trans (ho 34 (by decide) (by kernel_rfl))
  simp only [List.getElem?_toArray, List.getElem?_cons_zero, List.getElem?_cons_succ, Option.some.injEq] at ea34
  have ea35 := (hfa 35 (by decide)).symm.trans (ho 35 (by decide) (by kernel_rfl))
  simp only [List.getElem?_toArray, List.getElem?_cons_zero, List.getElem?_cons_succ, Option.some.injEq] at ea35
  have ea36 := (hfa 36 (by decide)).symm.trans (ho 36 (by decide) (by kernel_rfl))
  simp only [List.getElem?_toArray, List.getElem?_cons_zero, List.getElem?_cons_succ, Option.some.injEq] at ea36
  have ea37 := (hfa 37 (by decide)).symm.trans (ho 37 (by decide) (by kernel_rfl))
  simp only [List.getElem?_toArray, List.getElem?_cons_zero, List.getElem?_cons_succ, Option.some.injEq] at ea37
  have ea38 := (hfa 38 (by decide)).symm.trans (ho 38 (by decide) (by kernel_rfl))
  simp only [List.getElem?_toArray, List.getElem?_cons_zero, List.getElem?_cons_succ, Option.some.injEq] at ea38
  have ea39 := (hfa 39 (by decide)).symm.trans (ho 39 (by decide) (by kernel_rfl))
  simp only [List.getElem?_toArray, List.getElem?_cons_zero, List.getElem?_cons_succ, Option.some.injEq] at ea39
  have ea40 := (hfa 40 (by decide)).symm.trans (ho 40 (by decide) (by kernel_rfl))
  simp only [List.getElem?_toArray, List.getElem?_cons_zero, List.getElem?_cons_succ, Option.some.injEq] at ea40
  have ea41 := (hfa 41 (by decide)).symm.trans (ho 41 (by decide) (by kernel_rfl))
  simp only [List.getElem?_toArray, List.getElem?_cons_zero, List.getElem?_cons_succ, Option.some.injEq] at ea41
  have ea42 := (hfa 42 (by decide)).symm.trans (ho 42 (by decide) (by kernel_rfl))
  simp only [List.getElem?_toArray, List.getElem?_cons_zero, List.getElem?_cons_succ, Option.some.injEq] at ea42
  have ea43 := (hfa 43 (by decide)).symm.trans (ho 43 (by decide) (by kernel_rfl))
  simp only [List.getElem?_toArray, List.getElem?_cons_zero, List.getElem?_cons_succ, Option.some.injEq] at ea43
  have ea44 := (hfa 44 (by decide)).symm.trans (ho 44 (by decide) (by kernel_rfl))
  simp only [List.getElem?_toArray, List.getElem?_cons_zero, List.getElem?_cons_succ, Option.some.injEq] at ea44
  have ea45 := (hfa 45 (by decide)).symm.trans (ho 45 (by decide) (by kernel_rfl))
  simp only [List.getElem?_toArray, List.getElem?_cons_zero, List.getElem?_cons_succ, Option.some.injEq] at ea45
  have ea46 := (hfa 46 (by decide)).symm.trans (ho 46 (by decide) (by kernel_rfl))
  simp only [List.getElem?_toArray, List.getElem?_cons_zero, List.getElem?_cons_succ, Option.some.injEq] at ea46
  have ea47 := (hfa 47 (by decide)).symm.trans (ho 47 (by decide) (by kernel_rfl))
  simp only [List.getElem?_toArray, List.getElem?_cons_zero, List.getElem?_cons_succ, Option.some.injEq] at ea47
  have ea48 := (hfa 48 (by decide)).symm.trans (ho 48 (by decide) (by kernel_rfl))
  simp only [List.getElem?_toArray, List.getElem?_cons_zero, List.getElem?_cons_succ, Option.some.injEq] at ea48
  have ea49 := (hfa 49 (by decide)).symm.trans (ho 49 (by decide) (by kernel_rfl))
  simp only [List.getElem?_toArray, List.getElem?_cons_zero, List.getElem?_cons_succ, Option.some.injEq] at ea49
  have ea50 := (hfa 50 (by decide)).symm.trans (ho 50 (by decide) (by kernel_rfl))
  simp only [List.getElem?_toArray, List.getElem?_cons_zero, List.getElem?_cons_succ, Option.some.injEq] at ea50
  have ea51 := (hfa 51 (by decide)).symm.trans (ho 51 (by decide) (by kernel_rfl))
  simp only [List.getElem?_toArray, List.getElem?_cons_zero, List.getElem?_cons_succ, Option.some.injEq] at ea51
  have ea52 := (hfa 52 (by decide)).symm.trans (ho 52 (by decide) (by kernel_rfl))
  simp only [List.getElem?_toArray, List.getElem?_cons_zero, List.getElem?_cons_succ, Option.some.injEq] at ea52
  have ea53 := (hfa 53 (by decide)).symm.trans (ho 53 (by decide) (by kernel_rfl))
  simp only [List.getElem?_toArray, List.getElem?_cons_zero, List.getElem?_cons_succ, Option.some.injEq] at ea53
  have ea54 := (hfa 54 (by decide)).symm.trans (ho 54 (by decide) (by kernel_rfl))
  simp only [List.getElem?_toArray, List.getElem?_cons_zero, List.getElem?_cons_succ, Option.some.injEq] at ea54
  have ea55 := (hfa 55 (by decide)).symm.trans (ho 55 (by decide) (by kernel_rfl))
  simp only [List.getElem?_toArray, List.getElem?_cons_zero, List.getElem?_cons_succ, Option.some.injEq] at ea55
  have ea56 := (hfa 56 (by decide)).symm.trans (ho 56 (by decide) (by kernel_rfl))
  simp only [List.getElem?_toArray, List.getElem?_cons_zero, List.getElem?_cons_succ, Option.some.injEq] at ea56
  have ea57 := (hfa 57 (by decide)).symm.trans (ho 57 (by decide) (by kernel_rfl))
  simp only [List.getElem?_toArray, List.getElem?_cons_zero, List.getElem?_cons_succ, Option.some.injEq] at ea57
  have ea58 := (hfa 58 (by decide)).symm.trans (ho 58 (by decide) (by kernel_rfl))
  simp only [List.getElem?_toArray, List.getElem?_cons_zero, List.getElem?_cons_succ, Option.some.injEq] at ea58
  have ea59 := (hfa 59 (by decide)).symm.trans (ho 59 (by decide) (by kernel_rfl))
  simp only [List.getElem?_toArray, List.getElem?_cons_zero, List.getElem?_cons_succ, Option.some.injEq] at ea59
  have ea60 := (hfa 60 (by decide)).symm.trans (ho 60 (by decide) (by kernel_rfl))
  simp only [List.getElem?_toArray, List.getElem?_cons_zero, List.getElem?_cons_succ, Option.some.injEq] at ea60
  have ea61 := (hfa 61 (by decide)).symm.trans (ho 61 (by decide) (by kernel_rfl))
  simp only [List.getElem?_toArray, List.getElem?_cons_zero, List.getElem?_cons_succ, Option.some.injEq] at ea61
  have ea62 := (hfa 62 (by decide)).symm.trans (ho 62 (by decide) (by kernel_rfl))
  simp only [List.getElem?_toArray, List.getElem?_cons_zero, List.getElem?_cons_succ, Option.some.injEq] at ea62
  have ea63 := (hfa 63 (by decide)).symm.trans (ho 63 (by decide) (by kernel_rfl))
  simp only [List.getElem?_toArray, List.getElem?_cons_zero, List.getElem?_cons_succ, Option.some.injEq] at ea63
  have ea6 : fa 6 = .slice A6 al.length c6 := Option.some.inj ((hfa 6 (by decide)).symm.trans (h6))
  have ea7 : fa 7 = .int .i64 0 := Option.some.inj ((hfa 7 (by decide)).symm.trans (h7))
  have ha2 : a = ⟨#[fa 0, fa 1, fa 2, fa 3, fa 4, fa 5, fa 6, fa 7, fa 8, fa 9, fa 10, fa 11, fa 12, fa 13, fa 14, fa 15, fa 16, fa 17, fa 18, fa 19, fa 20, fa 21, fa 22, fa 23, fa 24, fa 25, fa 26, fa 27, fa 28, fa 29, fa 30, fa 31, fa 32, fa 33, fa 34, fa 35, fa 36, fa 37, fa 38, fa 39, fa 40, fa 41, fa 42, fa 43, fa 44, fa 45, fa 46, fa 47, fa 48, fa 49, fa 50, fa 51, fa 52, fa 53, fa 54, fa 55, fa 56, fa 57, fa 58, fa 59, fa 60, fa 61, fa 62, fa 63], []⟩ := ha.trans (by kernel_rfl)
  rw [ea0, ea1, ea2, ea3, ea4, ea5, ea6, ea7, ea8, ea9, ea10, ea11, ea12, ea13, ea21, ea22, ea23, ea24, ea25, ea26, ea27, ea28, ea29, ea30, ea31, ea32, ea33, ea34, ea35, ea36, ea37, ea38, ea39, ea40, ea41, ea42, ea43, ea44, ea45, ea46, ea47, ea48, ea49, ea50, ea51, ea52, ea53, ea54, ea55, ea56, ea57, ea58, ea59, ea60, ea61, ea62, ea63] at ha2
  clear ha hfa ho ea0 ea1 ea2 ea3 ea4 ea5 ea6 ea7 ea8 ea9 ea10 ea11 ea12 ea13 ea21 ea22 ea23 ea24 ea25 ea26 ea27 ea28 ea29 ea30 ea31 ea32 ea33 ea34 ea35 ea36 ea37 ea38 ea39 ea40 ea41 ea42 ea43 ea44 ea45 ea46 ea47 ea48 ea49 ea50 ea51 ea52 ea53 ea54 ea55 ea56 ea57 ea58 ea59 ea60 ea61 ea62 ea63
  subst ha2
  clear hf hr h6 h7 hs hd hi6 hK hal hl0 hs0 hD hck hb HM2
  have H1 := Lib.hid (fun W (h : Below w7.heap.size w7 W) => nfd7_eq t T (.slice A6 al.length c6) al W _ (HT7.out.later h).2 (HG7.out.later h) (HA7.out.later h) HE1.out)
  have H2 := Lib.hid (fun W (h : Below w7.heap.size w7 W) => isNfd_any t T (.slice A6 al.length c6) al W (HT7.out.later h).2 (HG7.out.later h) (HA7.out.later h))
  rw [HE2.out] at H2
  go_upto_region 3 with fail
  obtain ⟨x0, x1, x2, x3, x4, x5, x6, x7, x8, x9, x10, x11⟩ := HT7.out.1.tab
  go_upto_region 4 with (go_at_call 15; refine (H1.out _ (Below.refl _ _)).mono ?_; rintro e w8 ⟨u8, rfl, ho8, b8⟩; obtain ⟨A8, c8, rfl, _⟩ := id (Ints.of_own ho8); have HI8 := Lib.hid (Ints.of_own ho8); have B8 := Lib.hid b8; clear ho8 b8)
  clear x0 x1 x2 x3 x4 x5 x6 x7 x8 x9 x10 x11
  obtain ⟨x0, x1, x2, x3, x4, x5, x6, x7, x8, x9, x10, x11⟩ := (HT7.out.later B8.out).1.tab
  go_upto_region 6 with (first
    | (go_at_call 13; refine (same_of _ _ al al _ (HA7.out.later B8.out) HI8.out rfl).mono ?_; rintro e w9 ⟨rfl, b9⟩; clear x0 x1 x2 x3 x4 x5 x6 x7 x8 x9 x10 x11; have B9 := Lib.hid (below_next B8.out b9); obtain ⟨x0, x1, x2, x3, x4, x5, x6, x7, x8, x9, x10, x11⟩ := (HT7.out.later B9.out).1.tab; clear HI8 b9)
    | (go_at_call 18; refine (H2.out _ B9.out).mono ?_; rintro e w10 ⟨rfl, b10⟩; have B10 := Lib.hid (below_next B9.out b10); clear b10))
  clear x0 x1 x2 x3 x4 x5 x6 x7 x8 x9 x10 x11
  have HT10 := Lib.hid (HT7.out.later B10.out)
  have HA10 := Lib.hid (HA7.out.later B10.out)
  have HB10 := Lib.hid (below_next HB2.out (below_next B7.out B10.out))
  have HG10 := Lib.hid (HG7.out.later B10.out)
  clear H1 H2 HT7 HA7 HT2 HG2 B7 B8 B9 B10 HE1 HE2
  go_wp2_with fail
  go_loopw [47] (fun si wr => ∃ (k : Nat), k ≤ al.length ∧ si = .int .i64 k ∧ Hid (Below w10.heap.size w10 wr)) (fun si _ => al.length - (intOf si).toNat)
  case atStart => exact ⟨0, by omega, rfl, Lib.hid (Below.refl _ _)⟩
  case round =>
    obtain ⟨k, hk, rfl, HBr⟩ := hrel
    by_cases hlt : k < al.length
    · obtain ⟨x, hxk, hxm⟩ := get_of hlt
      obtain ⟨_, _, hve, _, _, _, hcell⟩ := HA10.out
      cases hve
      obtain ⟨ad, rfl, ha, hce⟩ := hcell k x hxk
      have e1 := (HBr.out.cell (p := ad.add k) (by rw [block_of_add]; exact ha)).trans hce
      have k0 : (0 : Int) ≤ (k : Int) := by omega
      have k1 : (k : Int) < (al.length : Int) := by omega
      have HTr := Lib.hid (HT10.out.later HBr.out)
      have HDx := Lib.hid (refDecomp_any t T x wr HTr.out.2)
      have HHx := Lib.hid (fun W => refHdec_any x W)
      rw [(HEL.out x hxm).1] at HDx
      rw [(HEL.out x hxm).2] at HHx
      clear hcell hxk ha hce hxm
      obtain ⟨x0, x1, x2, x3, x4, x5, x6, x7, x8, x9, x10, x11⟩ := HTr.out.1.tab
      go_wp2_with (first
        | (go_at_call 19; refine HDx.out.mono ?_; rintro e w11 ⟨u11, rfl, hu11, b11⟩; obtain ⟨A11, c11, rfl, _⟩ := hu11; clear x0 x1 x2 x3 x4 x5 x6 x7 x8 x9 x10 x11)
        | (go_at_call 20; refine (HHx.out _).mono ?_; rintro e w12 ⟨u12, rfl, hu12, hun12, b12⟩; obtain rfl := hun12 rfl))
      go_roundw
      case rel => exact ⟨k + 1, by omega, by go_num, Lib.hid (below_then HBr.out (Nat.le_refl _) (below_next b11 b12))⟩
      case measure => simp [intOf]; omega
    · go_wp2_with (go_at_call 16; refine (awake7 _ (HG10.out.later HBr.out)).mono ?_; rintro e w13 ⟨rfl, b13⟩)
      go_ret
      exact ⟨rfl, below_next HB10.out (below_then HBr.out (Nat.le_refl _) b13)⟩
theorem DecomposeTwice_walk (W : World) (hg : Glob W) (v : Value) (xs : List Int) (hv : Ints W W.heap.size .i64 v xs) (_ : ∀ x ∈ xs, -9223372036854775808 ≤ x ∧ x ≤ 9223372036854775807) (_ : xs.length * 8 ≤ 140737488351232) (vm : Value) (ms : List Int) (hvm : Ints W W.heap.size .i64 vm ms) (_ : ∀ x ∈ ms, -9223372036854775808 ≤ x ∧ x ≤ 9223372036854775807) (_ : ms.length * 8 ≤ 140737488351232) :
    Calls Tryd.prog 4 #[v, vm] W fun e W' => e = .returned (.bool true) ∧ Below W.heap.size W W' := DecomposeTwice_go W hg v xs hv vm ms hvm
end Go.Proofs.YtjigjjbhdgpfjaaDoor
/-
  The walk through the reference's small: rule 1.
-/
namespace Go.Proofs.YtjigjjbhdgpfjaaDoor
open Go.RowKit ND

set_option maxRecDepth 100000 in
set_option maxHeartbeats 1000000 in
theorem small_any (t : Tv) (T : Tab) (w : World) (ht : TabR w w.heap.size t T) :
    Calls Tryd.prog 66 #[t.val] w fun e w' => e = .returned (.bool T.rule1) ∧ Below w.heap.size w w' := by
  obtain ⟨A0, A1, A2, A3, A4, A5, A6, A7, A8, A9, A10, A11, k0, k1, k2, k3, k4, k5, k6, k7, k8, k9, k10, k11, rfl⟩ := ht.shape
  have HR := Lib.hid (fun o : Obj => ht.later ((Below.refl _ _).alloc (Nat.le_refl _) o))
  clear ht
  obtain ⟨R, hR⟩ : ∃ R, R = T.rule1 := ⟨_, rfl⟩
  rw [← hR]
  obtain ⟨R1, hR1⟩ : ∃ R1, R1 = T.cols.all lenC_ := ⟨_, rfl⟩
  obtain ⟨R2, hR2⟩ : ∃ R2, R2 = T.mps.all lenM_ := ⟨_, rfl⟩
  have HR1 : Hid ((T.cols.drop 0).all lenC_ = R1) := Lib.hid hR1.symm
  have HR2 : Hid ((T.mps.drop 0).all lenM_ = R2) := Lib.hid hR2.symm
  have HRR : Hid (R = (decide ((T.excluded.length : Int) ≤ 256) && (R1 && R2))) := Lib.hid (by rw [hR, hR1, hR2, rule1_cast])
  clear hR hR1 hR2
  go_enter Tryd.func66, Tryd.ntmps66
  go_wp2_with fail
  refine (refSpans_any _ T _ (HR.out _)).mono ?_
  rintro e w1 ⟨ad, as_, rfl, hc, _, b1⟩
  have HC := Lib.hid hc.2
  have HB := Lib.hid ((Blk.new w 26 _).later b1)
  have HT := Lib.hid ((HR.out _).later b1)
  have hbel1 := below_next ((Below.refl _ _).alloc (Nat.le_refl _) _) b1
  clear hc b1 HR
  go_wp2_with fail
  go_loop [17] (fun i => ∃ (k : Nat), k ≤ 7 ∧ i = .int .i64 k ∧ Hid ((T.cols.drop k).all lenC_ = R1)) (fun i => 7 - (intOf i).toNat)
  case atStart => exact ⟨0, by omega, rfl, HR1⟩
  case round =>
    obtain ⟨k, hk, rfl, HS⟩ := hrel
    clear HR1
    by_cases hlt : k < 7
    · obtain ⟨⟨l, lo, hi⟩, hxk, _⟩ := get_el (xs := T.cols) (k := k) hlt
      obtain ⟨v, d0, A, c, rfl, _⟩ := HC.out k _ hxk
      have HX := Lib.hid hxk
      simp only at d0
      clear hxk
      have k0 : (0 : Int) ≤ (k : Int) := by omega
      have k1 : (k : Int) < (7 : Int) := by omega
      by_cases hl : (l.length : Int) ≤ 256
      · have HN := Lib.hid (each_go HX.out HS.out (decide_eq_true hl))
        go_wp2_with fail
        go_round
        case rel => exact ⟨k + 1, by omega, by go_num, HN⟩
        case measure => simp [intOf]; omega
      · have HN := Lib.hid (each_no HX.out HS.out (decide_eq_false hl))
        have hl' : 256 < (l.length : Int) := by omega
        clear hl
        go_wp2_with fail
        go_ret
        rw [HRR.out, HN.out]
        exact ⟨by simp, hbel1⟩
    · have HN := Lib.hid (each_end (by show 7 ≤ k; omega) HS.out)
      obtain ⟨x0, x1, x2, x3, x4, x5, x6, x7, x8, x9, x10, x11⟩ := HB.out.tab
      go_wp2_with fail
      refine (refMappings_any _ T _ HT.out).mono ?_
      rintro e w2 ⟨am, rfl, hm, b2⟩
      have HM := Lib.hid hm.2
      have hbel2 := below_next hbel1 b2
      have y10 := (HB.out.later b2).at_ (i := 10) rfl
      clear hm HT HB HC HS hbel1 b2 x0 x1 x2 x3 x4 x5 x6 x7 x8 x9 x10 x11
      go_wp2_with fail
      go_loop [29] (fun i => ∃ (k : Nat), k ≤ 4 ∧ i = .int .i64 k ∧ Hid ((T.mps.drop k).all lenM_ = R2)) (fun i => 4 - (intOf i).toNat)
      case atStart => exact ⟨0, by omega, rfl, HR2⟩
      case round =>
        obtain ⟨k, hk, rfl, HS⟩ := hrel
        clear HR2
        by_cases hlt : k < 4
        · obtain ⟨l, hxk, _⟩ := get_el (xs := T.mps) (k := k) hlt
          obtain ⟨v, d0, A, c, rfl, _⟩ := HM.out k _ hxk
          have HX := Lib.hid hxk
          clear hxk
          have k0 : (0 : Int) ≤ (k : Int) := by omega
          have k1 : (k : Int) < (4 : Int) := by omega
          by_cases hl : (l.length : Int) ≤ 256
          · have HN := Lib.hid (each_go HX.out HS.out (decide_eq_true hl))
            go_wp2_with fail
            go_round
            case rel => exact ⟨k + 1, by omega, by go_num, HN⟩
            case measure => simp [intOf]; omega
          · have HN := Lib.hid (each_no HX.out HS.out (decide_eq_false hl))
            have hl' : 256 < (l.length : Int) := by omega
            clear hl
            go_wp2_with fail
            go_ret
            rw [HRR.out, HN.out]
            exact ⟨by simp, hbel2⟩
        · have HN2 := Lib.hid (each_end (by show 4 ≤ k; omega) HS.out)
          go_wp2_with fail
          go_ret
          rw [HRR.out, HN.out, HN2.out]
          exact ⟨by simp, hbel2⟩
end Go.Proofs.YtjigjjbhdgpfjaaDoor
