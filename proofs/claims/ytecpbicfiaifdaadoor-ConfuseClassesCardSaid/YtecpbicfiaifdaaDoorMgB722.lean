/-
  Merged texts: lemmas and walks that the last text of this claim leans on.
-/
import Derived.Test.YtecpbicfiaifdaaDoorMgB721
import Derived.Test.YtecpbicfiaifdaaDoorMgB717
import Derived.Test.YtecpbicfiaifdaaDoorMgB718
import Derived.Test.YtecpbicfiaifdaaDoorMgB719
/-
  The walks through decompose.expand, Full and One.
-/
namespace Go.Proofs.YtecpbicfiaifdaaDoor
open Go.RowKit ND

/-- The full decomposition, f rounds deep. -/
def expG (T : Tab) (f : Nat) (c : Int) : List Int := if sylB c = true then hangD c else expF T.decomps f c
theorem expG_full (T : Tab) (c : Int) : expG T T.decomps.length c = expandL T c := rfl
theorem expG_len {T : Tab} (hD : DecOk T) {f : Nat} {c : Int} (h : fin T.decomps f c = true) (hf : f ≤ T.decomps.length) : (expG T f c).length ≤ 18 := by
  unfold expG
  split
  · have := hangD_len c; omega
  · rw [← (fin_up h _ hf).2]; exact hD.le c
/-- What comes back is v's row, or a new one. -/
def RetGr (w : World) (base : Nat) (v : Value) (ys : List Int) (e : Ending) (w' : World) : Prop :=
  ∃ v', e = .returned v' ∧ w'.ownsRow base 3 1 v' ys.length (ys.map (Value.int .i64)) ∧ Gr w v w' v'
theorem TabR.grown {w w' : World} {base : Nat} {t : Tv} {T : Tab} {u v : Value} {e : TypeId} {size n : Nat} {xs : List Value} (ht : TabR w base t T) (ho : w.ownsRow base e size u n xs) (hB : base ≤ w.heap.size) (hg : Gr w u w' v) : TabR w' base t T :=
  ht.below (hg.below (fun g h => (own_base ho g h).1) hB)

set_option maxRecDepth 100000 in
set_option maxHeartbeats 1000000 in
theorem expand_leaf (t : Tv) (T : Tab) (hD : DecOk T) (f : Nat) (c : Int) (w : World) (base : Nat) (v : Value) (acc : List Int) (ht : TabR w base t T) (hB : base ≤ w.heap.size) (ho : w.ownsRow base 3 1 v acc.length (acc.map (Value.int .i64))) (h : sylB c = true ∨ findL T.decomps c = []) (hl : acc.length ≤ 200000) :
    Calls Tryd.prog 52 #[t.val, v, .int .i64 c] w (RetGr w base v (acc ++ expG T f c)) := by
  obtain ⟨A, c0, rfl, _⟩ := id (Ints.of_own ho)
  obtain ⟨i0, hi, hz0, hz1, hz2⟩ := info_parts Tryd.infoInt'
  have HB0 : Hid (Below w.heap.size w (w.alloc (.cells t.cells 31))) := Lib.hid ((Below.refl _ _).alloc (Nat.le_refl _) _)
  have HT : Hid (Tbl (w.alloc (.cells t.cells 31)) w.heap.size t T) := Lib.hid ⟨Blk.new _ _ _, (ht.more hB).later HB0.out⟩
  have HO := Lib.hid (own_later ho HB0.out)
  have HG := Lib.hid (Gr.of_below (v := .slice A acc.length c0) HB0.out)
  have HH := Lib.hid (fun W => hdec_any c W)
  have HDC := Lib.hid (fun W (h : TabR W W.heap.size t T) => decompO_any t T c W h hD.srt hD.ne hD.len)
  have hl2 : (hangD c).length ≤ 3 := hangD_len c
  have HD := Lib.hid hD
  clear ht ho hD
  cases hs : sylB c
  · have hn : findL T.decomps c = [] := by
      rcases h with h | h
      · rw [hs] at h; cases h
      · exact h
    have he : expG T f c = [c] := by unfold expG; rw [if_neg (by simp [hs]), expF_none hn]
    have HN := Lib.hid (hangD_none hs)
    have HE := Lib.hid hn
    rw [he]
    clear h hs hn he hl2
    have heq := fun (w : World) (a : Option Addr) (n c : Nat) => Lib.run_eql_slice_nil (P := Tryd.prog) w 24 3 a n c 0 0 Tryd.underlying24
    go_enter Tryd.func52, Tryd.ntmps52
    go_upto_region 1 with fail
    generalize w.alloc (.cells t.cells 31) = w1 at *
    obtain ⟨x0, x1, x2, x3, x4, x5, x6, x7, x8, x9, x10, x11⟩ := HT.out.1.tab
    obtain ⟨tb, htb⟩ : ∃ tb, w.heap.size = tb := ⟨_, rfl⟩
    have hz : w.heap.size ≤ w1.heap.size := HB0.out.size
    simp only [htb]
    rw [htb] at HT
    go_upto_region 4 with (go_at_call 70; refine (HH.out _).mono ?_; rintro e w2 ⟨u, rfl, hu, hun, b2⟩; obtain rfl := hun HN.out; clear hu hun)
    clear x0 x1 x2 x3 x4 x5 x6 x7 x8 x9 x10 x11
    have HT2 := Lib.hid (HT.out.later b2)
    have HO2 := Lib.hid (own_later HO.out b2)
    have HG2 := Lib.hid (HG.out.trans (Gr.of_below b2))
    have hz2' := b2.size
    clear HT HO HG b2
    obtain ⟨x0, x1, x2, x3, x4, x5, x6, x7, x8, x9, x10, x11⟩ := HT2.out.1.tab
    go_upto_region 6 with (go_at_call 71; refine (HDC.out _ HT2.out.2).mono ?_; rintro e w3 ⟨u3, rfl, hu3, hun3, b3⟩; obtain rfl := hun3 HE.out; clear hu3 hun3)
    clear x0 x1 x2 x3 x4 x5 x6 x7 x8 x9 x10 x11
    have HO3 := Lib.hid (own_later HO2.out b3)
    have HG3 := Lib.hid ((HG2.out.trans (Gr.of_below b3)).trans (Gr.of_below (v := .slice A acc.length c0) ((Below.refl w3.heap.size w3).alloc (Nat.le_refl _) (.cells #[.int .i64 c] 3))))
    have hz3 := b3.size
    clear HT2 HO2 HG2 b3
    go_wp2_with (at_builtin; refine wpList_append_gr (by rfl) (.tmp 23) (.tmp 25) rfl Tryd.underlying24 hi hz0 hz1 hz2 (w3.heap.size + 1) base (.slice A acc.length c0) acc (.slice (some ⟨w3.heap.size, 0, none⟩) 1 1) [c] rfl (HO3.out.alloc _) rfl (by have h := Ints.of_own (own_new w3 3 [c] (by simp)); simpa using h) (by simp; omega) (by simp; omega) ?_; intro v6 w6 ho6 hg6)
    go_ret
    exact ⟨v6, rfl, ho6, HG3.out.trans hg6⟩
  · have hne := hangD_ne hs
    have he : expG T f c = hangD c := by unfold expG; rw [if_pos hs]
    rw [he]
    have HN := Lib.hid hne
    clear h hs he hne
    generalize hangD c = hd at *
    go_enter Tryd.func52, Tryd.ntmps52
    go_upto_region 1 with fail
    generalize w.alloc (.cells t.cells 31) = w1 at *
    obtain ⟨x0, x1, x2, x3, x4, x5, x6, x7, x8, x9, x10, x11⟩ := HT.out.1.tab
    have hz : w.heap.size ≤ w1.heap.size := HB0.out.size
    go_upto_region 3 with (go_at_call 70; refine (HH.out _).mono ?_; rintro e w2 ⟨u, rfl, hu, hun, b2⟩; obtain ⟨ad, cu, rfl, _⟩ := hu.some_ HN.out; have HU := Lib.hid hu; clear hu hun)
    clear x0 x1 x2 x3 x4 x5 x6 x7 x8 x9 x10 x11
    have HO2 := Lib.hid (own_later HO.out b2)
    have HG2 := Lib.hid (HG.out.trans (Gr.of_below b2))
    have hz2' := b2.size
    clear HT HO HG b2
    go_wp2_with (at_builtin; refine wpList_append_gr (by rfl) (.tmp 15) (.tmp 16) rfl Tryd.underlying24 hi hz0 hz1 hz2 w2.heap.size base (.slice A acc.length c0) acc (.slice (some ad) hd.length cu) hd rfl HO2.out rfl HU.out (by omega) (by omega) ?_; intro v6 w6 ho6 hg6)
    go_ret
    exact ⟨v6, rfl, ho6, HG2.out.trans hg6⟩

theorem exp_step {g : Int → List Int} {acc ys : List Int} {k : Nat} {x : Int} (h : ys[k]? = some x) : acc ++ (ys.take (k + 1)).flatMap g = (acc ++ (ys.take k).flatMap g) ++ g x := by
  obtain ⟨h1, e⟩ := List.getElem?_eq_some_iff.1 h
  rw [List.take_succ_eq_append_getElem h1, List.flatMap_append, e]; simp
theorem exp_len {g : Int → List Int} : ∀ (ys : List Int) (k : Nat), (∀ x ∈ ys, (g x).length ≤ 18) → ((ys.take k).flatMap g).length ≤ 18 * k := by
  intro ys
  induction ys with
  | nil => intro k _; simp
  | cons y r ih =>
    intro k h
    cases k with
    | zero => simp
    | succ k =>
      have h1 := ih k fun x hx => h x (List.mem_cons_of_mem _ hx)
      have h2 := h y List.mem_cons_self
      rw [List.take_succ_cons, List.flatMap_cons, List.length_append]; omega
set_option maxRecDepth 100000 in
set_option maxHeartbeats 4000000 in
theorem expand_any (t : Tv) (T : Tab) (hD : DecOk T) : ∀ (f : Nat) (c : Int) (w : World) (base : Nat) (v : Value) (acc : List Int), f ≤ T.decomps.length → TabR w base t T → base ≤ w.heap.size → w.ownsRow base 3 1 v acc.length (acc.map (Value.int .i64)) → fin T.decomps f c = true → acc.length + 40 * f ≤ 150000 →
    Calls Tryd.prog 52 #[t.val, v, .int .i64 c] w (RetGr w base v (acc ++ expG T f c)) := by
  intro f
  induction f with
  | zero =>
    intro c w base v acc hf ht hB ho hfin hl
    rw [fin_zero, decide_eq_true_eq] at hfin
    exact expand_leaf t T hD 0 c w base v acc ht hB ho (.inr hfin) (by omega)
  | succ f ih =>
    intro c w base v acc hf ht hB ho hfin hl
    by_cases hleaf : sylB c = true ∨ findL T.decomps c = []
    · exact expand_leaf t T hD (f + 1) c w base v acc ht hB ho hleaf (by omega)
    have hs : sylB c = false := by cases h : sylB c with | false => rfl | true => exact absurd (.inl h) hleaf
    have hn : findL T.decomps c ≠ [] := fun h => hleaf (.inr h)
    have he : expG T (f + 1) c = (findL T.decomps c).flatMap (expG T f) := by
      unfold expG
      rw [if_neg (by simp [hs]), expF_some hn]
      refine flatMap_same fun x hx => ?_
      rw [if_neg (by rw [(hD.el _ (findL_mem hn) x hx).1]; simp)]
    rw [fin_succ hn, List.all_eq_true] at hfin
    have h2 := hD.two _ (findL_mem hn)
    simp only at h2
    have h18 : ∀ x ∈ findL T.decomps c, (expG T f x).length ≤ 18 := fun x hx => expG_len hD (hfin x hx) (by omega)
    have HIH : Hid (∀ x ∈ findL T.decomps c, ∀ (W : World) (u : Value) (a : List Int), TabR W base t T → base ≤ W.heap.size → W.ownsRow base 3 1 u a.length (a.map (Value.int .i64)) → a.length + 40 * f ≤ 150000 → Calls Tryd.prog 52 #[t.val, u, .int .i64 x] W (RetGr W base u (a ++ expG T f x))) := Lib.hid fun x hx W u a q1 q2 q3 q4 => ih x W base u a (by omega) q1 q2 q3 (hfin x hx) q4
    rw [he]
    have HN := Lib.hid hn
    have HHN := Lib.hid (hangD_none hs)
    obtain ⟨A, c0, rfl, _⟩ := id (Ints.of_own ho)
    have HDC := Lib.hid (fun W (h : TabR W W.heap.size t T) => decompO_any t T c W h hD.srt hD.ne hD.len)
    have H18 := Lib.hid (fun k => exp_len (g := expG T f) (findL T.decomps c) k h18)
    generalize findL T.decomps c = ys at *
    generalize expG T f = g at *
    have HB0 : Hid (Below w.heap.size w (w.alloc (.cells t.cells 31))) := Lib.hid ((Below.refl _ _).alloc (Nat.le_refl _) _)
    have HT : Hid (Tbl (w.alloc (.cells t.cells 31)) w.heap.size t T) := Lib.hid ⟨Blk.new _ _ _, (ht.more hB).later HB0.out⟩
    have HTB : Hid (TabR (w.alloc (.cells t.cells 31)) base t T) := Lib.hid (ht.below (HB0.out.mono hB))
    have HO := Lib.hid (own_later ho HB0.out)
    have HG := Lib.hid (Gr.of_below (v := .slice A acc.length c0) HB0.out)
    have HV := Lib.hid (fun g h => (own_base ho g h).2)
    have HH := Lib.hid (fun W => hdec_any c W)
    clear ht ho hD hleaf hs hn he hfin h18 ih hf
    have heq := fun (w : World) (a : Option Addr) (n c : Nat) => Lib.run_eql_slice_nil (P := Tryd.prog) w 24 3 a n c 0 0 Tryd.underlying24
    go_enter Tryd.func52, Tryd.ntmps52
    go_upto_region 1 with fail
    generalize w.alloc (.cells t.cells 31) = w1 at *
    obtain ⟨x0, x1, x2, x3, x4, x5, x6, x7, x8, x9, x10, x11⟩ := HT.out.1.tab
    obtain ⟨tb, htb⟩ : ∃ tb, w.heap.size = tb := ⟨_, rfl⟩
    have hz : w.heap.size ≤ w1.heap.size := HB0.out.size
    simp only [htb]
    rw [htb] at HT HV
    go_upto_region 4 with (go_at_call 70; refine (HH.out _).mono ?_; rintro e w2 ⟨u, rfl, hu, hun, b2⟩; obtain rfl := hun HHN.out; clear hu hun)
    clear x0 x1 x2 x3 x4 x5 x6 x7 x8 x9 x10 x11
    have HT2 := Lib.hid (HT.out.later b2)
    have HTB2 := Lib.hid (HTB.out.below (b2.mono (by omega)))
    have HO2 := Lib.hid (own_later HO.out b2)
    have HG2 := Lib.hid (HG.out.trans (Gr.of_below b2))
    have hz2 := b2.size
    clear HT HO HG HTB b2
    obtain ⟨x0, x1, x2, x3, x4, x5, x6, x7, x8, x9, x10, x11⟩ := HT2.out.1.tab
    go_upto_region 7 with (go_at_call 71; refine (HDC.out _ HT2.out.2).mono ?_; rintro e w3 ⟨u3, rfl, hu3, hun3, b3⟩; obtain ⟨ad, cu, rfl, _⟩ := (Ints.of_own hu3).some_ HN.out; have HU := Lib.hid (Ints.of_own hu3); have HUB := Lib.hid (fun g h => (own_base hu3 g h).1); clear hu3 hun3)
    clear x0 x1 x2 x3 x4 x5 x6 x7 x8 x9 x10 x11
    have HT3 := Lib.hid (HT2.out.later b3)
    have HTB3 := Lib.hid (HTB2.out.below (b3.mono (by omega)))
    have HO3 := Lib.hid (own_later HO2.out b3)
    have HG3 := Lib.hid (HG2.out.trans (Gr.of_below b3))
    have hz3 := b3.size
    clear HT2 HO2 HG2 HTB2 b3
    go_wp2_with fail
    go_loopw [29, 1] (fun si so wr => ∃ (k : Nat) (vo : Value), k ≤ ys.length ∧ si = .int .i64 k ∧ vo = so ∧ Hid (wr.ownsRow base 3 1 vo (acc ++ (ys.take k).flatMap g).length ((acc ++ (ys.take k).flatMap g).map (Value.int .i64))) ∧ Hid (Gr w3 (.slice A acc.length c0) wr vo)) (fun si _ _ => ys.length - (intOf si).toNat)
    case atStart => exact ⟨0, _, by omega, rfl, rfl, Lib.hid (by simpa using HO3.out), Lib.hid (Gr.refl _ _)⟩
    case round =>
      obtain ⟨k, so, hk, rfl, rfl, HOr, HGr⟩ := hrel
      by_cases hlt : k < ys.length
      · obtain ⟨x, hxk, hxm⟩ := get_of hlt
        have HX := Lib.hid hxk
        have hsz := HGr.out.1.2.2.2.1
        have e1 : wr.cell? (ad.add k) = some (.int .i64 x) := by
          obtain ⟨_, _, he, _, _, _, hcell⟩ := HU.out
          obtain ⟨ad', e2, hb, hc⟩ := hcell k x hxk
          rw [e2] at he
          cases he
          rw [← hc]
          have hnm : ad.block ∉ ownS (.slice A acc.length c0) := fun hm => by
            have h1 := HV.out _ (mem_ownS.1 hm)
            have h2 := HUB.out _ rfl
            omega
          exact World.cell?_of_block (by rw [block_of_add]; exact HGr.out.1.2.2.2.2 _ hnm hb)
        have k0 : (0 : Int) ≤ (k : Int) := by omega
        have k1 : (k : Int) < (ys.length : Int) := by omega
        have HBw : Hid (Blk wr tb 31 #[t.c0, t.c1, t.c2, t.c3, t.c4, t.c5, t.c6, t.c7, t.c8, t.c9, t.c10, t.c11]) := Lib.hid (HGr.out.blk HT3.out.1 (fun h => by have := HV.out _ h; omega))
        obtain ⟨x0, x1, x2, x3, x4, x5, x6, x7, x8, x9, x10, x11⟩ := HBw.out.tab
        have h18 := H18.out k
        have HCx := Lib.hid (HIH.out x hxm wr so _ (HTB3.out.grown HO3.out (by omega) HGr.out) (by omega) HOr.out (by simp only [List.length_append]; omega))
        have HN2 := Lib.hid (exp_step (g := g) (acc := acc) HX.out)
        clear hxk hxm
        go_wp2_with (go_at_call 52; refine HCx.out.mono ?_; rintro e w5 ⟨v5, rfl, ho5, hg5⟩)
        go_roundw
        case rel => exact ⟨k + 1, v5, by omega, by go_num, rfl, Lib.hid (by rw [HN2.out]; exact ho5), Lib.hid (HGr.out.trans hg5)⟩
        case measure => simp [intOf]; omega
      · go_wp2_with fail
        go_ret
        refine ⟨so, rfl, ?_, HG3.out.trans HGr.out⟩
        have := HOr.out
        rwa [List.take_of_length_le (by omega)] at this
end Go.Proofs.YtecpbicfiaifdaaDoor
/-
  The walk through decompose.Form.
-/
namespace Go.Proofs.YtecpbicfiaifdaaDoor
open Go.RowKit ND

theorem flatD_step {T : Tab} {xs : List Int} {k : Nat} {x : Int} (h : xs[k]? = some x) : flatD T (xs.take (k + 1)) = flatD T (xs.take k) ++ expandL T x := by
  obtain ⟨h1, e⟩ := List.getElem?_eq_some_iff.1 h
  rw [List.take_succ_eq_append_getElem h1, flatD_app, e]
  simp [flatD]
set_option maxRecDepth 100000 in
set_option maxHeartbeats 2000000 in
theorem form7_any (t : Tv) (T : Tab) (v : Value) (xs : List Int) (w : World) (ht : TabR w w.heap.size t T) (hck : T.check = 0) (hlen : xs.length ≤ 4096) (hv : Ints w w.heap.size .i64 v xs) :
    Calls Tryd.prog 42 #[t.val, v] w (RetRow w (nfdL T xs)) := by
  obtain ⟨A, c, rfl, _⟩ := id hv
  have HB0 : Hid (Below w.heap.size w (w.alloc (.cells t.cells 31))) := Lib.hid ((Below.refl _ _).alloc (Nat.le_refl _) _)
  have HT : Hid (Tbl (w.alloc (.cells t.cells 31)) w.heap.size t T) := Lib.hid ⟨Blk.new _ _ _, ht.later HB0.out⟩
  have HV := Lib.hid (hv.later HB0.out)
  clear ht hv
  have hD := decOk_of hck
  have HE := Lib.hid (fun c W base u acc h1 h2 h3 h4 => expand_any t T hD T.decomps.length c W base u acc (Nat.le_refl _) h1 h2 h3 (hD.fin c) h4)
  have hdl := hD.len
  have HFL := Lib.hid (fun l => (flatD_len hD l).2)
  have HS := Lib.hid (fun W u (h : TabR W W.heap.size t T) hl hi => sort_big t T u (flatD T xs) W h hck hl hi)
  clear hck hD
  go_enter Tryd.func42, Tryd.ntmps42
  go_upto_region 1 with fail
  generalize w.alloc (.cells t.cells 31) = w1 at *
  obtain ⟨tb, htb⟩ : ∃ tb, w.heap.size = tb := ⟨_, rfl⟩
  rw [htb] at HT
  simp only [htb]
  go_wp2_with fail
  go_loopw [10, 5] (fun si so wr => ∃ (k : Nat) (vo : Value), k ≤ xs.length ∧ si = .int .i64 k ∧ vo = so ∧ Hid (wr.ownsRow w1.heap.size 3 1 vo (flatD T (xs.take k)).length ((flatD T (xs.take k)).map (Value.int .i64))) ∧ Hid (Below w1.heap.size w1 wr)) (fun si _ _ => xs.length - (intOf si).toNat)
  case atStart => exact ⟨0, _, by omega, rfl, rfl, Lib.hid (World.ownsRow_nil _ _ _ _), Lib.hid (Below.refl _ _)⟩
  case round =>
    obtain ⟨k, so, hk, rfl, rfl, HOr, HBr⟩ := hrel
    by_cases hlt : k < xs.length
    · obtain ⟨x, hxk, _⟩ := get_of hlt
      obtain ⟨_, _, hve, _, _, _, hcell⟩ := HV.out
      cases hve
      obtain ⟨ad, rfl, ha, hce⟩ := hcell k x hxk
      have e1 := (HBr.out.cell (p := ad.add k) (by rw [block_of_add]; exact ha)).trans hce
      have HX := Lib.hid hxk
      have k0 : (0 : Int) ≤ (k : Int) := by omega
      have k1 : (k : Int) < (xs.length : Int) := by omega
      have HTr := Lib.hid (HT.out.later HBr.out)
      have hfl := HFL.out (xs.take k)
      rw [List.length_take_of_le hk] at hfl
      have HCx := Lib.hid (HE.out x wr w1.heap.size so _ (HT.out.2.below HBr.out) HBr.out.size HOr.out (by omega))
      have HN := Lib.hid (flatD_step (T := T) HX.out)
      clear hcell hxk ha hce
      obtain ⟨x0, x1, x2, x3, x4, x5, x6, x7, x8, x9, x10, x11⟩ := HTr.out.1.tab
      go_wp2_with (go_at_call 52; refine HCx.out.mono ?_; rintro e w5 ⟨v5, rfl, ho5, hg5⟩)
      go_roundw
      case rel => exact ⟨k + 1, v5, by omega, by go_num, rfl, Lib.hid (by rw [HN.out]; exact ho5), Lib.hid (HBr.out.trans (hg5.below (fun g h => (own_base HOr.out g h).1) HBr.out.size))⟩
      case measure => simp [intOf]; omega
    · have HOX : Hid (wr.ownsRow w1.heap.size 3 1 so (flatD T xs).length ((flatD T xs).map (Value.int .i64))) := Lib.hid (by have := HOr.out; rwa [List.take_of_length_le (by omega)] at this)
      have HTr := Lib.hid (HT.out.later HBr.out)
      have hfl := HFL.out xs
      have HSx := Lib.hid (HS.out wr so HTr.out.2 (by omega) (Ints.of_own HOX.out))
      obtain ⟨x0, x1, x2, x3, x4, x5, x6, x7, x8, x9, x10, x11⟩ := HTr.out.1.tab
      go_wp2_with (go_at_call 51; refine HSx.out.mono ?_; rintro e w5 ⟨v5, rfl, ho5, b5⟩)
      go_ret
      exact ⟨v5, rfl, row_le ho5 (by have := HB0.out.size; have := HBr.out.size; omega), below_next HB0.out (below_then HBr.out (Nat.le_refl _) b5)⟩
end Go.Proofs.YtecpbicfiaifdaaDoor
/-
  The walk through decompose.NFD.
-/
namespace Go.Proofs.YtecpbicfiaifdaaDoor
open Go.RowKit ND

set_option maxRecDepth 100000 in
set_option maxHeartbeats 2000000 in
theorem nfd7_any (t : Tv) (T : Tab) (v : Value) (xs : List Int) (w : World) (ht : TabR w w.heap.size t T) (hg : Glob w) (hv : Ints w w.heap.size .i64 v xs) :
    Calls Tryd.prog 33 #[t.val, v] w (RetTwo w (nfdR T (accE T xs) xs).1 (nfdR T (accE T xs) xs).2) := by
  obtain ⟨A, c, rfl, _⟩ := id hv
  have HB0 : Hid (Below w.heap.size w (w.alloc (.cells t.cells 31))) := Lib.hid ((Below.refl _ _).alloc (Nat.le_refl _) _)
  have HT : Hid (Tbl (w.alloc (.cells t.cells 31)) w.heap.size t T) := Lib.hid ⟨Blk.new _ _ _, ht.later HB0.out⟩
  have HV := Lib.hid (hv.later HB0.out)
  have HG := Lib.hid (hg.later HB0.out)
  clear ht hv hg
  have HO := Lib.hid (order_any t T _ xs _ HT.out.2 HG.out HV.out)
  by_cases h0 : accE T xs = 0
  · obtain ⟨hck, hlen, _⟩ := accE_zero h0
    have HF := Lib.hid (fun W (h : Below (w.alloc (.cells t.cells 31)).heap.size (w.alloc (.cells t.cells 31)) W) => form7_any t T _ xs W (HT.out.later h).2 hck hlen (HV.out.later h))
    have hln := nfdL_length (T := T) xs
    by_cases hfl : 4096 < (flatD T xs).length
    · have HE : Hid (nfdR T (accE T xs) xs = ([], 7)) := Lib.hid (by rw [h0]; exact nfdR_full hfl)
      rw [h0] at HO
      have g : (4096 : Int) < ((nfdL T xs).length : Int) := by omega
      clear h0 hck hfl hln
      generalize ordL T xs = ol at *
      generalize nfdL T xs = nl at *
      go_enter Tryd.func33, Tryd.ntmps33
      go_upto_region 1 with fail
      generalize w.alloc (.cells t.cells 31) = w1 at *
      obtain ⟨x0, x1, x2, x3, x4, x5, x6, x7, x8, x9, x10, x11⟩ := HT.out.1.tab
      go_upto_region 2 with (go_at_call 41; refine HO.out.mono ?_; rintro e w2 ⟨u2, rfl, ho2, b2⟩; obtain ⟨A2, c2, rfl, _⟩ := id (Ints.of_own ho2); clear ho2)
      clear x0 x1 x2 x3 x4 x5 x6 x7 x8 x9 x10 x11
      obtain ⟨x0, x1, x2, x3, x4, x5, x6, x7, x8, x9, x10, x11⟩ := (HT.out.later b2).1.tab
      go_wp2_with (go_at_call 42; refine (HF.out _ b2).mono ?_; rintro e w3 ⟨u3, rfl, ho3, b3⟩; obtain ⟨A3, c3, rfl, _⟩ := id (Ints.of_own ho3))
      go_ret2
      rw [HE.out]
      exact ⟨_, rfl, World.ownsRow_nil _ _ _ _, below_next (below_next HB0.out b2) b3⟩
    · have HE : Hid (nfdR T (accE T xs) xs = (nfdL T xs, 0)) := Lib.hid (by rw [h0]; exact nfdR_ok (by omega))
      rw [h0] at HO
      have g : ¬ (4096 : Int) < ((nfdL T xs).length : Int) := by omega
      clear h0 hck hfl hln
      generalize ordL T xs = ol at *
      generalize nfdL T xs = nl at *
      go_enter Tryd.func33, Tryd.ntmps33
      go_upto_region 1 with fail
      generalize w.alloc (.cells t.cells 31) = w1 at *
      obtain ⟨x0, x1, x2, x3, x4, x5, x6, x7, x8, x9, x10, x11⟩ := HT.out.1.tab
      go_upto_region 2 with (go_at_call 41; refine HO.out.mono ?_; rintro e w2 ⟨u2, rfl, ho2, b2⟩; obtain ⟨A2, c2, rfl, _⟩ := id (Ints.of_own ho2); clear ho2)
      clear x0 x1 x2 x3 x4 x5 x6 x7 x8 x9 x10 x11
      obtain ⟨x0, x1, x2, x3, x4, x5, x6, x7, x8, x9, x10, x11⟩ := (HT.out.later b2).1.tab
      go_wp2_with (go_at_call 42; refine (HF.out _ b2).mono ?_; rintro e w3 ⟨u3, rfl, ho3, b3⟩; obtain ⟨A3, c3, rfl, _⟩ := id (Ints.of_own ho3))
      go_ret2
      rw [HE.out]
      exact ⟨_, rfl, row_le ho3 (by have := HB0.out.size; have := b2.size; omega), below_next (below_next HB0.out b2) b3⟩
  · have HE : Hid (nfdR T (accE T xs) xs = ([], accE T xs)) := Lib.hid (nfdR_err h0)
    have hb : (accE T xs != 0) = true := by simpa using h0
    clear h0
    go_enter Tryd.func33, Tryd.ntmps33
    go_upto_region 1 with fail
    generalize w.alloc (.cells t.cells 31) = w1 at *
    obtain ⟨x0, x1, x2, x3, x4, x5, x6, x7, x8, x9, x10, x11⟩ := HT.out.1.tab
    go_wp2_with (go_at_call 41; refine HO.out.mono ?_; rintro e w2 ⟨u2, rfl, ho2, b2⟩; obtain ⟨A2, c2, rfl, _⟩ := id (Ints.of_own ho2); clear ho2)
    go_ret2
    rw [HE.out]
    exact ⟨_, rfl, World.ownsRow_nil _ _ _ _, below_next HB0.out b2⟩

end Go.Proofs.YtecpbicfiaifdaaDoor
/-
  Whether two sequences have the same normalization form D.
-/
namespace Go.Proofs.YtecpbicfiaifdaaDoor
open Go.RowKit ND

/-- What Equivalent hands back. -/
def equivR (T : Tab) (a b : List Int) : Bool × Int :=
  if (nfdR T (accE T a) a).2 ≠ 0 then (false, (nfdR T (accE T a) a).2) else if (nfdR T (accE T b) b).2 ≠ 0 then (false, (nfdR T (accE T b) b).2) else (decide ((nfdR T (accE T a) a).1 = (nfdR T (accE T b) b).1), 0)
end Go.Proofs.YtecpbicfiaifdaaDoor
/-
  The walk through decompose.Equivalent.
-/
namespace Go.Proofs.YtecpbicfiaifdaaDoor
open Go.RowKit ND

set_option maxRecDepth 100000 in
set_option maxHeartbeats 2000000 in
theorem equiv7_any (t : Tv) (T : Tab) (v : Value) (xs : List Int) (u : Value) (us : List Int) (w : World) (ht : TabR w w.heap.size t T) (hg : Glob w) (hv : Ints w w.heap.size .i64 v xs) (hu : Ints w w.heap.size .i64 u us) :
    Calls Tryd.prog 19 #[t.val, v, u] w fun e w' => e = .returned (.tuple #[.bool (equivR T xs us).1, .int .i64 (equivR T xs us).2]) ∧ Below w.heap.size w w' := by
  obtain ⟨A, c, rfl, _⟩ := id hv
  obtain ⟨A', c', rfl, _⟩ := id hu
  have HB0 : Hid (Below w.heap.size w (w.alloc (.cells t.cells 31))) := Lib.hid ((Below.refl _ _).alloc (Nat.le_refl _) _)
  have HT : Hid (Tbl (w.alloc (.cells t.cells 31)) w.heap.size t T) := Lib.hid ⟨Blk.new _ _ _, ht.later HB0.out⟩
  have HV := Lib.hid (hv.later HB0.out)
  have HU := Lib.hid (hu.later HB0.out)
  have HG := Lib.hid (hg.later HB0.out)
  clear ht hv hu hg
  have H1 := Lib.hid (fun W (h : Below (w.alloc (.cells t.cells 31)).heap.size (w.alloc (.cells t.cells 31)) W) hi => nfd7_any t T (.slice A xs.length c) xs W (HT.out.later h).2 (HG.out.later h) hi)
  have H2 := Lib.hid (fun W (h : Below (w.alloc (.cells t.cells 31)).heap.size (w.alloc (.cells t.cells 31)) W) hi => nfd7_any t T (.slice A' us.length c') us W (HT.out.later h).2 (HG.out.later h) hi)
  unfold equivR
  obtain ⟨y1, e1, h1⟩ : ∃ ys er, nfdR T (accE T xs) xs = (ys, er) := ⟨_, _, rfl⟩
  obtain ⟨y2, e2, h2⟩ : ∃ ys er, nfdR T (accE T us) us = (ys, er) := ⟨_, _, rfl⟩
  rw [h1] at H1
  rw [h2] at H2
  rw [h1, h2]
  clear h1 h2
  show Calls _ _ _ _ fun e w' => e = .returned (.tuple #[.bool (if e1 ≠ 0 then (false, e1) else if e2 ≠ 0 then (false, e2) else (decide (y1 = y2), 0)).1, .int .i64 (if e1 ≠ 0 then (false, e1) else if e2 ≠ 0 then (false, e2) else (decide (y1 = y2), 0)).2]) ∧ _
  by_cases z1 : e1 = 0
  · subst z1
    by_cases z2 : e2 = 0
    · subst z2
      obtain ⟨R, hR⟩ : ∃ R, R = decide (y1 = y2) := ⟨_, rfl⟩
      have HR := Lib.hid hR
      rw [← hR]
      clear hR
      go_enter Tryd.func19, Tryd.ntmps19
      go_upto_region 1 with fail
      generalize w.alloc (.cells t.cells 31) = w1 at *
      obtain ⟨x0, x1, x2, x3, x4, x5, x6, x7, x8, x9, x10, x11⟩ := HT.out.1.tab
      go_upto_region 4 with (go_at_call 33; refine (H1.out _ (Below.refl _ _) HV.out).mono ?_; rintro e w2 ⟨u2, rfl, ho2, b2⟩; obtain ⟨A2, c2, rfl, _⟩ := id (Ints.of_own ho2); have HI2 := Lib.hid (Ints.of_own ho2); clear ho2)
      clear x0 x1 x2 x3 x4 x5 x6 x7 x8 x9 x10 x11
      obtain ⟨x0, x1, x2, x3, x4, x5, x6, x7, x8, x9, x10, x11⟩ := (HT.out.later b2).1.tab
      go_upto_region 7 with (go_at_call 33; refine (H2.out _ b2 (HU.out.later b2)).mono ?_; rintro e w3 ⟨u3, rfl, ho3, b3⟩; obtain ⟨A3, c3, rfl, _⟩ := id (Ints.of_own ho3); have HI3 := Lib.hid (Ints.of_own ho3); clear ho3)
      clear x0 x1 x2 x3 x4 x5 x6 x7 x8 x9 x10 x11
      have HEQ : Hid (Calls Tryd.prog 23 #[.slice A2 y1.length c2, .slice A3 y2.length c3] w3 fun e V' => e = .returned (.bool R) ∧ Below w3.heap.size w3 V') := Lib.hid (by
        have h := equal_any _ _ y1 y2 w3 (HI2.out.later b3) HI3.out
        rw [← HR.out] at h; exact h)
      go_wp2_with (go_at_call 23; refine HEQ.out.mono ?_; rintro e w4 ⟨rfl, b4⟩)
      go_ret2
      exact ⟨rfl, below_next (below_next (below_next HB0.out b2) b3) b4⟩
    · have hb : (e2 != 0) = true := by simpa using z2
      have HE : Hid ((if (0 : Int) ≠ 0 then (false, (0 : Int)) else if e2 ≠ 0 then (false, e2) else (decide (y1 = y2), 0)) = (false, e2)) := Lib.hid (by rw [if_neg (by omega), if_pos z2])
      rw [HE.out]
      clear z2
      go_enter Tryd.func19, Tryd.ntmps19
      go_upto_region 1 with fail
      generalize w.alloc (.cells t.cells 31) = w1 at *
      obtain ⟨x0, x1, x2, x3, x4, x5, x6, x7, x8, x9, x10, x11⟩ := HT.out.1.tab
      go_upto_region 4 with (go_at_call 33; refine (H1.out _ (Below.refl _ _) HV.out).mono ?_; rintro e w2 ⟨u2, rfl, ho2, b2⟩; obtain ⟨A2, c2, rfl, _⟩ := id (Ints.of_own ho2); clear ho2)
      clear x0 x1 x2 x3 x4 x5 x6 x7 x8 x9 x10 x11
      obtain ⟨x0, x1, x2, x3, x4, x5, x6, x7, x8, x9, x10, x11⟩ := (HT.out.later b2).1.tab
      go_wp2_with (go_at_call 33; refine (H2.out _ b2 (HU.out.later b2)).mono ?_; rintro e w3 ⟨u3, rfl, ho3, b3⟩; obtain ⟨A3, c3, rfl, _⟩ := id (Ints.of_own ho3); clear ho3)
      go_ret2
      exact ⟨rfl, below_next (below_next HB0.out b2) b3⟩
  · have hb : (e1 != 0) = true := by simpa using z1
    have HE : Hid ((if e1 ≠ 0 then (false, e1) else if e2 ≠ 0 then (false, e2) else (decide (y1 = y2), 0)) = (false, e1)) := Lib.hid (by rw [if_pos z1])
    rw [HE.out]
    clear z1
    go_enter Tryd.func19, Tryd.ntmps19
    go_upto_region 1 with fail
    generalize w.alloc (.cells t.cells 31) = w1 at *
    obtain ⟨x0, x1, x2, x3, x4, x5, x6, x7, x8, x9, x10, x11⟩ := HT.out.1.tab
    go_wp2_with (go_at_call 33; refine (H1.out _ (Below.refl _ _) HV.out).mono ?_; rintro e w2 ⟨u2, rfl, ho2, b2⟩; obtain ⟨A2, c2, rfl, _⟩ := id (Ints.of_own ho2); clear ho2)
    go_ret2
    exact ⟨rfl, below_next HB0.out b2⟩

end Go.Proofs.YtecpbicfiaifdaaDoor
/-
  The walks through decompose.Full and decompose.One.
-/
namespace Go.Proofs.YtecpbicfiaifdaaDoor
open Go.RowKit ND

set_option maxRecDepth 100000 in
set_option maxHeartbeats 1000000 in
theorem full7_any (t : Tv) (T : Tab) (hD : DecOk T) (c : Int) (w : World) (ht : TabR w w.heap.size t T) :
    Calls Tryd.prog 48 #[t.val, .int .i64 c] w (RetRow w (expandL T c)) := by
  have HB0 : Hid (Below w.heap.size w (w.alloc (.cells t.cells 31))) := Lib.hid ((Below.refl _ _).alloc (Nat.le_refl _) _)
  have HT : Hid (Tbl (w.alloc (.cells t.cells 31)) w.heap.size t T) := Lib.hid ⟨Blk.new _ _ _, ht.later HB0.out⟩
  clear ht
  have HE := Lib.hid (fun W (h : Below (w.alloc (.cells t.cells 31)).heap.size (w.alloc (.cells t.cells 31)) W) => expand_any t T hD T.decomps.length c W (w.alloc (.cells t.cells 31)).heap.size (.slice none 0 0) [] (Nat.le_refl _) (HT.out.2.below h) h.size (World.ownsRow_nil _ _ _ _) (hD.fin c) (by have := hD.len; simp; omega))
  go_enter Tryd.func48, Tryd.ntmps48
  go_upto_region 1 with fail
  generalize w.alloc (.cells t.cells 31) = w1 at *
  obtain ⟨x0, x1, x2, x3, x4, x5, x6, x7, x8, x9, x10, x11⟩ := HT.out.1.tab
  go_wp2_with (go_at_call 52; refine (HE.out _ (Below.refl _ _)).mono ?_; rintro e w5 ⟨v5, rfl, ho5, hg5⟩)
  go_ret
  have hz := HB0.out.size
  rw [expG_full] at ho5
  exact ⟨v5, rfl, row_le ho5 hz, below_next HB0.out (hg5.below (fun g h => by cases h) (Nat.le_refl _))⟩

/-- What One hands back. -/
def oneL (T : Tab) (c : Int) : List Int := if scalarB c = true ∧ T.check = 0 then expandL T c else []
set_option maxRecDepth 100000 in
set_option maxHeartbeats 1000000 in
theorem one7_any (t : Tv) (T : Tab) (c : Int) (w : World) (ht : TabR w w.heap.size t T) (hg : Glob w) :
    Calls Tryd.prog 39 #[t.val, .int .i64 c] w (RetRow w (oneL T c)) := by
  have HB0 : Hid (Below w.heap.size w (w.alloc (.cells t.cells 31))) := Lib.hid ((Below.refl _ _).alloc (Nat.le_refl _) _)
  have HT : Hid (Tbl (w.alloc (.cells t.cells 31)) w.heap.size t T) := Lib.hid ⟨Blk.new _ _ _, ht.later HB0.out⟩
  have HG := Lib.hid (hg.later HB0.out)
  clear ht hg
  have HL := Lib.hid (length_any c)
  have HK := Lib.hid (fun W (h : Below (w.alloc (.cells t.cells 31)).heap.size (w.alloc (.cells t.cells 31)) W) => check_table t T W (HT.out.later h).2 (HG.out.later h))
  cases hs : scalarB c
  · have he : oneL T c = [] := by unfold oneL; rw [if_neg (by simp [hs])]
    rw [lenC_zero.2 hs] at HL
    rw [he]
    clear hs he HK
    go_enter Tryd.func39, Tryd.ntmps39
    go_upto_region 1 with fail
    generalize w.alloc (.cells t.cells 31) = w1 at *
    obtain ⟨x0, x1, x2, x3, x4, x5, x6, x7, x8, x9, x10, x11⟩ := HT.out.1.tab
    go_wp2_with (go_at_call 46; refine (HL.out _).mono ?_; rintro e w2 ⟨rfl, rfl⟩)
    go_ret
    exact ⟨_, rfl, World.ownsRow_nil _ _ _ _, HB0.out⟩
  · have hl : (((lenC c : Nat) : Int) == 0) = false := by
      have : lenC c ≠ 0 := fun h => by rw [lenC_zero, hs] at h; cases h
      simpa using this
    generalize lenC c = lc at *
    by_cases hck : T.check = 0
    · have he : oneL T c = expandL T c := by unfold oneL; rw [if_pos ⟨hs, hck⟩]
      have HF := Lib.hid (fun W (h : Below (w.alloc (.cells t.cells 31)).heap.size (w.alloc (.cells t.cells 31)) W) => full7_any t T (decOk_of hck) c W (HT.out.later h).2)
      rw [hck] at HK
      rw [he]
      clear he hck hs
      go_enter Tryd.func39, Tryd.ntmps39
      go_upto_region 1 with fail
      generalize w.alloc (.cells t.cells 31) = w1 at *
      obtain ⟨x0, x1, x2, x3, x4, x5, x6, x7, x8, x9, x10, x11⟩ := HT.out.1.tab
      go_upto_region 3 with (first | (go_at_call 46; refine (HL.out _).mono ?_; rintro e w2 ⟨rfl, rfl⟩) | (go_at_call 47; refine (HK.out _ (Below.refl _ _)).mono ?_; rintro e w3 ⟨rfl, b3⟩))
      clear x0 x1 x2 x3 x4 x5 x6 x7 x8 x9 x10 x11
      obtain ⟨x0, x1, x2, x3, x4, x5, x6, x7, x8, x9, x10, x11⟩ := (HT.out.later b3).1.tab
      go_wp2_with (go_at_call 48; refine (HF.out _ b3).mono ?_; rintro e w4 ⟨u, rfl, ho, b4⟩)
      go_ret
      exact ⟨u, rfl, row_le ho (by have := HB0.out.size; have := b3.size; omega), below_next (below_next HB0.out b3) b4⟩
    · have he : oneL T c = [] := by unfold oneL; rw [if_neg (fun h => hck h.2)]
      have hcb : (T.check != 0) = true := by simpa using hck
      rw [he]
      clear he hck hs
      generalize T.check = ck at *
      go_enter Tryd.func39, Tryd.ntmps39
      go_upto_region 1 with fail
      generalize w.alloc (.cells t.cells 31) = w1 at *
      obtain ⟨x0, x1, x2, x3, x4, x5, x6, x7, x8, x9, x10, x11⟩ := HT.out.1.tab
      go_wp2_with (first | (go_at_call 46; refine (HL.out _).mono ?_; rintro e w2 ⟨rfl, rfl⟩) | (go_at_call 47; refine (HK.out _ (Below.refl _ _)).mono ?_; rintro e w3 ⟨rfl, b3⟩))
      go_ret
      exact ⟨_, rfl, World.ownsRow_nil _ _ _ _, (below_next HB0.out b3)⟩
end Go.Proofs.YtecpbicfiaifdaaDoor
/-
  The walk through awake of the laws of layer 7: the example of its chapter.
-/
namespace Go.Proofs.YtecpbicfiaifdaaDoor
open Go.RowKit ND

def tab7 : Tab := ⟨[], [(769, 769, 230)], [], [], [], [], [], [], [], [(233, [101, 769])], [], []⟩
/-- The example's tables. -/
def RetEx7 (w : World) (e : Ending) (w' : World) : Prop := ∃ t : Tv, e = .returned t.val ∧ TabR w' w'.heap.size t tab7 ∧ Below w.heap.size w w'

set_option maxRecDepth 100000 in
set_option maxHeartbeats 1000000 in
theorem example7_any (w : World) : Calls Tryd.prog 38 #[] w (RetEx7 w) := by
  go_enter Tryd.func38, Tryd.ntmps38
  go_wp2
  have b0 : Below w.heap.size w (w.alloc (.cells #[.slice none 0 0, .slice (some ⟨w.heap.size + 1, 0, none⟩) 1 1, .slice none 0 0, .slice none 0 0, .slice none 0 0, .slice none 0 0, .slice none 0 0, .slice none 0 0, .slice none 0 0, .slice (some ⟨w.heap.size + 1 + 1 + 1, 0, none⟩) 1 1, .slice none 0 0, .slice none 0 0] 31)) := (Below.refl _ _).alloc (Nat.le_refl _) _
  have hX : Blk (w.alloc (.cells #[.slice none 0 0, .slice (some ⟨w.heap.size + 1, 0, none⟩) 1 1, .slice none 0 0, .slice none 0 0, .slice none 0 0, .slice none 0 0, .slice none 0 0, .slice none 0 0, .slice none 0 0, .slice (some ⟨w.heap.size + 1 + 1 + 1, 0, none⟩) 1 1, .slice none 0 0, .slice none 0 0] 31)) w.heap.size 31 #[.slice none 0 0, .slice (some ⟨w.heap.size + 1, 0, none⟩) 1 1, .slice none 0 0, .slice none 0 0, .slice none 0 0, .slice none 0 0, .slice none 0 0, .slice none 0 0, .slice none 0 0, .slice (some ⟨w.heap.size + 1 + 1 + 1, 0, none⟩) 1 1, .slice none 0 0, .slice none 0 0] := Blk.new _ _ _
  have z0 : (w.alloc (.cells #[.slice none 0 0, .slice (some ⟨w.heap.size + 1, 0, none⟩) 1 1, .slice none 0 0, .slice none 0 0, .slice none 0 0, .slice none 0 0, .slice none 0 0, .slice none 0 0, .slice none 0 0, .slice (some ⟨w.heap.size + 1 + 1 + 1, 0, none⟩) 1 1, .slice none 0 0, .slice none 0 0] 31)).heap.size = w.heap.size + 1 := by simp
  generalize (w.alloc (.cells #[.slice none 0 0, .slice (some ⟨w.heap.size + 1, 0, none⟩) 1 1, .slice none 0 0, .slice none 0 0, .slice none 0 0, .slice none 0 0, .slice none 0 0, .slice none 0 0, .slice none 0 0, .slice (some ⟨w.heap.size + 1 + 1 + 1, 0, none⟩) 1 1, .slice none 0 0, .slice none 0 0] 31)) = w0 at *
  have b1 : Below w0.heap.size w0 (w0.alloc (.cells #[.int .i64 769, .int .i64 769, .int .i64 230] 58)) := (Below.refl _ _).alloc (Nat.le_refl _) _
  have hs := lit_span w0 769 769 230
  have z1 : (w0.alloc (.cells #[.int .i64 769, .int .i64 769, .int .i64 230] 58)).heap.size = w.heap.size + 1 + 1 := by simp [z0]
  rw [z0] at hs
  generalize w0.alloc (.cells #[.int .i64 769, .int .i64 769, .int .i64 230] 58) = w1 at *
  have b2 : Below w1.heap.size w1 (w1.alloc (.cells #[.int .i64 101, .int .i64 769] 3)) := (Below.refl _ _).alloc (Nat.le_refl _) _
  have hi := lit_i w1 [101, 769] (by simp)
  simp only [List.map_cons, List.map_nil, List.length_cons, List.length_nil] at hi
  have z2 : (w1.alloc (.cells #[.int .i64 101, .int .i64 769] 3)).heap.size = w.heap.size + 1 + 1 + 1 := by simp [z1]
  rw [z1] at hi
  generalize w1.alloc (.cells #[.int .i64 101, .int .i64 769] 3) = w2 at *
  have b3 : Below w2.heap.size w2 (w2.alloc (.cells #[.int .i64 233, .slice (some ⟨w.heap.size + 1 + 1, 0, none⟩) 2 2] 49)) := (Below.refl _ _).alloc (Nat.le_refl _) _
  have hm := lit_map w2 233 _ [101, 769] hi
  simp only [z2] at hm
  generalize w2.alloc (.cells #[.int .i64 233, .slice (some ⟨w.heap.size + 1 + 1, 0, none⟩) 2 2] 49) = w3 at *
  have hs3 := (hs.later b2).later b3
  have hX3 := (((hX.later b1).later b2).later b3)
  have bb := below_next (below_next (below_next b0 b1) b2) b3
  obtain ⟨x0, x1, x2, x3, x4, x5, x6, x7, x8, x9, x10, x11⟩ := hX3.tab
  exact bodyPost_ret (v := Tv.val ⟨.slice none 0 0, .slice (some ⟨w.heap.size + 1, 0, none⟩) 1 1, .slice none 0 0, .slice none 0 0, .slice none 0 0, .slice none 0 0, .slice none 0 0, .slice none 0 0, .slice none 0 0, .slice (some ⟨w.heap.size + 1 + 1 + 1, 0, none⟩) 1 1, .slice none 0 0, .slice none 0 0⟩) (by simp [results, Tryd.results38, go_sem, x0, x1, x2, x3, x4, x5, x6, x7, x8, x9, x10, x11]) rfl ⟨⟨.slice none 0 0, .slice (some ⟨w.heap.size + 1, 0, none⟩) 1 1, .slice none 0 0, .slice none 0 0, .slice none 0 0, .slice none 0 0, .slice none 0 0, .slice none 0 0, .slice none 0 0, .slice (some ⟨w.heap.size + 1 + 1 + 1, 0, none⟩) 1 1, .slice none 0 0, .slice none 0 0⟩, rfl, ⟨Spans.none_, hs3, Spans.none_, Spans.none_, Spans.none_, Spans.none_, Spans.none_, Mapps.none_, Mapps.none_, hm, Ints.none_, Mapps.none_⟩, bb⟩

theorem nfd_tab7 : nfdR tab7 (accE tab7 [233]) [233] = ([101, 769], 0) := by decide +kernel
theorem one_tab7 : oneL tab7 233 = [101, 769] := by decide +kernel

set_option maxRecDepth 100000 in
set_option maxHeartbeats 2000000 in
theorem awake7 (w : World) (hg : Glob w) : Calls Tryd.prog 20 #[] w fun e w' => e = .returned (.bool true) ∧ Below w.heap.size w w' := by
  have HG := Lib.hid (fun W (h : Below w.heap.size w W) => hg.later h)
  clear hg
  have HN := Lib.hid (fun t v W h h2 h3 => nfd7_any t tab7 v [233] W h h2 h3)
  have HO := Lib.hid (fun t W h h2 => one7_any t tab7 233 W h h2)
  rw [nfd_tab7] at HN
  rw [one_tab7] at HO
  go_enter Tryd.func20, Tryd.ntmps20
  go_upto_region 2 with (first
    | (go_at_call 38; refine (example7_any _).mono ?_; rintro e w1 ⟨t1, rfl, ht1, b1⟩)
    | (go_at_call 33; have bl := (Below.refl w1.heap.size w1).alloc (Nat.le_refl _) (.cells #[.int .i64 233] 3); refine (HN.out t1 _ _ (ht1.later bl) (HG.out _ (below_next b1 bl)) (by have h := Ints.of_own (own_new w1 3 [233] (by simp)); simpa using h)).mono ?_; rintro e w2 ⟨u2, rfl, ho2, b2⟩; obtain ⟨A2, c2, rfl, _⟩ := id (Ints.of_own ho2); have HU2 := Lib.hid (Ints.of_own ho2); have HB2 := Lib.hid (below_next (below_next b1 bl) b2); clear ho2 b2 bl b1 ht1))
  go_wp2_with (first
    | (go_at_call 15; have bl := (Below.refl w2.heap.size w2).alloc (Nat.le_refl _) (.cells #[.int .i64 101, .int .i64 769] 3); refine (same_of _ _ [101, 769] [101, 769] _ (HU2.out.later bl) (by have h := Ints.of_own (own_new w2 3 [101, 769] (by simp)); simpa using h) rfl).mono ?_; rintro e w3 ⟨rfl, b3⟩; have HB3 := Lib.hid (below_next (below_next HB2.out bl) b3); clear bl b3 HU2)
    | (go_at_call 38; refine (example7_any _).mono ?_; rintro e w4 ⟨t4, rfl, ht4, b4⟩; have HB4 := Lib.hid (below_next HB3.out b4); clear b4)
    | (go_at_call 39; refine (HO.out t4 _ ht4 (HG.out _ HB4.out)).mono ?_; rintro e w5 ⟨u5, rfl, ho5, b5⟩; obtain ⟨A5, c5, rfl, _⟩ := id (Ints.of_own ho5); have HU5 := Lib.hid (Ints.of_own ho5); have HB5 := Lib.hid (below_next HB4.out b5); clear ho5 b5 ht4)
    | (go_at_call 15; have bl := (Below.refl w5.heap.size w5).alloc (Nat.le_refl _) (.cells #[.int .i64 101, .int .i64 769] 3); refine (same_of _ _ [101, 769] [101, 769] _ (HU5.out.later bl) (by have h := Ints.of_own (own_new w5 3 [101, 769] (by simp)); simpa using h) rfl).mono ?_; rintro e w6 ⟨rfl, b6⟩; have HB6 := Lib.hid (below_next (below_next HB5.out bl) b6); clear bl b6))
  go_ret
  exact ⟨rfl, HB6.out⟩
end Go.Proofs.YtecpbicfiaifdaaDoor
/-
  Short sequences have a normalization form D.
-/
namespace Go.Proofs.YtecpbicfiaifdaaDoor
open Go.RowKit ND

theorem nfd7_eq (t : Tv) (T : Tab) (v : Value) (xs : List Int) (w : World) (r : List Int × Int) (ht : TabR w w.heap.size t T) (hg : Glob w) (hv : Ints w w.heap.size .i64 v xs) (hr : nfdR T (accE T xs) xs = r) :
    Calls Tryd.prog 33 #[t.val, v] w (RetTwo w r.1 r.2) := by subst hr; exact nfd7_any t T v xs w ht hg hv
/-- A short sequence of scalar values has a normalization form D. -/
theorem nfd_short {T : Tab} (hck : T.check = 0) {l : List Int} (hs : l.all scalarB = true) (hl : l.length ≤ 200) : nfdR T (accE T l) l = (nfdL T l, 0) := by
  have h1 := (flatD_len (decOk_of hck) l).2
  rw [accE_ok hck (by omega) hs]; exact nfdR_ok (by omega)
theorem nfd_len {T : Tab} (hck : T.check = 0) (l : List Int) : (nfdL T l).length ≤ 18 * l.length := by
  rw [nfdL_length]; exact (flatD_len (decOk_of hck) l).2
end Go.Proofs.YtecpbicfiaifdaaDoor
