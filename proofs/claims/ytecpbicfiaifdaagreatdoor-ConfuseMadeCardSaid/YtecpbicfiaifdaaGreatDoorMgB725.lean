/-
  Merged texts: lemmas and walks that the last text of this claim leans on.
-/
import Derived.Test.YtecpbicfiaifdaaGreatDoorMgB724
import Derived.Test.YtecpbicfiaifdaaGreatDoorMgB723
import Derived.Test.YtecpbicfiaifdaaGreatDoorMgB720
import Derived.Test.YtecpbicfiaifdaaGreatDoorMgB721
import Derived.Test.YtecpbicfiaifdaaGreatDoorMgB722
import Derived.Test.YtecpbicfiaifdaaGreatDoorMgB77
import Derived.Test.YtecpbicfiaifdaaGreatDoorMgB78
import Derived.Test.YtecpbicfiaifdaaGreatDoorMgB76
/-
  The walks through decompose.expand, Full and One.
-/
namespace Go.Proofs.YtecpbicfiaifdaaGreatDoor
open Go.RowKit ND

/-- The full decomposition, f rounds deep. -/
def expG (T : Tab) (f : Nat) (c : Int) : List Int := if sylB c = true then hangD c else expF T.decomps f c
theorem expG_full (T : Tab) (c : Int) : expG T T.decomps.length c = expandL T c := rfl
theorem expG_len {T : Tab} (hD : DecOk T) {f : Nat} {c : Int} (h : fin T.decomps f c = true) (hf : f ≤ T.decomps.length) : (expG T f c).length ≤ 18 := by
  unfold expG
  split
  · have := hangD_len c; omega
  · rw [← (fin_up h _ hf).2]; exact hD.le c
/-- What comes back is v's row, or a new one. -/
def RetGr (w : World) (base : Nat) (v : Value) (ys : List Int) (e : Ending) (w' : World) : Prop :=
  ∃ v', e = .returned v' ∧ w'.ownsRow base 3 1 v' ys.length (ys.map (Value.int .i64)) ∧ Gr w v w' v'
theorem TabR.grown {w w' : World} {base : Nat} {t : Tv} {T : Tab} {u v : Value} {e : TypeId} {size n : Nat} {xs : List Value} (ht : TabR w base t T) (ho : w.ownsRow base e size u n xs) (hB : base ≤ w.heap.size) (hg : Gr w u w' v) : TabR w' base t T :=
  ht.below (hg.below (fun g h => (own_base ho g h).1) hB)

set_option maxRecDepth 100000 in
set_option maxHeartbeats 1000000 in
theorem expand_leaf (t : Tv) (T : Tab) (hD : DecOk T) (f : Nat) (c : Int) (w : World) (base : Nat) (v : Value) (acc : List Int) (ht : TabR w base t T) (hB : base ≤ w.heap.size) (ho : w.ownsRow base 3 1 v acc.length (acc.map (Value.int .i64))) (h : sylB c = true ∨ findL T.decomps c = []) (hl : acc.length ≤ 200000) :
    Calls Tryz.prog 98 #[t.val, v, .int .i64 c] w (RetGr w base v (acc ++ expG T f c)) := by
  obtain ⟨A, c0, rfl, _⟩ := id (Ints.of_own ho)
  obtain ⟨i0, hi, hz0, hz1, hz2⟩ := info_parts Tryz.infoInt'
  have HB0 : Hid (Below w.heap.size w (w.alloc (.cells t.cells 26))) := Lib.hid ((Below.refl _ _).alloc (Nat.le_refl _) _)
  have HT : Hid (Tbl (w.alloc (.cells t.cells 26)) w.heap.size t T) := Lib.hid ⟨Blk.new _ _ _, (ht.more hB).later HB0.out⟩
  have HO := Lib.hid (own_later ho HB0.out)
  have HG := Lib.hid (Gr.of_below (v := .slice A acc.length c0) HB0.out)
  have HH := Lib.hid (fun W => hdec_any c W)
  have HDC := Lib.hid (fun W (h : TabR W W.heap.size t T) => decompO_any t T c W h hD.srt hD.ne hD.len)
  have hl2 : (hangD c).length ≤ 3 := hangD_len c
  have HD := Lib.hid hD
  clear ht ho hD
  cases hs : sylB c
  · have hn : findL T.decomps c = [] := by
      rcases h with h | h
      · rw [hs] at h; cases h
      · exact h
    have he : expG T f c = [c] := by unfold expG; rw [if_neg (by simp [hs]), expF_none hn]
    have HN := Lib.hid (hangD_none hs)
    have HE := Lib.hid hn
    rw [he]
    clear h hs hn he hl2
    have heq := fun (w : World) (a : Option Addr) (n c : Nat) => Lib.run_eql_slice_nil (P := Tryz.prog) w 22 3 a n c 0 0 Tryz.underlying22
    go_enter Tryz.func98, Tryz.ntmps98
    go_upto_region 1 with fail
    generalize w.alloc (.cells t.cells 26) = w1 at *
    obtain ⟨x0, x1, x2, x3, x4, x5, x6, x7, x8, x9, x10, x11⟩ := HT.out.1.tab
    obtain ⟨tb, htb⟩ : ∃ tb, w.heap.size = tb := ⟨_, rfl⟩
    have hz : w.heap.size ≤ w1.heap.size := HB0.out.size
    simp only [htb]
    rw [htb] at HT
    go_upto_region 4 with (go_at_call 117; refine (HH.out _).mono ?_; rintro e w2 ⟨u, rfl, hu, hun, b2⟩; obtain rfl := hun HN.out; clear hu hun)
    clear x0 x1 x2 x3 x4 x5 x6 x7 x8 x9 x10 x11
    have HT2 := Lib.hid (HT.out.later b2)
    have HO2 := Lib.hid (own_later HO.out b2)
    have HG2 := Lib.hid (HG.out.trans (Gr.of_below b2))
    have hz2' := b2.size
    clear HT HO HG b2
    obtain ⟨x0, x1, x2, x3, x4, x5, x6, x7, x8, x9, x10, x11⟩ := HT2.out.1.tab
    go_upto_region 6 with (go_at_call 118; refine (HDC.out _ HT2.out.2).mono ?_; rintro e w3 ⟨u3, rfl, hu3, hun3, b3⟩; obtain rfl := hun3 HE.out; clear hu3 hun3)
    clear x0 x1 x2 x3 x4 x5 x6 x7 x8 x9 x10 x11
    have HO3 := Lib.hid (own_later HO2.out b3)
    have HG3 := Lib.hid ((HG2.out.trans (Gr.of_below b3)).trans (Gr.of_below (v := .slice A acc.length c0) ((Below.refl w3.heap.size w3).alloc (Nat.le_refl _) (.cells #[.int .i64 c] 3))))
    have hz3 := b3.size
    clear HT2 HO2 HG2 b3
    go_wp2_with (at_builtin; refine wpList_append_gr (by rfl) (.tmp 23) (.tmp 25) rfl Tryz.underlying22 hi hz0 hz1 hz2 (w3.heap.size + 1) base (.slice A acc.length c0) acc (.slice (some ⟨w3.heap.size, 0, none⟩) 1 1) [c] rfl (HO3.out.alloc _) rfl (by have h := Ints.of_own (own_new w3 3 [c] (by simp)); simpa using h) (by simp; omega) (by simp; omega) ?_; intro v6 w6 ho6 hg6)
    go_ret
    exact ⟨v6, rfl, ho6, HG3.out.trans hg6⟩
  · have hne := hangD_ne hs
    have he : expG T f c = hangD c := by unfold expG; rw [if_pos hs]
    rw [he]
    have HN := Lib.hid hne
    clear h hs he hne
    generalize hangD c = hd at *
    go_enter Tryz.func98, Tryz.ntmps98
    go_upto_region 1 with fail
    generalize w.alloc (.cells t.cells 26) = w1 at *
    obtain ⟨x0, x1, x2, x3, x4, x5, x6, x7, x8, x9, x10, x11⟩ := HT.out.1.tab
    have hz : w.heap.size ≤ w1.heap.size := HB0.out.size
    go_upto_region 3 with (go_at_call 117; refine (HH.out _).mono ?_; rintro e w2 ⟨u, rfl, hu, hun, b2⟩; obtain ⟨ad, cu, rfl, _⟩ := hu.some_ HN.out; have HU := Lib.hid hu; clear hu hun)
    clear x0 x1 x2 x3 x4 x5 x6 x7 x8 x9 x10 x11
    have HO2 := Lib.hid (own_later HO.out b2)
    have HG2 := Lib.hid (HG.out.trans (Gr.of_below b2))
    have hz2' := b2.size
    clear HT HO HG b2
    go_wp2_with (at_builtin; refine wpList_append_gr (by rfl) (.tmp 15) (.tmp 16) rfl Tryz.underlying22 hi hz0 hz1 hz2 w2.heap.size base (.slice A acc.length c0) acc (.slice (some ad) hd.length cu) hd rfl HO2.out rfl HU.out (by omega) (by omega) ?_; intro v6 w6 ho6 hg6)
    go_ret
    exact ⟨v6, rfl, ho6, HG2.out.trans hg6⟩

theorem exp_step {g : Int → List Int} {acc ys : List Int} {k : Nat} {x : Int} (h : ys[k]? = some x) : acc ++ (ys.take (k + 1)).flatMap g = (acc ++ (ys.take k).flatMap g) ++ g x := by
  obtain ⟨h1, e⟩ := List.getElem?_eq_some_iff.1 h
  rw [List.take_succ_eq_append_getElem h1, List.flatMap_append, e]; simp
theorem exp_len {g : Int → List Int} : ∀ (ys : List Int) (k : Nat), (∀ x ∈ ys, (g x).length ≤ 18) → ((ys.take k).flatMap g).length ≤ 18 * k := by
  intro ys
  induction ys with
  | nil => intro k _; simp
  | cons y r ih =>
    intro k h
    cases k with
    | zero => simp
    | succ k =>
      have h1 := ih k fun x hx => h x (List.mem_cons_of_mem _ hx)
      have h2 := h y List.mem_cons_self
      rw [List.take_succ_cons, List.flatMap_cons, List.length_append]; omega
set_option maxRecDepth 100000 in
set_option maxHeartbeats 4000000 in
theorem expand_any (t : Tv) (T : Tab) (hD : DecOk T) : ∀ (f : Nat) (c : Int) (w : World) (base : Nat) (v : Value) (acc : List Int), f ≤ T.decomps.length → TabR w base t T → base ≤ w.heap.size → w.ownsRow base 3 1 v acc.length (acc.map (Value.int .i64)) → fin T.decomps f c = true → acc.length + 40 * f ≤ 150000 →
    Calls Tryz.prog 98 #[t.val, v, .int .i64 c] w (RetGr w base v (acc ++ expG T f c)) := by
  intro f
  induction f with
  | zero =>
    intro c w base v acc hf ht hB ho hfin hl
    rw [fin_zero, decide_eq_true_eq] at hfin
    exact expand_leaf t T hD 0 c w base v acc ht hB ho (.inr hfin) (by omega)
  | succ f ih =>
    intro c w base v acc hf ht hB ho hfin hl
    by_cases hleaf : sylB c = true ∨ findL T.decomps c = []
    · exact expand_leaf t T hD (f + 1) c w base v acc ht hB ho hleaf (by omega)
    have hs : sylB c = false := by cases h : sylB c with | false => rfl | true => exact absurd (.inl h) hleaf
    have hn : findL T.decomps c ≠ [] := fun h => hleaf (.inr h)
    have he : expG T (f + 1) c = (findL T.decomps c).flatMap (expG T f) := by
      unfold expG
      rw [if_neg (by simp [hs]), expF_some hn]
      refine flatMap_same fun x hx => ?_
      rw [if_neg (by rw [(hD.el _ (findL_mem hn) x hx).1]; simp)]
    rw [fin_succ hn, List.all_eq_true] at hfin
    have h2 := hD.two _ (findL_mem hn)
    simp only at h2
    have h18 : ∀ x ∈ findL T.decomps c, (expG T f x).length ≤ 18 := fun x hx => expG_len hD (hfin x hx) (by omega)
    have HIH : Hid (∀ x ∈ findL T.decomps c, ∀ (W : World) (u : Value) (a : List Int), TabR W base t T → base ≤ W.heap.size → W.ownsRow base 3 1 u a.length (a.map (Value.int .i64)) → a.length + 40 * f ≤ 150000 → Calls Tryz.prog 98 #[t.val, u, .int .i64 x] W (RetGr W base u (a ++ expG T f x))) := Lib.hid fun x hx W u a q1 q2 q3 q4 => ih x W base u a (by omega) q1 q2 q3 (hfin x hx) q4
    rw [he]
    have HN := Lib.hid hn
    have HHN := Lib.hid (hangD_none hs)
    obtain ⟨A, c0, rfl, _⟩ := id (Ints.of_own ho)
    have HDC := Lib.hid (fun W (h : TabR W W.heap.size t T) => decompO_any t T c W h hD.srt hD.ne hD.len)
    have H18 := Lib.hid (fun k => exp_len (g := expG T f) (findL T.decomps c) k h18)
    generalize findL T.decomps c = ys at *
    generalize expG T f = g at *
    have HB0 : Hid (Below w.heap.size w (w.alloc (.cells t.cells 26))) := Lib.hid ((Below.refl _ _).alloc (Nat.le_refl _) _)
    have HT : Hid (Tbl (w.alloc (.cells t.cells 26)) w.heap.size t T) := Lib.hid ⟨Blk.new _ _ _, (ht.more hB).later HB0.out⟩
    have HTB : Hid (TabR (w.alloc (.cells t.cells 26)) base t T) := Lib.hid (ht.below (HB0.out.mono hB))
    have HO := Lib.hid (own_later ho HB0.out)
    have HG := Lib.hid (Gr.of_below (v := .slice A acc.length c0) HB0.out)
    have HV := Lib.hid (fun g h => (own_base ho g h).2)
    have HH := Lib.hid (fun W => hdec_any c W)
    clear ht ho hD hleaf hs hn he hfin h18 ih hf
    have heq := fun (w : World) (a : Option Addr) (n c : Nat) => Lib.run_eql_slice_nil (P := Tryz.prog) w 22 3 a n c 0 0 Tryz.underlying22
    go_enter Tryz.func98, Tryz.ntmps98
    go_upto_region 1 with fail
    generalize w.alloc (.cells t.cells 26) = w1 at *
    obtain ⟨x0, x1, x2, x3, x4, x5, x6, x7, x8, x9, x10, x11⟩ := HT.out.1.tab
    obtain ⟨tb, htb⟩ : ∃ tb, w.heap.size = tb := ⟨_, rfl⟩
    have hz : w.heap.size ≤ w1.heap.size := HB0.out.size
    simp only [htb]
    rw [htb] at HT HV
    go_upto_region 4 with (go_at_call 117; refine (HH.out _).mono ?_; rintro e w2 ⟨u, rfl, hu, hun, b2⟩; obtain rfl := hun HHN.out; clear hu hun)
    clear x0 x1 x2 x3 x4 x5 x6 x7 x8 x9 x10 x11
    have HT2 := Lib.hid (HT.out.later b2)
    have HTB2 := Lib.hid (HTB.out.below (b2.mono (by omega)))
    have HO2 := Lib.hid (own_later HO.out b2)
    have HG2 := Lib.hid (HG.out.trans (Gr.of_below b2))
    have hz2 := b2.size
    clear HT HO HG HTB b2
    obtain ⟨x0, x1, x2, x3, x4, x5, x6, x7, x8, x9, x10, x11⟩ := HT2.out.1.tab
    go_upto_region 7 with (go_at_call 118; refine (HDC.out _ HT2.out.2).mono ?_; rintro e w3 ⟨u3, rfl, hu3, hun3, b3⟩; obtain ⟨ad, cu, rfl, _⟩ := (Ints.of_own hu3).some_ HN.out; have HU := Lib.hid (Ints.of_own hu3); have HUB := Lib.hid (fun g h => (own_base hu3 g h).1); clear hu3 hun3)
    clear x0 x1 x2 x3 x4 x5 x6 x7 x8 x9 x10 x11
    have HT3 := Lib.hid (HT2.out.later b3)
    have HTB3 := Lib.hid (HTB2.out.below (b3.mono (by omega)))
    have HO3 := Lib.hid (own_later HO2.out b3)
    have HG3 := Lib.hid (HG2.out.trans (Gr.of_below b3))
    have hz3 := b3.size
    clear HT2 HO2 HG2 HTB2 b3
    go_wp2_with fail
    go_loopw [29, 1] (fun si so wr => ∃ (k : Nat) (vo : Value), k ≤ ys.length ∧ si = .int .i64 k ∧ vo = so ∧ Hid (wr.ownsRow base 3 1 vo (acc ++ (ys.take k).flatMap g).length ((acc ++ (ys.take k).flatMap g).map (Value.int .i64))) ∧ Hid (Gr w3 (.slice A acc.length c0) wr vo)) (fun si _ _ => ys.length - (intOf si).toNat)
    case atStart => exact ⟨0, _, by omega, rfl, rfl, Lib.hid (by simpa using HO3.out), Lib.hid (Gr.refl _ _)⟩
    case round =>
      obtain ⟨k, so, hk, rfl, rfl, HOr, HGr⟩ := hrel
      by_cases hlt : k < ys.length
      · obtain ⟨x, hxk, hxm⟩ := get_of hlt
        have HX := Lib.hid hxk
        have hsz := HGr.out.1.2.2.2.1
        have e1 : wr.cell? (ad.add k) = some (.int .i64 x) := by
          obtain ⟨_, _, he, _, _, _, hcell⟩ := HU.out
          obtain ⟨ad', e2, hb, hc⟩ := hcell k x hxk
          rw [e2] at he
          cases he
          rw [← hc]
          have hnm : ad.block ∉ ownS (.slice A acc.length c0) := fun hm => by
            have h1 := HV.out _ (mem_ownS.1 hm)
            have h2 := HUB.out _ rfl
            omega
          exact World.cell?_of_block (by rw [block_of_add]; exact HGr.out.1.2.2.2.2 _ hnm hb)
        have k0 : (0 : Int) ≤ (k : Int) := by omega
        have k1 : (k : Int) < (ys.length : Int) := by omega
        have HBw : Hid (Blk wr tb 26 #[t.c0, t.c1, t.c2, t.c3, t.c4, t.c5, t.c6, t.c7, t.c8, t.c9, t.c10, t.c11]) := Lib.hid (HGr.out.blk HT3.out.1 (fun h => by have := HV.out _ h; omega))
        obtain ⟨x0, x1, x2, x3, x4, x5, x6, x7, x8, x9, x10, x11⟩ := HBw.out.tab
        have h18 := H18.out k
        have HCx := Lib.hid (HIH.out x hxm wr so _ (HTB3.out.grown HO3.out (by omega) HGr.out) (by omega) HOr.out (by simp only [List.length_append]; omega))
        have HN2 := Lib.hid (exp_step (g := g) (acc := acc) HX.out)
        clear hxk hxm
        go_wp2_with (go_at_call 98; refine HCx.out.mono ?_; rintro e w5 ⟨v5, rfl, ho5, hg5⟩)
        go_roundw
        case rel => exact ⟨k + 1, v5, by omega, by go_num, rfl, Lib.hid (by rw [HN2.out]; exact ho5), Lib.hid (HGr.out.trans hg5)⟩
        case measure => simp [intOf]; omega
      · go_wp2_with fail
        go_ret
        refine ⟨so, rfl, ?_, HG3.out.trans HGr.out⟩
        have := HOr.out
        rwa [List.take_of_length_le (by omega)] at this
end Go.Proofs.YtecpbicfiaifdaaGreatDoor
/-
  The walk through decompose.Form.
-/
namespace Go.Proofs.YtecpbicfiaifdaaGreatDoor
open Go.RowKit ND

theorem flatD_step {T : Tab} {xs : List Int} {k : Nat} {x : Int} (h : xs[k]? = some x) : flatD T (xs.take (k + 1)) = flatD T (xs.take k) ++ expandL T x := by
  obtain ⟨h1, e⟩ := List.getElem?_eq_some_iff.1 h
  rw [List.take_succ_eq_append_getElem h1, flatD_app, e]
  simp [flatD]
set_option maxRecDepth 100000 in
set_option maxHeartbeats 2000000 in
theorem form7_any (t : Tv) (T : Tab) (v : Value) (xs : List Int) (w : World) (ht : TabR w w.heap.size t T) (hck : T.check = 0) (hlen : xs.length ≤ 4096) (hv : Ints w w.heap.size .i64 v xs) :
    Calls Tryz.prog 76 #[t.val, v] w (RetRow w (nfdL T xs)) := by
  obtain ⟨A, c, rfl, _⟩ := id hv
  have HB0 : Hid (Below w.heap.size w (w.alloc (.cells t.cells 26))) := Lib.hid ((Below.refl _ _).alloc (Nat.le_refl _) _)
  have HT : Hid (Tbl (w.alloc (.cells t.cells 26)) w.heap.size t T) := Lib.hid ⟨Blk.new _ _ _, ht.later HB0.out⟩
  have HV := Lib.hid (hv.later HB0.out)
  clear ht hv
  have hD := decOk_of hck
  have HE := Lib.hid (fun c W base u acc h1 h2 h3 h4 => expand_any t T hD T.decomps.length c W base u acc (Nat.le_refl _) h1 h2 h3 (hD.fin c) h4)
  have hdl := hD.len
  have HFL := Lib.hid (fun l => (flatD_len hD l).2)
  have HS := Lib.hid (fun W u (h : TabR W W.heap.size t T) hl hi => sort_big t T u (flatD T xs) W h hck hl hi)
  clear hck hD
  go_enter Tryz.func76, Tryz.ntmps76
  go_upto_region 1 with fail
  generalize w.alloc (.cells t.cells 26) = w1 at *
  obtain ⟨tb, htb⟩ : ∃ tb, w.heap.size = tb := ⟨_, rfl⟩
  rw [htb] at HT
  simp only [htb]
  go_wp2_with fail
  go_loopw [10, 5] (fun si so wr => ∃ (k : Nat) (vo : Value), k ≤ xs.length ∧ si = .int .i64 k ∧ vo = so ∧ Hid (wr.ownsRow w1.heap.size 3 1 vo (flatD T (xs.take k)).length ((flatD T (xs.take k)).map (Value.int .i64))) ∧ Hid (Below w1.heap.size w1 wr)) (fun si _ _ => xs.length - (intOf si).toNat)
  case atStart => exact ⟨0, _, by omega, rfl, rfl, Lib.hid (World.ownsRow_nil _ _ _ _), Lib.hid (Below.refl _ _)⟩
  case round =>
    obtain ⟨k, so, hk, rfl, rfl, HOr, HBr⟩ := hrel
    by_cases hlt : k < xs.length
    · obtain ⟨x, hxk, _⟩ := get_of hlt
      obtain ⟨_, _, hve, _, _, _, hcell⟩ := HV.out
      cases hve
      obtain ⟨ad, rfl, ha, hce⟩ := hcell k x hxk
      have e1 := (HBr.out.cell (p := ad.add k) (by rw [block_of_add]; exact ha)).trans hce
      have HX := Lib.hid hxk
      have k0 : (0 : Int) ≤ (k : Int) := by omega
      have k1 : (k : Int) < (xs.length : Int) := by omega
      have HTr := Lib.hid (HT.out.later HBr.out)
      have hfl := HFL.out (xs.take k)
      rw [List.length_take_of_le hk] at hfl
      have HCx := Lib.hid (HE.out x wr w1.heap.size so _ (HT.out.2.below HBr.out) HBr.out.size HOr.out (by omega))
      have HN := Lib.hid (flatD_step (T := T) HX.out)
      clear hcell hxk ha hce
      obtain ⟨x0, x1, x2, x3, x4, x5, x6, x7, x8, x9, x10, x11⟩ := HTr.out.1.tab
      go_wp2_with (go_at_call 98; refine HCx.out.mono ?_; rintro e w5 ⟨v5, rfl, ho5, hg5⟩)
      go_roundw
      case rel => exact ⟨k + 1, v5, by omega, by go_num, rfl, Lib.hid (by rw [HN.out]; exact ho5), Lib.hid (HBr.out.trans (hg5.below (fun g h => (own_base HOr.out g h).1) HBr.out.size))⟩
      case measure => simp [intOf]; omega
    · have HOX : Hid (wr.ownsRow w1.heap.size 3 1 so (flatD T xs).length ((flatD T xs).map (Value.int .i64))) := Lib.hid (by have := HOr.out; rwa [List.take_of_length_le (by omega)] at this)
      have HTr := Lib.hid (HT.out.later HBr.out)
      have hfl := HFL.out xs
      have HSx := Lib.hid (HS.out wr so HTr.out.2 (by omega) (Ints.of_own HOX.out))
      obtain ⟨x0, x1, x2, x3, x4, x5, x6, x7, x8, x9, x10, x11⟩ := HTr.out.1.tab
      go_wp2_with (go_at_call 97; refine HSx.out.mono ?_; rintro e w5 ⟨v5, rfl, ho5, b5⟩)
      go_ret
      exact ⟨v5, rfl, row_le ho5 (by have := HB0.out.size; have := HBr.out.size; omega), below_next HB0.out (below_then HBr.out (Nat.le_refl _) b5)⟩
end Go.Proofs.YtecpbicfiaifdaaGreatDoor
/-
  The walk through decompose.NFD.
-/
namespace Go.Proofs.YtecpbicfiaifdaaGreatDoor
open Go.RowKit ND

set_option maxRecDepth 100000 in
set_option maxHeartbeats 2000000 in
theorem nfd7_any (t : Tv) (T : Tab) (v : Value) (xs : List Int) (w : World) (ht : TabR w w.heap.size t T) (hg : Glob w) (hv : Ints w w.heap.size .i64 v xs) :
    Calls Tryz.prog 52 #[t.val, v] w (RetTwo w (nfdR T (accE T xs) xs).1 (nfdR T (accE T xs) xs).2) := by
  obtain ⟨A, c, rfl, _⟩ := id hv
  have HB0 : Hid (Below w.heap.size w (w.alloc (.cells t.cells 26))) := Lib.hid ((Below.refl _ _).alloc (Nat.le_refl _) _)
  have HT : Hid (Tbl (w.alloc (.cells t.cells 26)) w.heap.size t T) := Lib.hid ⟨Blk.new _ _ _, ht.later HB0.out⟩
  have HV := Lib.hid (hv.later HB0.out)
  have HG := Lib.hid (hg.later HB0.out)
  clear ht hv hg
  have HO := Lib.hid (order_any t T _ xs _ HT.out.2 HG.out HV.out)
  by_cases h0 : accE T xs = 0
  · obtain ⟨hck, hlen, _⟩ := accE_zero h0
    have HF := Lib.hid (fun W (h : Below (w.alloc (.cells t.cells 26)).heap.size (w.alloc (.cells t.cells 26)) W) => form7_any t T _ xs W (HT.out.later h).2 hck hlen (HV.out.later h))
    have hln := nfdL_length (T := T) xs
    by_cases hfl : 4096 < (flatD T xs).length
    · have HE : Hid (nfdR T (accE T xs) xs = ([], 7)) := Lib.hid (by rw [h0]; exact nfdR_full hfl)
      rw [h0] at HO
      have g : (4096 : Int) < ((nfdL T xs).length : Int) := by omega
      clear h0 hck hfl hln
      generalize ordL T xs = ol at *
      generalize nfdL T xs = nl at *
      go_enter Tryz.func52, Tryz.ntmps52
      go_upto_region 1 with fail
      generalize w.alloc (.cells t.cells 26) = w1 at *
      obtain ⟨x0, x1, x2, x3, x4, x5, x6, x7, x8, x9, x10, x11⟩ := HT.out.1.tab
      go_upto_region 2 with (go_at_call 75; refine HO.out.mono ?_; rintro e w2 ⟨u2, rfl, ho2, b2⟩; obtain ⟨A2, c2, rfl, _⟩ := id (Ints.of_own ho2); clear ho2)
      clear x0 x1 x2 x3 x4 x5 x6 x7 x8 x9 x10 x11
      obtain ⟨x0, x1, x2, x3, x4, x5, x6, x7, x8, x9, x10, x11⟩ := (HT.out.later b2).1.tab
      go_wp2_with (go_at_call 76; refine (HF.out _ b2).mono ?_; rintro e w3 ⟨u3, rfl, ho3, b3⟩; obtain ⟨A3, c3, rfl, _⟩ := id (Ints.of_own ho3))
      go_ret2
      rw [HE.out]
      exact ⟨_, rfl, World.ownsRow_nil _ _ _ _, below_next (below_next HB0.out b2) b3⟩
    · have HE : Hid (nfdR T (accE T xs) xs = (nfdL T xs, 0)) := Lib.hid (by rw [h0]; exact nfdR_ok (by omega))
      rw [h0] at HO
      have g : ¬ (4096 : Int) < ((nfdL T xs).length : Int) := by omega
      clear h0 hck hfl hln
      generalize ordL T xs = ol at *
      generalize nfdL T xs = nl at *
      go_enter Tryz.func52, Tryz.ntmps52
      go_upto_region 1 with fail
      generalize w.alloc (.cells t.cells 26) = w1 at *
      obtain ⟨x0, x1, x2, x3, x4, x5, x6, x7, x8, x9, x10, x11⟩ := HT.out.1.tab
      go_upto_region 2 with (go_at_call 75; refine HO.out.mono ?_; rintro e w2 ⟨u2, rfl, ho2, b2⟩; obtain ⟨A2, c2, rfl, _⟩ := id (Ints.of_own ho2); clear ho2)
      clear x0 x1 x2 x3 x4 x5 x6 x7 x8 x9 x10 x11
      obtain ⟨x0, x1, x2, x3, x4, x5, x6, x7, x8, x9, x10, x11⟩ := (HT.out.later b2).1.tab
      go_wp2_with (go_at_call 76; refine (HF.out _ b2).mono ?_; rintro e w3 ⟨u3, rfl, ho3, b3⟩; obtain ⟨A3, c3, rfl, _⟩ := id (Ints.of_own ho3))
      go_ret2
      rw [HE.out]
      exact ⟨_, rfl, row_le ho3 (by have := HB0.out.size; have := b2.size; omega), below_next (below_next HB0.out b2) b3⟩
  · have HE : Hid (nfdR T (accE T xs) xs = ([], accE T xs)) := Lib.hid (nfdR_err h0)
    have hb : (accE T xs != 0) = true := by simpa using h0
    clear h0
    go_enter Tryz.func52, Tryz.ntmps52
    go_upto_region 1 with fail
    generalize w.alloc (.cells t.cells 26) = w1 at *
    obtain ⟨x0, x1, x2, x3, x4, x5, x6, x7, x8, x9, x10, x11⟩ := HT.out.1.tab
    go_wp2_with (go_at_call 75; refine HO.out.mono ?_; rintro e w2 ⟨u2, rfl, ho2, b2⟩; obtain ⟨A2, c2, rfl, _⟩ := id (Ints.of_own ho2); clear ho2)
    go_ret2
    rw [HE.out]
    exact ⟨_, rfl, World.ownsRow_nil _ _ _ _, below_next HB0.out b2⟩

end Go.Proofs.YtecpbicfiaifdaaGreatDoor
/-
  The walks through the reference's Parts and HangulDecompose.
-/
namespace Go.Proofs.YtecpbicfiaifdaaGreatDoor
open Go.RowKit ND

theorem ret_four {a b c : Int} {x : Bool} {a' b' c' : Int} {x' : Bool} (h1 : a = a') (h2 : b = b') (h3 : c = c') (h4 : x = x') : Ending.returned (.tuple #[.int .i64 a, .int .i64 b, .int .i64 c, .bool x]) = .returned (.tuple #[.int .i64 a', .int .i64 b', .int .i64 c', .bool x']) := by rw [h1, h2, h3, h4]
set_option maxRecDepth 100000 in
set_option maxHeartbeats 1000000 in
theorem refParts_no (c : Int) (w : World) (h : sylB c = false) :
    Calls Tryz.prog 93 #[.int .i64 c] w fun e w' => e = .returned (.tuple #[.int .i64 0, .int .i64 0, .int .i64 0, .bool false]) ∧ w = w' := by
  have HY := Lib.hid (refSyl_any c)
  rw [h] at HY
  clear h
  go_enter Tryz.func93, Tryz.ntmps93
  go_wp2_with fail
  go_loop [6] (fun s6 => ∃ i : Nat, i ≤ 19 ∧ s6 = .int .i64 i ) (fun s6 => 19 - (intOf s6).toNat)
  case atStart => exact ⟨0, by omega, rfl⟩
  case round =>
    obtain ⟨i, hi, rfl⟩ := hrel
    by_cases hlt : i < 19
    · have i0 : (i : Int) < 19 := by omega
      have i1 : (0 : Int) ≤ (i : Int) := by omega
      go_wp2_with fail
      go_loop [7] (fun s7 => ∃ j : Nat, j ≤ 21 ∧ s7 = .int .i64 j ) (fun s7 => 21 - (intOf s7).toNat)
      case atStart => exact ⟨0, by omega, rfl⟩
      case round =>
        obtain ⟨j, hj, rfl⟩ := hrel
        by_cases hlt2 : j < 21
        · have j0 : (j : Int) < 21 := by omega
          have j1 : (0 : Int) ≤ (j : Int) := by omega
          go_wp2_with (go_at_call 92; refine (HY.out _).mono ?_; rintro e w2 ⟨rfl, rfl⟩)
          go_round
          case rel => exact ⟨j + 1, by omega, by go_num⟩
          case measure => simp [intOf]; omega
        · have j0 : ¬ (j : Int) < 21 := by omega
          go_wp2_with fail
          go_round
          case rel => exact ⟨i + 1, by omega, by go_num⟩
          case measure => simp [intOf]; omega
    · have i0 : ¬ (i : Int) < 19 := by omega
      go_wp2_with fail
      exact bodyPost_ret (v := .tuple #[.int .i64 0, .int .i64 0, .int .i64 0, .bool false]) (by simp [results, Tryz.results93, go_sem]) rfl ⟨rfl, rfl⟩
set_option maxRecDepth 100000 in
set_option maxHeartbeats 1000000 in
theorem refParts_yes (c : Int) (w : World) (h : sylB c = true) :
    Calls Tryz.prog 93 #[.int .i64 c] w fun e w' => e = .returned (.tuple #[.int .i64 ((c - 44032) / 28 / 21), .int .i64 ((c - 44032) / 28 % 21), .int .i64 ((c - 44032) % 28), .bool true]) ∧ w = w' := by
  have HY := Lib.hid (refSyl_any c)
  rw [h] at HY
  rw [sylB_iff] at h
  obtain ⟨h1, h2⟩ := h
  obtain ⟨q, hq⟩ : ∃ q, (c - 44032) / 28 = q := ⟨_, rfl⟩
  have hr : (c - 44032) % 28 = c - 44032 - q * 28 := by omega
  have hq0 : 0 ≤ q := by omega
  have hq1 : q ≤ 398 := by omega
  have hq2 : q * 28 ≤ c - 44032 := by omega
  have hq3 : c - 44032 < q * 28 + 28 := by omega
  have HR := Lib.hid hr
  rw [hq, HR.out]
  clear hr hq
  go_enter Tryz.func93, Tryz.ntmps93
  go_wp2_with fail
  go_loop [6] (fun s6 => ∃ i : Nat, i ≤ 19 ∧ s6 = .int .i64 i ∧ 21 * (i : Int) ≤ q) (fun s6 => 19 - (intOf s6).toNat)
  case atStart => exact ⟨0, by omega, rfl, by simpa using hq0⟩
  case round =>
    obtain ⟨i, hi, rfl, hiq⟩ := hrel
    by_cases hlt : i < 19
    · have i0 : (i : Int) < 19 := by omega
      have i1 : (0 : Int) ≤ (i : Int) := by omega
      go_wp2_with fail
      go_loop [7] (fun s7 => ∃ j : Nat, j ≤ 21 ∧ s7 = .int .i64 j ∧ 21 * (i : Int) + (j : Int) ≤ q) (fun s7 => 21 - (intOf s7).toNat)
      case atStart => exact ⟨0, by omega, rfl, by simpa using hiq⟩
      case round =>
        obtain ⟨j, hj, rfl, hjq⟩ := hrel
        by_cases hlt2 : j < 21
        · have j0 : (j : Int) < 21 := by omega
          have j1 : (0 : Int) ≤ (j : Int) := by omega
          by_cases hit : q = 21 * (i : Int) + (j : Int)
          · have k0 : (0 : Int) ≤ c - 44032 - (21 * (i : Int) + (j : Int)) * 28 := by omega
            have k1 : c - 44032 - (21 * (i : Int) + (j : Int)) * 28 < 28 := by omega
            have HH := Lib.hid hit
            clear hit
            go_wp2_with (go_at_call 92; refine (HY.out _).mono ?_; rintro e w2 ⟨rfl, rfl⟩)
            refine bodyPost_ret (v := .tuple #[.int .i64 (i : Int), .int .i64 (j : Int), .int .i64 (c - 44032 - (21 * (i : Int) + (j : Int)) * 28), .bool true]) (by simp [results, Tryz.results93, go_sem]) rfl ⟨?_, rfl⟩
            have hh := HH.out
            exact ret_four (by omega) (by omega) (by omega) rfl
          · have k0 : ¬ c - 44032 - (21 * (i : Int) + (j : Int)) * 28 < 28 := by omega
            have k1 : (0 : Int) ≤ c - 44032 - (21 * (i : Int) + (j : Int)) * 28 := by omega
            go_wp2_with (go_at_call 92; refine (HY.out _).mono ?_; rintro e w2 ⟨rfl, rfl⟩)
            go_round
            case rel => exact ⟨j + 1, by omega, by go_num, by omega⟩
            case measure => simp [intOf]; omega
        · have j0 : ¬ (j : Int) < 21 := by omega
          go_wp2_with fail
          go_round
          case rel => exact ⟨i + 1, by omega, by go_num, by omega⟩
          case measure => simp [intOf]; omega
    · have i0 : ¬ (i : Int) < 19 := by omega
      exfalso; omega
set_option maxRecDepth 100000 in
set_option maxHeartbeats 1000000 in
theorem refHdec_any (c : Int) (w : World) : Calls Tryz.prog 71 #[.int .i64 c] w (RetSeq w (hangD c)) := by
  cases hs : sylB c
  · have HP := Lib.hid (refParts_no c w hs)
    rw [hangD_none hs]
    clear hs
    go_enter Tryz.func71, Tryz.ntmps71
    go_wp2_with (go_at_call 93; refine HP.out.mono ?_; rintro e w2 ⟨rfl, rfl⟩)
    go_ret
    exact ⟨_, rfl, Ints.none_, fun _ => rfl, Below.refl _ _⟩
  · have HP := Lib.hid (refParts_yes c w hs)
    have hb := (sylB_iff c).1 hs
    unfold hangD
    rw [if_pos hs]
    clear hs
    obtain ⟨n, hn⟩ : ∃ n, c - 44032 = n := ⟨_, rfl⟩
    have n0 : 0 ≤ n := by omega
    have n1 : n ≤ 11171 := by omega
    rw [hn] at HP ⊢
    clear hn hb
    have a0 : 0 ≤ n / 28 / 21 := by omega
    have a1 : n / 28 / 21 ≤ 18 := by omega
    have b0 : 0 ≤ n / 28 % 21 := by omega
    have b1 : n / 28 % 21 ≤ 20 := by omega
    have c0 : 0 ≤ n % 28 := by omega
    have c1 : n % 28 ≤ 27 := by omega
    generalize n / 28 / 21 = i at *
    generalize n / 28 % 21 = j at *
    generalize n % 28 = k at *
    by_cases hk : k = 0
    · rw [if_pos hk]
      subst hk
      go_enter Tryz.func71, Tryz.ntmps71
      go_wp2_with (go_at_call 93; refine HP.out.mono ?_; rintro e w2 ⟨rfl, rfl⟩)
      go_ret
      exact ⟨_, rfl, by have h := Ints.of_own (own_new w 3 [4352 + i, 4449 + j] (by simp)); simpa using h, (by simp), (Below.refl _ _).alloc (Nat.le_refl _) _⟩
    · rw [if_neg hk]
      have hb : (k == 0) = false := by simpa using hk
      clear hk
      go_enter Tryz.func71, Tryz.ntmps71
      go_wp2_with (go_at_call 93; refine HP.out.mono ?_; rintro e w2 ⟨rfl, rfl⟩)
      go_ret
      exact ⟨_, rfl, by have h := Ints.of_own (own_new w 3 [4352 + i, 4449 + j, 4519 + k] (by simp)); simpa using h, (by simp), (Below.refl _ _).alloc (Nat.le_refl _) _⟩
end Go.Proofs.YtecpbicfiaifdaaGreatDoor
/-
  The walk through the reference's small: rule 1.
-/
namespace Go.Proofs.YtecpbicfiaifdaaGreatDoor
open Go.RowKit ND

set_option maxRecDepth 100000 in
set_option maxHeartbeats 1000000 in
theorem small_any (t : Tv) (T : Tab) (w : World) (ht : TabR w w.heap.size t T) :
    Calls Tryz.prog 86 #[t.val] w fun e w' => e = .returned (.bool T.rule1) ∧ Below w.heap.size w w' := by
  obtain ⟨A0, A1, A2, A3, A4, A5, A6, A7, A8, A9, A10, A11, k0, k1, k2, k3, k4, k5, k6, k7, k8, k9, k10, k11, rfl⟩ := ht.shape
  have HR := Lib.hid (fun o : Obj => ht.later ((Below.refl _ _).alloc (Nat.le_refl _) o))
  clear ht
  obtain ⟨R, hR⟩ : ∃ R, R = T.rule1 := ⟨_, rfl⟩
  rw [← hR]
  obtain ⟨R1, hR1⟩ : ∃ R1, R1 = T.cols.all lenC_ := ⟨_, rfl⟩
  obtain ⟨R2, hR2⟩ : ∃ R2, R2 = T.mps.all lenM_ := ⟨_, rfl⟩
  have HR1 : Hid ((T.cols.drop 0).all lenC_ = R1) := Lib.hid hR1.symm
  have HR2 : Hid ((T.mps.drop 0).all lenM_ = R2) := Lib.hid hR2.symm
  have HRR : Hid (R = (decide ((T.excluded.length : Int) ≤ 256) && (R1 && R2))) := Lib.hid (by rw [hR, hR1, hR2, rule1_cast])
  clear hR hR1 hR2
  go_enter Tryz.func86, Tryz.ntmps86
  go_wp2_with fail
  refine (refSpans_any _ T _ (HR.out _)).mono ?_
  rintro e w1 ⟨ad, as_, rfl, hc, _, b1⟩
  have HC := Lib.hid hc.2
  have HB := Lib.hid ((Blk.new w 26 _).later b1)
  have HT := Lib.hid ((HR.out _).later b1)
  have hbel1 := below_next ((Below.refl _ _).alloc (Nat.le_refl _) _) b1
  clear hc b1 HR
  go_wp2_with fail
  go_loop [17] (fun i => ∃ (k : Nat), k ≤ 7 ∧ i = .int .i64 k ∧ Hid ((T.cols.drop k).all lenC_ = R1)) (fun i => 7 - (intOf i).toNat)
  case atStart => exact ⟨0, by omega, rfl, HR1⟩
  case round =>
    obtain ⟨k, hk, rfl, HS⟩ := hrel
    clear HR1
    by_cases hlt : k < 7
    · obtain ⟨⟨l, lo, hi⟩, hxk, _⟩ := get_el (xs := T.cols) (k := k) hlt
      obtain ⟨v, d0, A, c, rfl, _⟩ := HC.out k _ hxk
      have HX := Lib.hid hxk
      simp only at d0
      clear hxk
      have k0 : (0 : Int) ≤ (k : Int) := by omega
      have k1 : (k : Int) < (7 : Int) := by omega
      by_cases hl : (l.length : Int) ≤ 256
      · have HN := Lib.hid (each_go HX.out HS.out (decide_eq_true hl))
        go_wp2_with fail
        go_round
        case rel => exact ⟨k + 1, by omega, by go_num, HN⟩
        case measure => simp [intOf]; omega
      · have HN := Lib.hid (each_no HX.out HS.out (decide_eq_false hl))
        have hl' : 256 < (l.length : Int) := by omega
        clear hl
        go_wp2_with fail
        go_ret
        rw [HRR.out, HN.out]
        exact ⟨by simp, hbel1⟩
    · have HN := Lib.hid (each_end (by show 7 ≤ k; omega) HS.out)
      obtain ⟨x0, x1, x2, x3, x4, x5, x6, x7, x8, x9, x10, x11⟩ := HB.out.tab
      go_wp2_with fail
      refine (refMappings_any _ T _ HT.out).mono ?_
      rintro e w2 ⟨am, rfl, hm, b2⟩
      have HM := Lib.hid hm.2
      have hbel2 := below_next hbel1 b2
      have y10 := (HB.out.later b2).at_ (i := 10) rfl
      clear hm HT HB HC HS hbel1 b2 x0 x1 x2 x3 x4 x5 x6 x7 x8 x9 x10 x11
      go_wp2_with fail
      go_loop [29] (fun i => ∃ (k : Nat), k ≤ 4 ∧ i = .int .i64 k ∧ Hid ((T.mps.drop k).all lenM_ = R2)) (fun i => 4 - (intOf i).toNat)
      case atStart => exact ⟨0, by omega, rfl, HR2⟩
      case round =>
        obtain ⟨k, hk, rfl, HS⟩ := hrel
        clear HR2
        by_cases hlt : k < 4
        · obtain ⟨l, hxk, _⟩ := get_el (xs := T.mps) (k := k) hlt
          obtain ⟨v, d0, A, c, rfl, _⟩ := HM.out k _ hxk
          have HX := Lib.hid hxk
          clear hxk
          have k0 : (0 : Int) ≤ (k : Int) := by omega
          have k1 : (k : Int) < (4 : Int) := by omega
          by_cases hl : (l.length : Int) ≤ 256
          · have HN := Lib.hid (each_go HX.out HS.out (decide_eq_true hl))
            go_wp2_with fail
            go_round
            case rel => exact ⟨k + 1, by omega, by go_num, HN⟩
            case measure => simp [intOf]; omega
          · have HN := Lib.hid (each_no HX.out HS.out (decide_eq_false hl))
            have hl' : 256 < (l.length : Int) := by omega
            clear hl
            go_wp2_with fail
            go_ret
            rw [HRR.out, HN.out]
            exact ⟨by simp, hbel2⟩
        · have HN2 := Lib.hid (each_end (by show 4 ≤ k; omega) HS.out)
          go_wp2_with fail
          go_ret
          rw [HRR.out, HN.out, HN2.out]
          exact ⟨by simp, hbel2⟩
end Go.Proofs.YtecpbicfiaifdaaGreatDoor
