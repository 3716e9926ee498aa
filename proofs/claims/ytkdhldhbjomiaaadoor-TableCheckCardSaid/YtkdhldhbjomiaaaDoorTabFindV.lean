/-
  table.find hands back a value that is known ahead of the call.
-/
import Derived.Test.YtkdhldhbjomiaaaDoorTabFind2
namespace Go.Proofs.YtkdhldhbjomiaaaDoor
open Go.RowKit ND

theorem findL_len {l : List Mp} {c : Int} (h : ∀ m ∈ l, m.2.length ≤ 1000) : (findL l c).length ≤ 1000 := by
  by_cases hf : findL l c = []
  · rw [hf]; simp
  · exact h _ (findL_mem hf)
/-- What find hands back in whatever later world. -/
def FindsIn (w : World) (v : Value) (c : Int) (u : Value) : Prop := ∀ W, Below w.heap.size w W → Calls Tryd.prog 62 #[v, .int .i64 c] W fun e W' => e = .returned u ∧ Below W.heap.size W W'

set_option maxRecDepth 100000 in
set_option maxHeartbeats 1000000 in
theorem find_v (v : Value) (xs : List Mp) (c : Int) (w : World) (hv : Mapps w w.heap.size v xs) (hs : sortM xs) (hne : ∀ m ∈ xs, m.2 ≠ []) (hlen : xs.length ≤ 256) :
    ∃ u, Ints w w.heap.size .i64 u (findL xs c) ∧ (findL xs c = [] → u = .slice none 0 0) ∧ FindsIn w v c u := by
  have eg := enters_of Tryd.func121 (by kernel_rfl) rfl
  have HV := Lib.hid hv
  obtain ⟨A, cap, rfl, _, _, _, hcell⟩ := hv
  by_cases hk : ∃ (k0 : Nat) (a : Mp), xs[k0]? = some a ∧ a.1 = c
  · obtain ⟨k0, ⟨f, ys⟩, hx0, hfc⟩ := hk
    simp only at hfc
    subst hfc
    obtain ⟨ad, sv, rfl, ha, d0, d1, hsv⟩ := hcell k0 _ hx0
    simp only at d0 d1 hsv
    have hlow0 : ∀ i a, i < k0 → xs[i]? = some a → a.1 < f := fun i a hi hxi => hs i k0 a (f, ys) hi hxi hx0
    have hfind : findL xs f = ys := findL_at hlow0 hx0 rfl
    rw [hfind]
    refine ⟨sv, hsv, fun e => absurd e (hne _ (List.mem_of_getElem? hx0)), fun W hW => ?_⟩
    obtain ⟨e0, e1⟩ := map_cells hW ha d0 d1
    have hk0 : k0 < xs.length := (List.getElem?_eq_some_iff.1 hx0).1
    have HU : Hid (∀ k, k ≤ xs.length → (∀ i, i < k → pF xs f i = false) → (k < xs.length → pF xs f k = true) → k = k0) := Lib.hid (fun k hk hl hh => by
      have h1 : k ≤ k0 := by
        rcases Nat.lt_or_ge k0 k with h | h
        · have := hl k0 h
          rw [pF_some hx0, decide_eq_false_iff_not] at this
          simp at this
        · exact h
      have h2 : k < xs.length := by omega
      have h3 := hh h2
      obtain ⟨b, hxb, _⟩ := get_el h2
      rw [pF_some hxb, decide_eq_true_eq] at h3
      rcases Nat.lt_or_ge k k0 with h | h
      · have := hlow0 k b h hxb; omega
      · omega)
    have HVW := Lib.hid (HV.out.later hW)
    have HE0 := Lib.hid e0
    have HE1 := Lib.hid e1
    have hsvs : ∃ A' c', sv = .slice A' ys.length c' := by obtain ⟨A', c', h, _⟩ := hsv; exact ⟨A', c', h⟩
    obtain ⟨A', c', rfl⟩ := hsvs
    have hbA := Nat.lt_of_lt_of_le ha hW.size
    clear hcell hsv d0 d1 e0 e1 hfind hne ha hx0 hlow0 HV hW
    have hbw : Below W.heap.size W ((W.alloc (.cells #[.slice (some ad) xs.length cap] 23)).alloc (.cells #[.int .i64 f] 3)) := ((Below.refl _ _).alloc (Nat.le_refl _) _).alloc (by simp) _
    have hboxes : ∀ V, Below ((W.alloc (.cells #[.slice (some ad) xs.length cap] 23)).alloc (.cells #[.int .i64 f] 3)).heap.size ((W.alloc (.cells #[.slice (some ad) xs.length cap] 23)).alloc (.cells #[.int .i64 f] 3)) V →
        V.cell? ⟨W.heap.size, 0, none⟩ = some (.slice (some ad) xs.length cap) ∧ V.cell? ⟨W.heap.size + 1, 0, none⟩ = some (.int .i64 f) := by
      intro V hb
      have hsz : (W.alloc (.cells #[.slice (some ad) xs.length cap] 23)).heap.size = W.heap.size + 1 := by simp
      have h1 := cell_new1 W (.slice (some ad) xs.length cap) 23
      have h2 := cell_new1 (W.alloc (.cells #[.slice (some ad) xs.length cap] 23)) (.int .i64 f) 3
      rw [hsz] at h2
      have h1' := (World.cell?_alloc_lt (W.alloc (.cells #[.slice (some ad) xs.length cap] 23)) (.cells #[.int .i64 f] 3) ⟨W.heap.size, 0, none⟩ (by simp)).trans h1
      exact ⟨(hb.cell (p := ⟨W.heap.size, 0, none⟩) (by simp; omega)).trans h1', (hb.cell (p := ⟨W.heap.size + 1, 0, none⟩) (by simp)).trans h2⟩
    have HB := Lib.hid hboxes
    have HBW := Lib.hid hbw
    clear hboxes hbw
    have HSR := Lib.hid (search_any 121 #[.pointer (some ⟨W.heap.size, 0, none⟩), .pointer (some ⟨W.heap.size + 1, 0, none⟩)] xs.length (pF xs f) ((W.alloc (.cells #[.slice (some ad) xs.length cap] 23)).alloc (.cells #[.int .i64 f] 3)) eg (by omega) (by
      intro V i hb hi
      exact findClos _ _ (some ad) cap xs f V i hi (HB.out V hb).1 (HB.out V hb).2 ((HVW.out.later HBW.out).later hb)) (pF_mono hs))
    go_enter Tryd.func62, Tryd.ntmps62
    go_wp2_with fail
    refine HSR.out.mono ?_
    rintro e w2 ⟨k, rfl, hk, hlow, hhigh, b2⟩
    obtain rfl := HU.out k hk hlow hhigh
    obtain ⟨q0, q1⟩ := HB.out w2 b2
    have hbel := HBW.out.trans (b2.mono HBW.out.size)
    have e0 := (hbel.cell (p := ad.add (k * 2)) (by rw [block_of_add]; exact hbA)).trans HE0.out
    have e1 := (hbel.cell (p := { block := (ad.add (k * 2)).block, off := (ad.add (k * 2)).off + 1, spot := none }) (by show (ad.add (k * 2)).block < _; rw [block_of_add]; exact hbA)).trans HE1.out
    clear HSR HB HBW HVW b2 hlow hhigh eg HU HE0 HE1 hs
    have k0' : (0 : Int) ≤ (k : Int) := by omega
    have k1' : (k : Int) < (xs.length : Int) := by omega
    have hb0 : ((k : Int) == (xs.length : Int)) = false := by rw [beq_eq_false_iff_ne]; omega
    go_wp2_with fail
    go_quiet (fail)
    go_wp2_with fail
    go_ret
    exact ⟨rfl, below_drewN hbel nq⟩
  · have hfind : findL xs c = [] := findL_no fun i a hi e => hk ⟨i, a, hi, e⟩
    rw [hfind]
    refine ⟨.slice none 0 0, Ints.none_, fun _ => rfl, fun W hW => ?_⟩
    refine (find_any _ xs c W (HV.out.later hW) hs hne hlen).mono ?_
    rintro e w1 ⟨u, rfl, _, hn, b1⟩
    rw [hn hfind]
    exact ⟨rfl, b1⟩
end Go.Proofs.YtkdhldhbjomiaaaDoor
