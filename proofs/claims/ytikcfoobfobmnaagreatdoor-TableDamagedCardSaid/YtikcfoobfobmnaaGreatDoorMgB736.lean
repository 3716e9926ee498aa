/-
  Merged texts: lemmas and walks that the last text of this claim leans on.
-/
import Derived.Test.YtikcfoobfobmnaaGreatDoorMgB735
import Derived.Test.YtikcfoobfobmnaaGreatDoorMgB733
import Derived.Lib.Strings
import Derived.Laws.ResultCell
import Derived.Test.YtikcfoobfobmnaaGreatDoorMgB725
import Derived.Test.YtikcfoobfobmnaaGreatDoorMgB729
import Derived.Test.YtikcfoobfobmnaaGreatDoorMgB722
/-
  Words for the two readers of tables.
-/
namespace Go.Proofs.YtikcfoobfobmnaaGreatDoor
open Go.RowKit ND

theorem tl_loop (s : ByteArray) : ∀ (n i : Nat) (r : List UInt8), s.size - i = n → ByteArray.toList.loop s i r = r.reverse ++ s.data.toList.drop i := by
  intro n
  induction n with
  | zero =>
    intro i r h
    have hs : s.data.toList.length = s.size := by simp
    unfold ByteArray.toList.loop
    rw [if_neg (by omega), List.drop_of_length_le (by omega), List.append_nil]
  | succ n ih =>
    intro i r h
    have hlt : i < s.size := by omega
    have hs : s.data.toList.length = s.size := by simp
    unfold ByteArray.toList.loop
    rw [if_pos hlt, ih (i + 1) _ (by omega)]
    have e : s.get! i = s.data.toList[i]'(by omega) := by
      show s.data[i]! = _
      rw [getElem!_pos s.data i hlt]
      simp
    rw [List.drop_eq_getElem_cons (show i < s.data.toList.length by omega), e]
    simp
theorem toList_data (s : ByteArray) : s.toList = s.data.toList := by
  unfold ByteArray.toList
  rw [tl_loop s _ 0 [] rfl]
  simp
abbrev nil12 : Array Value := #[.slice none 0 0, .slice none 0 0, .slice none 0 0, .slice none 0 0, .slice none 0 0, .slice none 0 0, .slice none 0 0, .slice none 0 0, .slice none 0 0, .slice none 0 0, .slice none 0 0, .slice none 0 0]
def noTv : Tv := ⟨.slice none 0 0, .slice none 0 0, .slice none 0 0, .slice none 0 0, .slice none 0 0, .slice none 0 0, .slice none 0 0, .slice none 0 0, .slice none 0 0, .slice none 0 0, .slice none 0 0, .slice none 0 0⟩
theorem Mapps.none' {w : World} {B : Nat} : Mapps w B (.slice none 0 0) [] := ⟨none, 0, rfl, Nat.le_refl _, Nat.zero_le _, fun _ => rfl, fun _ _ h => by simp at h⟩
theorem tabR_no {w : World} {B : Nat} : TabR w B noTv noT := ⟨Spans.none_, Spans.none_, Spans.none_, Spans.none_, Spans.none_, Spans.none_, Spans.none_, Mapps.none', Mapps.none', Mapps.none', Ints.none_, Mapps.none'⟩
/-- Tables and an error come back. -/
def RetDcd (S : List Nat) (w : World) (r : Tab × Int) (e : Ending) (w' : World) : Prop := ∃ t, e = .returned (.tuple #[t.val, .int .i64 r.2]) ∧ (∀ V, onlyIn S w' V → TabR V V.heap.size t r.1) ∧ Below w.heap.size w w'
theorem retDcd_no {S : List Nat} {w w' : World} {e : Int} (hb : Below w.heap.size w w') : RetDcd S w (noT, e) (.returned (.tuple #[.agg nil12, .int .i64 e])) w' := ⟨noTv, rfl, fun _ _ => tabR_no, hb⟩
theorem ext_take (s : ByteArray) (b : Nat) : (s.extract 0 b).data.toList = s.data.toList.take b := by rw [Lib.extract_data]; simp
theorem onlyIn.setIn {S : List Nat} {w w' : World} (h : onlyIn S w w') {p : Addr} (hp : p.block ∈ S) (u : Value) : onlyIn S w (w'.setCell p u) :=
  ⟨h.1, h.2.1, h.2.2.1, by simpa [World.setCell] using h.2.2.2.1, fun k hk hl => (Below.heap_setCell w' p u k (fun e => hk (by rw [e]; exact hp))).trans (h.2.2.2.2 k hk hl)⟩
/-- Twelve cells of one block are written. -/
theorem below_set12 {B : Nat} {w W : World} {g : Nat} {u0 u1 u2 u3 u4 u5 u6 u7 u8 u9 u10 u11 : Value} (h : Below B w W) (hg : B ≤ g) :
    Below B w ((((((((((((W.setCell ⟨g, 0, none⟩ u0).setCell ⟨g, 1, none⟩ u1).setCell ⟨g, 2, none⟩ u2).setCell ⟨g, 3, none⟩ u3).setCell ⟨g, 4, none⟩ u4).setCell ⟨g, 5, none⟩ u5).setCell ⟨g, 6, none⟩ u6).setCell ⟨g, 7, none⟩ u7).setCell ⟨g, 8, none⟩ u8).setCell ⟨g, 9, none⟩ u9).setCell ⟨g, 10, none⟩ u10).setCell ⟨g, 11, none⟩ u11) :=
  (((((((((((h.setCell hg _).setCell hg _).setCell hg _).setCell hg _).setCell hg _).setCell hg _).setCell hg _).setCell hg _).setCell hg _).setCell hg _).setCell hg _).setCell hg _
theorem only_set12 {S : List Nat} {w W : World} {g : Nat} {u0 u1 u2 u3 u4 u5 u6 u7 u8 u9 u10 u11 : Value} (h : onlyIn S w W) (hg : g ∈ S) :
    onlyIn S w ((((((((((((W.setCell ⟨g, 0, none⟩ u0).setCell ⟨g, 1, none⟩ u1).setCell ⟨g, 2, none⟩ u2).setCell ⟨g, 3, none⟩ u3).setCell ⟨g, 4, none⟩ u4).setCell ⟨g, 5, none⟩ u5).setCell ⟨g, 6, none⟩ u6).setCell ⟨g, 7, none⟩ u7).setCell ⟨g, 8, none⟩ u8).setCell ⟨g, 9, none⟩ u9).setCell ⟨g, 10, none⟩ u10).setCell ⟨g, 11, none⟩ u11) :=
  (((((((((((h.setIn hg _).setIn hg _).setIn hg _).setIn hg _).setIn hg _).setIn hg _).setIn hg _).setIn hg _).setIn hg _).setIn hg _).setIn hg _).setIn hg _
/-- A block that was made later is no matter. -/
theorem onlyIn.lose {b : Nat} {S : List Nat} {a w w' : World} (h : onlyIn (b :: S) w w') (ha : Below a.heap.size a w) (hb : a.heap.size ≤ b) : onlyIn S a w' :=
  ⟨h.1.trans ha.os, h.2.1.trans ha.tape, h.2.2.1.trans ha.output, Nat.le_trans ha.size h.2.2.2.1, fun k hk hl => (h.2.2.2.2 k (fun hx => by
    rcases List.mem_cons.1 hx with e | e
    · omega
    · exact hk e) (Nat.lt_of_lt_of_le hl ha.size)).trans (ha.block k hl)⟩

end Go.Proofs.YtikcfoobfobmnaaGreatDoor
/-
  The walk through table.Decode: it hands back what the plain reading says.
-/
namespace Go.Proofs.YtikcfoobfobmnaaGreatDoor
open Go.RowKit ND

set_option maxRecDepth 100000 in
set_option maxHeartbeats 8000000 in
theorem decode_any (S0 : List Nat) (s : ByteArray) (w : World) (hs : s.size ≤ maxLen) (hgl : Glob w) (hold : ∀ x ∈ S0, x < w.heap.size) : Calls Tryz.prog 13 #[.string s] w (RetDcd S0 w (decTR s.data.toList)) := by
  have hlen : s.data.toList.length = s.size := sz_list s
  have HL := Lib.hid hlen; clear hlen
  have hcase : 32768 < s.size ∨ s.size < 4 ∨ (4 ≤ s.size ∧ s.size ≤ 32768) := by omega
  rcases hcase with hc | hc | ⟨hc, hc2⟩
  · go_enter Tryz.func13, Tryz.ntmps13
    go_wp2_with fail
    (try simp only [Exit.inBlock, Exit.then])
    refine bodyPost_ret (v := .tuple #[.agg nil12, .int .i64 7]) ?_ rfl ?_
    · rw [results_cell_tmp rfl]; go_simp
    rw [decTR_full (by rw [HL.out]; exact hc)]
    exact retDcd_no ((Below.refl _ _).alloc (Nat.le_refl _) _)
  · go_enter Tryz.func13, Tryz.ntmps13
    go_wp2_with fail
    (try simp only [Exit.inBlock, Exit.then])
    refine bodyPost_ret (v := .tuple #[.agg nil12, .int .i64 5]) ?_ rfl ?_
    · rw [results_cell_tmp rfl]; go_simp
    rw [decTR_short (by rw [HL.out]; exact hc)]
    exact retDcd_no ((Below.refl _ _).alloc (Nat.le_refl _) _)
  have hmt : (s.extract 0 4).toList = s.data.toList.take 4 := by rw [toList_data, ext_take]
  by_cases hm : s.data.toList.take 4 = magicL
  case neg =>
    have HM := Lib.hid hm
    have hb : ((s.extract 0 4).toList == [78, 68, 84, 49]) = false := by rw [hmt]; exact beq_eq_false_iff_ne.2 hm
    clear hm hmt
    go_enter Tryz.func13, Tryz.ntmps13
    go_wp2_with fail
    (try simp only [Exit.inBlock, Exit.then])
    refine bodyPost_ret (v := .tuple #[.agg nil12, .int .i64 4]) ?_ rfl ?_
    · rw [results_cell_tmp rfl]; go_simp
    rw [decTR_form (by rw [HL.out]; exact hc2) (by rw [HL.out]; exact hc) HM.out]
    exact retDcd_no ((Below.refl _ _).alloc (Nat.le_refl _) _)
  have hb : ((s.extract 0 4).toList == [78, 68, 84, 49]) = true := by rw [hmt]; exact beq_iff_eq.2 hm
  obtain ⟨R, hR⟩ : ∃ R, R = decTR s.data.toList := ⟨_, rfl⟩
  rw [← hR]
  have HU0 : Hid (Left 0 (contC s.data.toList 7 4 []) R) := Lib.hid (.inl ⟨rfl, by rw [hR, decTR_go (by rw [HL.out]; exact hc2) (by rw [HL.out]; exact hc) hm]⟩)
  clear hR hm hmt
  go_enter Tryz.func13, Tryz.ntmps13
  go_wp2_with fail
  have hT0 : Blk ((w.alloc (.cells nil12 29)).alloc (.cells #[.string s, .int .i64 4, .int .i64 0] 75)) w.heap.size 29 nil12 := (Blk.new w _ _).alloc _
  have hb0 : Blk ((w.alloc (.cells nil12 29)).alloc (.cells #[.string s, .int .i64 4, .int .i64 0] 75)) (w.heap.size + 1) 75 #[.string s, .int .i64 4, .int .i64 0] := by
    have h := Blk.new (w.alloc (.cells nil12 29)) 75 #[.string s, .int .i64 4, .int .i64 0]
    simpa using h
  have hbel0 : Below w.heap.size w ((w.alloc (.cells nil12 29)).alloc (.cells #[.string s, .int .i64 4, .int .i64 0] 75)) := ((Below.refl _ _).alloc (Nat.le_refl _) _).alloc (by simp) _
  generalize (w.alloc (.cells nil12 29)).alloc (.cells #[.string s, .int .i64 4, .int .i64 0] 75) = w0 at *
  obtain ⟨S, hSd⟩ : ∃ S, S = [w.heap.size, w.heap.size + 1] := ⟨_, rfl⟩
  have hgS : w.heap.size + 1 ∈ S := by rw [hSd]; simp
  have hrS : w.heap.size ∈ S := by rw [hSd]; simp
  obtain ⟨SS, hSSd⟩ : ∃ SS, SS = S0 ++ S := ⟨_, rfl⟩
  have hgSS : w.heap.size + 1 ∈ SS := by rw [hSSd]; exact List.mem_append_right _ hgS
  have HSO : Hid (∀ x ∈ S0, x ∈ SS) := Lib.hid (fun x hx => by rw [hSSd]; exact List.mem_append_left _ hx)
  have HSM : Hid (∀ x ∈ S, x ∈ SS) := Lib.hid (fun x hx => by rw [hSSd]; exact List.mem_append_right _ hx)
  have hS0 : ∀ x ∈ SS, x < w0.heap.size := by
    have h1 := hb0.lt
    intro x hx
    rw [hSSd] at hx
    rcases List.mem_append.1 hx with hx | hx
    · have := hold x hx; omega
    · rw [hSd] at hx; simp at hx; omega
  have HSlo : Hid (∀ x ∈ S, w.heap.size ≤ x) := Lib.hid (by rw [hSd]; simp)
  have HT0 := Lib.hid hT0
  have HB0 := Lib.hid hb0
  have HBEL0 := Lib.hid hbel0
  have HGL0 := Lib.hid (fun V (h : Below w.heap.size w V) => hgl.later h)
  have HR0 : Hid (w0.grownBy w0 (some (w.heap.size + 1))) := Lib.hid (grown_refl _ _)
  clear hT0 hb0 hbel0 hSd hb hgl hSSd hold
  refine (spans_step hS0 hgSS hs HB0.out HU0.out).mono ?_
  rintro r w1 ⟨A0, k0, x0, p1, e1, rfl, h0, hb1, hg1, hu1⟩
  have HX0 := Lib.hid h0
  have HB1 := Lib.hid hb1
  have HU1 : Hid (Left e1 (contC s.data.toList 6 p1 [x0]) R) := Lib.hid hu1
  have HG1 := Lib.hid hg1
  have hS1 : ∀ x ∈ SS, x < w1.heap.size := fun x hx => Nat.lt_of_lt_of_le (hS0 x hx) hg1.size
  have HR1 := Lib.hid (grown_trans HR0.out hg1)
  clear h0 hb1 hg1 hu1 HB0 HU0 hS0 HR0
  go_wp2_with fail
  refine (spans_step hS1 hgSS hs HB1.out HU1.out).mono ?_
  rintro r w2 ⟨A1, k1, x1, p2, e2, rfl, h1, hb2, hg2, hu2⟩
  have HX1 := Lib.hid h1
  have HB2 := Lib.hid hb2
  have HU2 : Hid (Left e2 (contC s.data.toList 5 p2 [x0, x1]) R) := Lib.hid hu2
  have HG2 := Lib.hid hg2
  have hS2 : ∀ x ∈ SS, x < w2.heap.size := fun x hx => Nat.lt_of_lt_of_le (hS1 x hx) hg2.size
  have HR2 := Lib.hid (grown_trans HR1.out hg2)
  clear h1 hb2 hg2 hu2 HB1 HU1 hS1 HR1
  go_wp2_with fail
  refine (spans_step hS2 hgSS hs HB2.out HU2.out).mono ?_
  rintro r w3 ⟨A2, k2, x2, p3, e3, rfl, h2, hb3, hg3, hu3⟩
  have HX2 := Lib.hid h2
  have HB3 := Lib.hid hb3
  have HU3 : Hid (Left e3 (contC s.data.toList 4 p3 [x0, x1, x2]) R) := Lib.hid hu3
  have HG3 := Lib.hid hg3
  have hS3 : ∀ x ∈ SS, x < w3.heap.size := fun x hx => Nat.lt_of_lt_of_le (hS2 x hx) hg3.size
  have HR3 := Lib.hid (grown_trans HR2.out hg3)
  clear h2 hb3 hg3 hu3 HB2 HU2 hS2 HR2
  go_wp2_with fail
  refine (spans_step hS3 hgSS hs HB3.out HU3.out).mono ?_
  rintro r w4 ⟨A3, k3, x3, p4, e4, rfl, h3, hb4, hg4, hu4⟩
  have HX3 := Lib.hid h3
  have HB4 := Lib.hid hb4
  have HU4 : Hid (Left e4 (contC s.data.toList 3 p4 [x0, x1, x2, x3]) R) := Lib.hid hu4
  have HG4 := Lib.hid hg4
  have hS4 : ∀ x ∈ SS, x < w4.heap.size := fun x hx => Nat.lt_of_lt_of_le (hS3 x hx) hg4.size
  have HR4 := Lib.hid (grown_trans HR3.out hg4)
  clear h3 hb4 hg4 hu4 HB3 HU3 hS3 HR3
  go_wp2_with fail
  refine (spans_step hS4 hgSS hs HB4.out HU4.out).mono ?_
  rintro r w5 ⟨A4, k4, x4, p5, e5, rfl, h4, hb5, hg5, hu5⟩
  have HX4 := Lib.hid h4
  have HB5 := Lib.hid hb5
  have HU5 : Hid (Left e5 (contC s.data.toList 2 p5 [x0, x1, x2, x3, x4]) R) := Lib.hid hu5
  have HG5 := Lib.hid hg5
  have hS5 : ∀ x ∈ SS, x < w5.heap.size := fun x hx => Nat.lt_of_lt_of_le (hS4 x hx) hg5.size
  have HR5 := Lib.hid (grown_trans HR4.out hg5)
  clear h4 hb5 hg5 hu5 HB4 HU4 hS4 HR4
  go_wp2_with fail
  refine (spans_step hS5 hgSS hs HB5.out HU5.out).mono ?_
  rintro r w6 ⟨A5, k5, x5, p6, e6, rfl, h5, hb6, hg6, hu6⟩
  have HX5 := Lib.hid h5
  have HB6 := Lib.hid hb6
  have HU6 : Hid (Left e6 (contC s.data.toList 1 p6 [x0, x1, x2, x3, x4, x5]) R) := Lib.hid hu6
  have HG6 := Lib.hid hg6
  have hS6 : ∀ x ∈ SS, x < w6.heap.size := fun x hx => Nat.lt_of_lt_of_le (hS5 x hx) hg6.size
  have HR6 := Lib.hid (grown_trans HR5.out hg6)
  clear h5 hb6 hg6 hu6 HB5 HU5 hS5 HR5
  go_wp2_with fail
  refine (spans_step hS6 hgSS hs HB6.out HU6.out).mono ?_
  rintro r w7 ⟨A6, k6, x6, p7, e7, rfl, h6, hb7, hg7, hu7⟩
  have HX6 := Lib.hid h6
  have HB7 := Lib.hid hb7
  have HU7 : Hid (Left e7 (contM s.data.toList 4 p7 [x0, x1, x2, x3, x4, x5, x6] []) R) := Lib.hid hu7
  have HG7 := Lib.hid hg7
  have hS7 : ∀ x ∈ SS, x < w7.heap.size := fun x hx => Nat.lt_of_lt_of_le (hS6 x hx) hg7.size
  have HR7 := Lib.hid (grown_trans HR6.out hg7)
  clear h6 hb7 hg7 hu7 HB6 HU6 hS6 HR6
  go_wp2_with fail
  refine (mappings_step hS7 hgSS hs HB7.out HU7.out).mono ?_
  rintro r w8 ⟨A7, k7, x7, p8, e8, rfl, h7, hb8, hg8, hu8⟩
  have HX7 := Lib.hid h7
  have HB8 := Lib.hid hb8
  have HU8 : Hid (Left e8 (contM s.data.toList 3 p8 [x0, x1, x2, x3, x4, x5, x6] [x7]) R) := Lib.hid hu8
  have HG8 := Lib.hid hg8
  have hS8 : ∀ x ∈ SS, x < w8.heap.size := fun x hx => Nat.lt_of_lt_of_le (hS7 x hx) hg8.size
  have HR8 := Lib.hid (grown_trans HR7.out hg8)
  clear h7 hb8 hg8 hu8 HB7 HU7 hS7 HR7
  go_wp2_with fail
  refine (mappings_step hS8 hgSS hs HB8.out HU8.out).mono ?_
  rintro r w9 ⟨A8, k8, x8, p9, e9, rfl, h8, hb9, hg9, hu9⟩
  have HX8 := Lib.hid h8
  have HB9 := Lib.hid hb9
  have HU9 : Hid (Left e9 (contM s.data.toList 2 p9 [x0, x1, x2, x3, x4, x5, x6] [x7, x8]) R) := Lib.hid hu9
  have HG9 := Lib.hid hg9
  have hS9 : ∀ x ∈ SS, x < w9.heap.size := fun x hx => Nat.lt_of_lt_of_le (hS8 x hx) hg9.size
  have HR9 := Lib.hid (grown_trans HR8.out hg9)
  clear h8 hb9 hg9 hu9 HB8 HU8 hS8 HR8
  go_wp2_with fail
  refine (mappings_step hS9 hgSS hs HB9.out HU9.out).mono ?_
  rintro r w10 ⟨A9, k9, x9, p10, e10, rfl, h9, hb10, hg10, hu10⟩
  have HX9 := Lib.hid h9
  have HB10 := Lib.hid hb10
  have HU10 : Hid (Left e10 (contM s.data.toList 1 p10 [x0, x1, x2, x3, x4, x5, x6] [x7, x8, x9]) R) := Lib.hid hu10
  have HG10 := Lib.hid hg10
  have hS10 : ∀ x ∈ SS, x < w10.heap.size := fun x hx => Nat.lt_of_lt_of_le (hS9 x hx) hg10.size
  have HR10 := Lib.hid (grown_trans HR9.out hg10)
  clear h9 hb10 hg10 hu10 HB9 HU9 hS9 HR9
  go_wp2_with fail
  refine (mappings_step hS10 hgSS hs HB10.out HU10.out).mono ?_
  rintro r w11 ⟨A10, k10, x10, p11, e11, rfl, h10, hb11, hg11, hu11⟩
  have HX10 := Lib.hid h10
  have HB11 := Lib.hid hb11
  have HU11 : Hid (Left e11 (contX s.data.toList p11 [x0, x1, x2, x3, x4, x5, x6] [x7, x8, x9, x10]) R) := Lib.hid hu11
  have HG11 := Lib.hid hg11
  have hS11 : ∀ x ∈ SS, x < w11.heap.size := fun x hx => Nat.lt_of_lt_of_le (hS10 x hx) hg11.size
  have HR11 := Lib.hid (grown_trans HR10.out hg11)
  clear h10 hb11 hg11 hu11 HB10 HU10 hS10 HR10
  go_wp2_with fail
  have hT11 := HT0.out.grown HR11.out (fun e => by have h9 := Option.some.inj e; omega)
  have HT11 := Lib.hid (hT11.alloc (.cells #[.slice A0 x0.length k0, .slice A1 x1.length k1, .slice A2 x2.length k2, .slice A3 x3.length k3, .slice A4 x4.length k4, .slice A5 x5.length k5, .slice A6 x6.length k6, .slice A7 x7.length k7, .slice A8 x8.length k8, .slice A9 x9.length k9, .slice none 0 0, .slice A10 x10.length k10] 29))
  have HB12 := Lib.hid (HB11.out.alloc (.cells #[.slice A0 x0.length k0, .slice A1 x1.length k1, .slice A2 x2.length k2, .slice A3 x3.length k3, .slice A4 x4.length k4, .slice A5 x5.length k5, .slice A6 x6.length k6, .slice A7 x7.length k7, .slice A8 x8.length k8, .slice A9 x9.length k9, .slice none 0 0, .slice A10 x10.length k10] 29))
  have HN := Lib.hid (Blk.new w11 29 #[.slice A0 x0.length k0, .slice A1 x1.length k1, .slice A2 x2.length k2, .slice A3 x3.length k3, .slice A4 x4.length k4, .slice A5 x5.length k5, .slice A6 x6.length k6, .slice A7 x7.length k7, .slice A8 x8.length k8, .slice A9 x9.length k9, .slice none 0 0, .slice A10 x10.length k10])
  have HBA : Hid (Below w11.heap.size w11 (w11.alloc (.cells #[.slice A0 x0.length k0, .slice A1 x1.length k1, .slice A2 x2.length k2, .slice A3 x3.length k3, .slice A4 x4.length k4, .slice A5 x5.length k5, .slice A6 x6.length k6, .slice A7 x7.length k7, .slice A8 x8.length k8, .slice A9 x9.length k9, .slice none 0 0, .slice A10 x10.length k10] 29))) := Lib.hid ((Below.refl _ _).alloc (Nat.le_refl _) _)
  have hS12 : ∀ x ∈ SS, x < (w11.alloc (.cells #[.slice A0 x0.length k0, .slice A1 x1.length k1, .slice A2 x2.length k2, .slice A3 x3.length k3, .slice A4 x4.length k4, .slice A5 x5.length k5, .slice A6 x6.length k6, .slice A7 x7.length k7, .slice A8 x8.length k8, .slice A9 x9.length k9, .slice none 0 0, .slice A10 x10.length k10] 29)).heap.size := fun x hx => Nat.lt_of_lt_of_le (hS11 x hx) (by simp)
  have hg11 : w.heap.size + 1 < w11.heap.size := hS11 _ hgSS
  have HBW : Hid (Below w.heap.size w w11) := Lib.hid (HBEL0.out.trans (onlyIn.below (onlyIn.of_grown HR11.out hgS) HSlo.out HBEL0.out.size))
  generalize hwA : w11.alloc (.cells #[.slice A0 x0.length k0, .slice A1 x1.length k1, .slice A2 x2.length k2, .slice A3 x3.length k3, .slice A4 x4.length k4, .slice A5 x5.length k5, .slice A6 x6.length k6, .slice A7 x7.length k7, .slice A8 x8.length k8, .slice A9 x9.length k9, .slice none 0 0, .slice A10 x10.length k10] 29) = wA at *
  have hszA : w11.heap.size < wA.heap.size := by rw [← hwA]; simp
  clear hwA hT11 HT0 HB11 hS11 HR11
  obtain ⟨S2, hS2⟩ : ∃ S2, S2 = w11.heap.size :: S := ⟨_, rfl⟩
  obtain ⟨SS2, hSS2⟩ : ∃ SS2, SS2 = w11.heap.size :: SS := ⟨_, rfl⟩
  have hgSS2 : w.heap.size + 1 ∈ SS2 := by rw [hSS2]; exact List.mem_cons_of_mem _ hgSS
  have HM2 : Hid (∀ x ∈ S2, x ∈ SS2) := Lib.hid (fun x hx => by
    rw [hS2] at hx
    rw [hSS2]
    rcases List.mem_cons.1 hx with rfl | hx
    · exact List.mem_cons_self
    · exact List.mem_cons_of_mem _ (HSM.out x hx))
  have HM0 : Hid (∀ x ∈ S0, x ∈ SS2) := Lib.hid (fun x hx => by rw [hSS2]; exact List.mem_cons_of_mem _ (HSO.out x hx))
  have hgS2 : w.heap.size + 1 ∈ S2 := by rw [hS2]; exact List.mem_cons_of_mem _ hgS
  have htS2 : w11.heap.size ∈ S2 := by rw [hS2]; exact List.mem_cons_self
  have hrS2 : w.heap.size ∈ S2 := by rw [hS2]; exact List.mem_cons_of_mem _ hrS
  have hS13 : ∀ x ∈ SS2, x < wA.heap.size := fun x hx => by
    rw [hSS2] at hx
    rcases List.mem_cons.1 hx with rfl | hx
    · exact hszA
    · exact hS12 x hx
  refine (list_step hS13 hgSS2 hs HB12.out HU11.out).mono ?_
  rintro r w12 ⟨Ay, ky, y, p12, e12, rfl, hy, hb13, hg12, hu12, hbn⟩
  have HY := Lib.hid hy
  have HU12 : Hid (Left e12 (contS s.data.toList p12 (mkT [x0, x1, x2, x3, x4, x5, x6] [x7, x8, x9, x10] y)) R) := Lib.hid hu12
  have hn12 := HN.out.grown hg12 (fun e => by have h9 := Option.some.inj e; omega)
  have c10 := hn12.at_ (i := 10) rfl
  have f10 := hn12.free 10
  have HN13 : Hid (Blk (w12.setCell ⟨w11.heap.size, 10, none⟩ (.slice Ay y.length ky)) w11.heap.size 29 #[.slice A0 x0.length k0, .slice A1 x1.length k1, .slice A2 x2.length k2, .slice A3 x3.length k3, .slice A4 x4.length k4, .slice A5 x5.length k5, .slice A6 x6.length k6, .slice A7 x7.length k7, .slice A8 x8.length k8, .slice A9 x9.length k9, .slice Ay y.length ky, .slice A10 x10.length k10]) := Lib.hid (hn12.put 10 (.slice Ay y.length ky))
  have HB13 := Lib.hid (hb13.far (p := ⟨w11.heap.size, 10, none⟩) (by show w.heap.size + 1 ≠ w11.heap.size; omega) (.slice Ay y.length ky))
  have HT13 := Lib.hid ((HT11.out.grown hg12 (fun e => by have h9 := Option.some.inj e; omega)).far (p := ⟨w11.heap.size, 10, none⟩) (by show w.heap.size ≠ w11.heap.size; omega) (.slice Ay y.length ky))
  have HO13 : Hid (onlyIn S2 wA (w12.setCell ⟨w11.heap.size, 10, none⟩ (.slice Ay y.length ky))) := Lib.hid ((onlyIn.of_grown hg12 hgS2).setIn htS2 _)
  have HOY : Hid (onlyIn S2 w12 (w12.setCell ⟨w11.heap.size, 10, none⟩ (.slice Ay y.length ky))) := Lib.hid ((onlyIn.refl _ _).setIn htS2 _)
  have y1 := hb13.at_ (i := 1) rfl
  have y1' := HB13.out.at_ (i := 1) rfl
  clear hy hu12 hn12 hb13 HB12 HU11 HT11 HN hS12 hS13
  go_wp2_with fail
  generalize w12.setCell ⟨w11.heap.size, 10, none⟩ (.slice Ay y.length ky) = wC at *
  clear c10 f10 y1 y1'
  have HLO2 : Hid (∀ x ∈ S2, w.heap.size ≤ x) := Lib.hid (fun x hx => by
    rw [hS2] at hx
    rcases List.mem_cons.1 hx with rfl | hx
    · omega
    · exact HSlo.out x hx)
  have HBC : Hid (Below w.heap.size w wC) := Lib.hid ((HBW.out.trans (HBA.out.mono HBW.out.size)).trans (onlyIn.below HO13.out HLO2.out (by have h1 := HBW.out.size; have h2 := HBA.out.size; omega)))
  obtain ⟨TT, hTT⟩ : ∃ TT, TT = (mkT [x0, x1, x2, x3, x4, x5, x6] [x7, x8, x9, x10] y) := ⟨_, rfl⟩
  rw [← hTT] at HU12
  have HTR : Hid (∀ V, onlyIn SS2 wA V → onlyIn SS2 w12 V → TabR V V.heap.size ⟨.slice A0 x0.length k0, .slice A1 x1.length k1, .slice A2 x2.length k2, .slice A3 x3.length k3, .slice A4 x4.length k4, .slice A5 x5.length k5, .slice A6 x6.length k6, .slice A7 x7.length k7, .slice A8 x8.length k8, .slice A9 x9.length k9, .slice Ay y.length ky, .slice A10 x10.length k10⟩ TT) := Lib.hid (fun V hoA hoy => by
    rw [hSS2] at hoA
    have o11 := hoA.lose HBA.out (Nat.le_refl _)
    have o10 := (onlyIn.of_grown HG11.out hgSS).trans o11
    have o9 := (onlyIn.of_grown HG10.out hgSS).trans o10
    have o8 := (onlyIn.of_grown HG9.out hgSS).trans o9
    have o7 := (onlyIn.of_grown HG8.out hgSS).trans o8
    have o6 := (onlyIn.of_grown HG7.out hgSS).trans o7
    have o5 := (onlyIn.of_grown HG6.out hgSS).trans o6
    have o4 := (onlyIn.of_grown HG5.out hgSS).trans o5
    have o3 := (onlyIn.of_grown HG4.out hgSS).trans o4
    have o2 := (onlyIn.of_grown HG3.out hgSS).trans o3
    have o1 := (onlyIn.of_grown HG2.out hgSS).trans o2
    rw [hTT]
    exact ⟨HX0.out _ o1, HX1.out _ o2, HX2.out _ o3, HX3.out _ o4, HX4.out _ o5, HX5.out _ o6, HX6.out _ o7, HX7.out _ o8, HX8.out _ o9, HX9.out _ o10, HY.out _ hoy, HX10.out _ o11⟩)
  clear HX0 HX1 HX2 HX3 HX4 HX5 HX6 HX7 HX8 HX9 HX10 HG1 HG2 HG3 HG4 HG5 HG6 HG7 HG8 HG9 HG10 HG11 HY hTT HSlo HBW HBA hS2 hrS hgS htS2 hSS2 hgSS HSM HSO hgSS2
  by_cases he12 : e12 = 0
  case neg =>
    have HRR : Hid (R = (noT, e12)) := Lib.hid (by
      rcases HU12.out with ⟨h, _⟩ | ⟨_, h⟩
      · exact absurd h he12
      · exact h)
    refine (number_err wC _ s p12 e12 HB13.out he12).mono ?_
    rintro r w14 ⟨rfl, rfl⟩
    have c2 := HB13.out.at_ (i := 2) rfl
    have hne : (e12 != 0) = true := by rw [bne_iff_ne]; exact he12
    obtain ⟨z0, z1, z2, z3, z4, z5, z6, z7, z8, z9, z10, z11⟩ := HT13.out.tab
    have q0 := HT13.out.free 0
    have q1 := HT13.out.free 1
    have q2 := HT13.out.free 2
    have q3 := HT13.out.free 3
    have q4 := HT13.out.free 4
    have q5 := HT13.out.free 5
    have q6 := HT13.out.free 6
    have q7 := HT13.out.free 7
    have q8 := HT13.out.free 8
    have q9 := HT13.out.free 9
    have q10 := HT13.out.free 10
    have q11 := HT13.out.free 11
    go_wp2_with fail
    go_region
    all_goals go_wp2_with fail
    all_goals
      (try simp only [Exit.inBlock, Exit.then])
      refine bodyPost_ret (v := .tuple #[.agg nil12, .int .i64 e12]) ?_ rfl ?_
      · rw [results_cell_tmp rfl]; go_simp
      rw [HRR.out]
      (first | (with_reducible exact retDcd_no (below_set12 HBC.out (Nat.le_refl _))) | (with_reducible exact retDcd_no (below_set12 HBC.out (Nat.le_refl _)).drew) | (with_reducible exact retDcd_no (below_set12 HBC.out.drew (Nat.le_refl _))) | fail "below")
  subst he12
  obtain ⟨b, rfl, hble⟩ := hbn rfl
  have HUS : Hid (contS s.data.toList b TT = R) := Lib.hid (by
    rcases HU12.out with ⟨_, h⟩ | ⟨h, _⟩
    · exact h
    · exact absurd rfl h)
  clear HU12 hbn
  have hnum := Lib.hid (number_ok wC _ s b hs HB13.out)
  obtain ⟨n, q, e13, hgi⟩ : ∃ n q e, getInt s.data.toList b = (n, q, e) := ⟨_, _, _, rfl⟩
  rw [hgi] at hnum
  simp only at hnum
  have HGI := Lib.hid hgi; clear hgi
  refine hnum.out.mono ?_
  rintro r w14 ⟨v, rfl, rfl, hb14, hg14⟩
  have HB14 := Lib.hid hb14
  have HT14 := Lib.hid (HT13.out.grown hg14 (fun e => by have h9 := Option.some.inj e; omega))
  have HN14 := Lib.hid (HN13.out.grown hg14 (fun e => by have h9 := Option.some.inj e; omega))
  have HO14 := Lib.hid (HO13.out.trans (onlyIn.of_grown hg14 hgS2))
  have HOY14 := Lib.hid (HOY.out.trans (onlyIn.of_grown hg14 hgS2))
  have HBC14 := Lib.hid (below_of_grown HBC.out hg14 (by omega) HBC.out.size)
  have c2 := hb14.at_ (i := 2) rfl
  clear hnum hb14 hg14 HB13 HT13 HN13 HO13 HOY
  by_cases he13 : e13 = 0
  case neg =>
    have HRR : Hid (R = (noT, e13)) := Lib.hid (by rw [← HUS.out, contS_err HGI.out he13])
    have hne : (e13 != 0) = true := by rw [bne_iff_ne]; exact he13
    obtain ⟨z0, z1, z2, z3, z4, z5, z6, z7, z8, z9, z10, z11⟩ := HT14.out.tab
    have q0 := HT14.out.free 0
    have q1 := HT14.out.free 1
    have q2 := HT14.out.free 2
    have q3 := HT14.out.free 3
    have q4 := HT14.out.free 4
    have q5 := HT14.out.free 5
    have q6 := HT14.out.free 6
    have q7 := HT14.out.free 7
    have q8 := HT14.out.free 8
    have q9 := HT14.out.free 9
    have q10 := HT14.out.free 10
    have q11 := HT14.out.free 11
    go_wp2_with fail
    go_region
    all_goals go_wp2_with fail
    all_goals
      (try simp only [Exit.inBlock, Exit.then])
      refine bodyPost_ret (v := .tuple #[.agg nil12, .int .i64 e13]) ?_ rfl ?_
      · rw [results_cell_tmp rfl]; go_simp
      rw [HRR.out]
      (first | (with_reducible exact retDcd_no (below_set12 HBC14.out (Nat.le_refl _))) | (with_reducible exact retDcd_no (below_set12 HBC14.out (Nat.le_refl _)).drew) | (with_reducible exact retDcd_no (below_set12 HBC14.out.drew (Nat.le_refl _))) | fail "below")
  subst he13
  have hxs : (s.extract 0 b).size ≤ maxLen := by
    have h1 : (s.extract 0 b).size = (s.data.toList.take b).length := by rw [← sz_list, ext_take]
    rw [List.length_take, HL.out] at h1
    unfold maxLen; omega
  have HSU := Lib.hid (fun W => sum_any (s.extract 0 b) W hxs)
  obtain ⟨su, hsu⟩ : ∃ su, su = sumL (s.extract 0 b).data.toList := ⟨_, rfl⟩
  rw [← hsu] at HSU
  have HSE : Hid ((su : Int) = (sumL (s.data.toList.take (b : Int).toNat) : Int)) := Lib.hid (by rw [hsu, ext_take, Int.toNat_natCast])
  have b0 : (0 : Int) ≤ (b : Int) := by omega
  have b1 : (b : Int) ≤ (s.size : Int) := by omega
  clear hsu hxs
  go_wp2_with fail
  refine (HSU.out _).mono ?_
  rintro r w15 ⟨rfl, b15⟩
  have HT15 := Lib.hid (HT14.out.later b15)
  have HN15 := Lib.hid (HN14.out.later b15)
  have HO15 := Lib.hid (HO14.out.trans (onlyIn.of_below b15))
  have HOY15 := Lib.hid (HOY14.out.trans (onlyIn.of_below b15))
  have HBC15 := Lib.hid (HBC14.out.trans (b15.mono HBC14.out.size))
  have c1 := (HB14.out.later b15).at_ (i := 1) rfl
  clear HSU b15 HT14 HN14 HO14 HOY14 HBC14 HB14 c2
  by_cases hv : n = (su : Int)
  case neg =>
    have HRR : Hid (R = (noT, 6)) := Lib.hid (by rw [← HUS.out, contS_sum HGI.out (by rw [← HSE.out]; exact hv)])
    have hne : (n != (su : Int)) = true := by rw [bne_iff_ne]; exact hv
    obtain ⟨z0, z1, z2, z3, z4, z5, z6, z7, z8, z9, z10, z11⟩ := HT15.out.tab
    have q0 := HT15.out.free 0
    have q1 := HT15.out.free 1
    have q2 := HT15.out.free 2
    have q3 := HT15.out.free 3
    have q4 := HT15.out.free 4
    have q5 := HT15.out.free 5
    have q6 := HT15.out.free 6
    have q7 := HT15.out.free 7
    have q8 := HT15.out.free 8
    have q9 := HT15.out.free 9
    have q10 := HT15.out.free 10
    have q11 := HT15.out.free 11
    go_wp2_with fail
    (try simp only [Exit.inBlock, Exit.then])
    refine bodyPost_ret (v := .tuple #[.agg nil12, .int .i64 6]) ?_ rfl ?_
    · rw [results_cell_tmp rfl]; go_simp
    rw [HRR.out]
    (first | (with_reducible exact retDcd_no (below_set12 HBC15.out (Nat.le_refl _))) | (with_reducible exact retDcd_no (below_set12 HBC15.out (Nat.le_refl _)).drew) | (with_reducible exact retDcd_no (below_set12 HBC15.out.drew (Nat.le_refl _))) | fail "below")
  have hne : (n != (su : Int)) = false := by rw [hv]; exact bne_self_eq_false _
  have HV := Lib.hid (hv.trans HSE.out)
  by_cases hq : q < (s.size : Int)
  · have HRR : Hid (R = (noT, 4)) := Lib.hid (by rw [← HUS.out, contS_form HGI.out HV.out (by rw [HL.out]; exact hq)])
    obtain ⟨z0, z1, z2, z3, z4, z5, z6, z7, z8, z9, z10, z11⟩ := HT15.out.tab
    have q0 := HT15.out.free 0
    have q1 := HT15.out.free 1
    have q2 := HT15.out.free 2
    have q3 := HT15.out.free 3
    have q4 := HT15.out.free 4
    have q5 := HT15.out.free 5
    have q6 := HT15.out.free 6
    have q7 := HT15.out.free 7
    have q8 := HT15.out.free 8
    have q9 := HT15.out.free 9
    have q10 := HT15.out.free 10
    have q11 := HT15.out.free 11
    go_wp2_with fail
    (try simp only [Exit.inBlock, Exit.then])
    refine bodyPost_ret (v := .tuple #[.agg nil12, .int .i64 4]) ?_ rfl ?_
    · rw [results_cell_tmp rfl]; go_simp
    rw [HRR.out]
    (first | (with_reducible exact retDcd_no (below_set12 HBC15.out (Nat.le_refl _))) | (with_reducible exact retDcd_no (below_set12 HBC15.out (Nat.le_refl _)).drew) | (with_reducible exact retDcd_no (below_set12 HBC15.out.drew (Nat.le_refl _))) | fail "below")
  have HQ := Lib.hid (show (s.data.toList.length : Int) ≤ q by rw [HL.out]; omega)
  have HCK := Lib.hid (fun V hA hY hg => check_table ⟨.slice A0 x0.length k0, .slice A1 x1.length k1, .slice A2 x2.length k2, .slice A3 x3.length k3, .slice A4 x4.length k4, .slice A5 x5.length k5, .slice A6 x6.length k6, .slice A7 x7.length k7, .slice A8 x8.length k8, .slice A9 x9.length k9, .slice Ay y.length ky, .slice A10 x10.length k10⟩ TT V (HTR.out V hA hY) hg)
  obtain ⟨ck, hck⟩ : ∃ ck, ck = TT.check := ⟨_, rfl⟩
  rw [← hck] at HCK
  have HCE := Lib.hid hck
  clear hck
  obtain ⟨t0, t1, t2, t3, t4, t5, t6, t7, t8, t9, t10, t11⟩ := HN15.out.tab
  have HG15 := Lib.hid (HGL0.out _ HBC15.out)
  go_wp2_with fail
  refine (HCK.out _ (HO15.out.more HM2.out) (HOY15.out.more HM2.out) HG15.out).mono ?_
  rintro r w16 ⟨rfl, b16⟩
  have HT16 := Lib.hid (HT15.out.later b16)
  have HN16 := Lib.hid (HN15.out.later b16)
  have HO16 := Lib.hid (HO15.out.trans (onlyIn.of_below b16))
  have HOY16 := Lib.hid (HOY15.out.trans (onlyIn.of_below b16))
  have HBC16 := Lib.hid (HBC15.out.trans (b16.mono HBC15.out.size))
  clear b16 t0 t1 t2 t3 t4 t5 t6 t7 t8 t9 t10 t11 HT15 HN15 HO15 HOY15 HBC15 c1 HCK hne
  by_cases hc0 : ck = 0
  case neg =>
    have HRR : Hid (R = (noT, 2)) := Lib.hid (by rw [← HUS.out, contS_bad HGI.out HV.out HQ.out (by rw [← HCE.out]; exact hc0)])
    have hne : (ck != 0) = true := by rw [bne_iff_ne]; exact hc0
    obtain ⟨z0, z1, z2, z3, z4, z5, z6, z7, z8, z9, z10, z11⟩ := HT16.out.tab
    have q0 := HT16.out.free 0
    have q1 := HT16.out.free 1
    have q2 := HT16.out.free 2
    have q3 := HT16.out.free 3
    have q4 := HT16.out.free 4
    have q5 := HT16.out.free 5
    have q6 := HT16.out.free 6
    have q7 := HT16.out.free 7
    have q8 := HT16.out.free 8
    have q9 := HT16.out.free 9
    have q10 := HT16.out.free 10
    have q11 := HT16.out.free 11
    go_wp2_with fail
    (try simp only [Exit.inBlock, Exit.then])
    refine bodyPost_ret (v := .tuple #[.agg nil12, .int .i64 2]) ?_ rfl ?_
    · rw [results_cell_tmp rfl]; go_simp
    rw [HRR.out]
    (first | (with_reducible exact retDcd_no (below_set12 HBC16.out (Nat.le_refl _))) | (with_reducible exact retDcd_no (below_set12 HBC16.out (Nat.le_refl _)).drew) | (with_reducible exact retDcd_no (below_set12 HBC16.out.drew (Nat.le_refl _))) | fail "below")
  subst hc0
  have HRR : Hid (R = (TT, 0)) := Lib.hid (by rw [← HUS.out, contS_ok HGI.out HV.out HQ.out HCE.out.symm])
  obtain ⟨t0, t1, t2, t3, t4, t5, t6, t7, t8, t9, t10, t11⟩ := HN16.out.tab
  obtain ⟨z0, z1, z2, z3, z4, z5, z6, z7, z8, z9, z10, z11⟩ := HT16.out.tab
  have q0 := HT16.out.free 0
  have q1 := HT16.out.free 1
  have q2 := HT16.out.free 2
  have q3 := HT16.out.free 3
  have q4 := HT16.out.free 4
  have q5 := HT16.out.free 5
  have q6 := HT16.out.free 6
  have q7 := HT16.out.free 7
  have q8 := HT16.out.free 8
  have q9 := HT16.out.free 9
  have q10 := HT16.out.free 10
  have q11 := HT16.out.free 11
  go_wp2_with fail
  (try simp only [Exit.inBlock, Exit.then])
  refine bodyPost_ret (v := .tuple #[.agg #[.slice A0 x0.length k0, .slice A1 x1.length k1, .slice A2 x2.length k2, .slice A3 x3.length k3, .slice A4 x4.length k4, .slice A5 x5.length k5, .slice A6 x6.length k6, .slice A7 x7.length k7, .slice A8 x8.length k8, .slice A9 x9.length k9, .slice Ay y.length ky, .slice A10 x10.length k10], .int .i64 0]) ?_ rfl ?_
  · rw [results_cell_tmp rfl]; go_simp
  rw [HRR.out]
  exact ⟨⟨.slice A0 x0.length k0, .slice A1 x1.length k1, .slice A2 x2.length k2, .slice A3 x3.length k3, .slice A4 x4.length k4, .slice A5 x5.length k5, .slice A6 x6.length k6, .slice A7 x7.length k7, .slice A8 x8.length k8, .slice A9 x9.length k9, .slice Ay y.length ky, .slice A10 x10.length k10⟩, rfl, fun V hV => HTR.out _ (((only_set12 HO16.out hrS2).more HM2.out).trans (hV.more HM0.out)) (((only_set12 HOY16.out hrS2).more HM2.out).trans (hV.more HM0.out)), below_set12 HBC16.out (Nat.le_refl _)⟩
end Go.Proofs.YtikcfoobfobmnaaGreatDoor
