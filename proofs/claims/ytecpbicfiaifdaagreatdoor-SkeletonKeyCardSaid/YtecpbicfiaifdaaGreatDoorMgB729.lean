/-
  Merged texts: lemmas and walks that the last text of this claim leans on.
-/
import Derived.WalkKit
import Derived.Test.YtecpbicfiaifdaaGreatDoorMgB71
import Derived.Test.YtecpbicfiaifdaaGreatDoorProg
import Derived.WalkSpells
import Derived.WalkLawsBesides
import Derived.Lib.Hide
import Derived.Test.YtecpbicfiaifdaaGreatDoorMgB728
import Derived.Test.YtecpbicfiaifdaaGreatDoorMgB72
import Derived.Lib.Strings
/-
  A row of the call's own whose mark lies behind its last cell (what a conversion of a string to bytes leaves): it can be appended to like any other.
-/
namespace Go.Proofs.YtecpbicfiaifdaaGreatDoor
open Go.RowKit

/-- No cell of a row of k cells is frozen. -/
def clear_ (fz : Nat × Nat) (k : Nat) : Prop := fz = (0, 0) ∨ k ≤ fz.1

def ownsT (w : World) (base : Nat) (e : TypeId) (size : Nat) (v : Value) (n : Nat) (xs : List Value) : Prop :=
  xs.length = n * size ∧
  ((v = .slice none 0 0 ∧ n = 0) ∨
   ∃ g cap cur fz, v = .slice (some ⟨g, 0, none⟩) n cap ∧ base ≤ g ∧ w.heap[g]? = some (.cells cur e fz) ∧ clear_ fz cur.size ∧ n ≤ cap ∧ cap ≤ maxLen ∧ cur.size = cap * size ∧ cur.toList.take (n * size) = xs)

section
variable {w : World} {base : Nat} {e : TypeId} {size : Nat} {v : Value} {n : Nat} {xs : List Value}
theorem ownsT_of (h : w.ownsRow base e size v n xs) : ownsT w base e size v n xs := by
  refine ⟨h.1, ?_⟩
  rcases h.2 with hn | ⟨g, cap, cur, hv, hb, hg, rest⟩
  · exact .inl hn
  · exact .inr ⟨g, cap, cur, (0, 0), hv, hb, hg, .inl rfl, rest⟩
theorem ownsT_lt (h : ownsT w base e size v n xs) : ∀ k, v.ownBlock = some k → base ≤ k ∧ k < w.heap.size := by
  intro k hk
  rcases h.2 with ⟨rfl, _⟩ | ⟨g, cap, cur, fz, rfl, hb, hg, _⟩
  · simp [Value.ownBlock] at hk
  · simp [Value.ownBlock] at hk
    subst hk
    exact ⟨hb, (Array.getElem?_eq_some_iff.1 hg).1⟩
theorem ownsT_kept {w' : World} {row : Option Nat} (h : ownsT w base e size v n xs) (hg : w.grownBy w' row) (hne : v.ownBlock = none ∨ v.ownBlock ≠ row) : ownsT w' base e size v n xs := by
  refine ⟨h.1, ?_⟩
  rcases h.2 with hn | ⟨g, cap, cur, fz, rfl, hb, hgg, rest⟩
  · exact .inl hn
  · refine .inr ⟨g, cap, cur, fz, rfl, hb, ?_, rest⟩
    rw [hg.block g (Array.getElem?_eq_some_iff.1 hgg).1 (by simpa [Value.ownBlock] using hne)]
    exact hgg
theorem ownsT_alloc (h : ownsT w base e size v n xs) (o : Obj) : ownsT (w.alloc o) base e size v n xs :=
  ownsT_kept h (World.grownBy_alloc w o none) (by cases hv : v.ownBlock <;> simp)
theorem ownsT_drew (h : ownsT w base e size v n xs) : ownsT w.drew base e size v n xs := h
theorem ownsT_cells (h : ownsT w base e size v n xs) {g : Nat} (hg : v.ownBlock = some g) : ∀ j u, xs[j]? = some u → w.cell? ((⟨g, 0, none⟩ : Addr).add j) = some u := by
  intro j u hu
  rcases h.2 with ⟨rfl, _⟩ | ⟨g', cap, cur, fz, rfl, _, hgg, _, _, _, _, htake⟩
  · simp [Value.ownBlock] at hg
  · simp [Value.ownBlock] at hg
    subst hg
    have hadd : (⟨g', 0, none⟩ : Addr).add j = ⟨g', j, none⟩ := by unfold Addr.add; split <;> simp_all
    rw [hadd, cell_of_row w g' j cur e fz hgg]
    rw [← htake, List.getElem?_take] at hu
    split at hu
    · simpa using hu
    · cases hu
end

theorem run_storeCells_atT (P : Program) (g o : Nat) (t : TypeId) (fz : Nat × Nat) : ∀ (vs : List Value) (i : Nat) (cur : Array Value) (w : World), w.heap[g]? = some (.cells cur t fz) → clear_ fz cur.size → o + i + vs.length ≤ cur.size → (∀ v ∈ vs, v.oneCell' = true) →
    (storeCells ⟨g, o, none⟩ vs i).run P w = .ok () (w.setRow g (cur.toList.take (o + i) ++ vs ++ cur.toList.drop (o + i + vs.length)).toArray)
  | [], i, cur, w, hg, _, _, _ => by
    simp only [storeCells, List.append_nil, List.length_nil, Nat.add_zero, List.take_append_drop, Array.toArray_toList]
    rw [setRow_self w g cur t fz hg]
    rfl
  | v :: rest, i, cur, w, hg, hfz, hl, h1 => by
    have hi : o + i < cur.size := by simp at hl; omega
    have hadd : (⟨g, o, none⟩ : Addr).add i = ⟨g, o + i, none⟩ := by unfold Addr.add; split <;> simp_all
    have hcell : w.cell? ⟨g, o + i, none⟩ = some cur[o + i] := by simp [World.cell?, hg, hi]
    have hfro : w.frozen? ⟨g, o + i, none⟩ = false := by
      obtain ⟨lo, hi'⟩ := fz
      simp only [World.frozen?, hg, Bool.and_eq_false_iff, decide_eq_false_iff_not]
      rcases hfz with h | h
      · simp only [Prod.mk.injEq] at h; right; omega
      · left; simp only at h; omega
    have hst : (store ((⟨g, o, none⟩ : Addr).add i) v).run P w = .ok () (w.setRow g (cur.setIfInBounds (o + i) v)) := by
      rw [hadd, run_store P w _ v _ (h1 v (by simp)), hcell]
      simp [hfro, setCell_eq_setRow w g (o + i) cur t fz v hg]
    have ih := run_storeCells_atT P g o t fz rest (i + 1) (cur.setIfInBounds (o + i) v) (w.setRow g (cur.setIfInBounds (o + i) v)) (setRow_heap w g cur _ t _ hg) (by simpa using hfz) (by simp at hl ⊢; omega) (fun x hx => h1 x (by simp [hx]))
    simp only [storeCells, Sem.run_bind, hst, Result.andThen_ok, ih, setRow_setRow]
    congr 3
    have e := list_seg_step cur.toList (o + i) v rest (by simp at hl ⊢; omega)
    simpa [Array.toList_setIfInBounds, Nat.add_assoc] using e

section
variable {P : Program} (w : World)
theorem run_append_ownT (base : Nat) (t ty e : TypeId) (i : TypeInfo) (z : Value) (size bytes : Nat) (ht : P.underlying t = some (.slice e)) (hi : P.info? e = some i) (hz : i.zero = some z)
    (hsize : i.size = size) (hby : i.bytes = bytes) (hzs : z.cells.size = size) (hsz : 0 < size)
    (v : Value) (n : Nat) (xs : List Value) (hown : ownsT w base e size v n xs)
    (a : Addr) (m c : Nat) (news : List Value) (hl : news.length = m * size) (hnews : ∀ j u, news[j]? = some u → w.cell? (a.add j) = some u) (h1 : ∀ u ∈ news, u.oneCell' = true)
    (h63 : n + m ≤ maxLen) (hbytes : (n + m) * bytes ≤ 140737488355328) (hbase : base ≤ w.heap.size) :
    ∃ v' w', (Builtin.append_ #[t, t] ty #[v, .slice (some a) m c]).run P w = .ok v' w' ∧ ownsT w' base e size v' (n + m) (xs ++ news) ∧ w.grownBy w' v.ownBlock := by
  rcases hown.2 with ⟨rfl, rfl⟩ | ⟨g, cap, cur, fz, rfl, hbg, hg, hcl, hnc, hcm, hcs, htake⟩
  · obtain ⟨v', w', h1, h2, h3, _⟩ := run_append_own (P := P) w base t ty e i z size bytes ht hi hz hsize hby hzs hsz (.slice none 0 0) 0 xs ⟨hown.1, .inl ⟨rfl, rfl⟩⟩ a m c news hl hnews h1 h63 hbytes hbase
    exact ⟨v', w', h1, ownsT_of h2, h3⟩
  · subst hsize
    subst hby
    have hsmall : n + m ≤ 9223372036854775807 := by simp only [maxLen] at h63; omega
    have hlen : (xs ++ news).length = (n + m) * i.size := by rw [List.length_append, hown.1, hl, Nat.add_mul]
    by_cases hroom : n + m ≤ cap
    · have hfit : n * i.size + news.length ≤ cur.size := by rw [hl, hcs, ← Nat.add_mul]; exact Nat.mul_le_mul_right _ hroom
      have hf := run_firstCells_some (P := P) w i.size m a m c news hl hnews
      have hst := run_storeCells_atT P g (n * i.size) e fz news 0 cur w hg hcl (by simpa using hfit) h1
      simp only [Nat.add_zero] at hst
      have hr : (Builtin.append_ #[t, t] ty #[.slice (some ⟨g, 0, none⟩) n cap, .slice (some a) m c]).run P w =
          .ok (.slice (some ⟨g, 0, none⟩) (n + m) cap) (w.setRow g (cur.toList.take (n * i.size) ++ news ++ cur.toList.drop (n * i.size + news.length)).toArray) := by
        simp [Builtin.append_, run_underlying ht, sizeOf, typeInfo, hi, Builtin.lenOf, hroom, hf, Addr.add_lit, hst]
      have hsz' : (cur.toList.take (n * i.size) ++ news ++ cur.toList.drop (n * i.size + news.length)).toArray.size = cur.size := by
        simp only [List.size_toArray, List.length_append, List.length_take, List.length_drop, Array.length_toList]
        omega
      refine ⟨_, _, hr, ⟨hlen, .inr ⟨g, cap, _, fz, rfl, hbg, setRow_heap w g cur _ e _ hg, by rw [hsz']; exact hcl, hroom, hcm, by rw [hsz', hcs], ?_⟩⟩, ⟨rfl, rfl, rfl, by simp, fun k _ hk => setRow_other w g k _ (fun e => hk (by simp [Value.ownBlock, e]))⟩⟩
      rw [htake, ← hlen]
      exact List.take_left
    · have holds : ∀ j u, xs[j]? = some u → w.cell? ((⟨g, 0, none⟩ : Addr).add j) = some u := ownsT_cells hown (g := g) rfl
      have hr := run_append_grow (P := P) w t ty e i z ht hi hz ⟨g, 0, none⟩ n cap xs hown.1 holds a m c news hl hnews (by omega) (by omega) (growslice_fits (by omega) hbytes)
      have hge := grownCap_ge w (n + m) cap e
      have hcm2 : grownCap w (n + m) cap e ≤ maxLen := grownCap_le_maxLen w (n + m) cap e h63
      refine ⟨_, _, hr, ⟨hlen, .inr ⟨w.heap.size, _, _, (0, 0), rfl, hbase, heap_alloc_new w.drew _, .inl rfl, hge, hcm2, ?_, ?_⟩⟩, ⟨rfl, rfl, rfl, by simp, fun k hk _ => Below.heap_alloc w.drew _ k hk⟩⟩
      · simp only [Array.size_append, List.size_toArray, size_zeroCells, hzs, hown.1, hl, ← Nat.add_mul]
        congr 1
        omega
      · simp only [Array.toList_append, List.append_assoc]
        rw [← List.append_assoc, ← hlen]
        exact List.take_left

theorem wpList_append_ownT {ops : Array Oper} {rest : List Oper} {o : Oper} {a : Act} {Q : Exit → Act → World → Prop} (hgd : o.guard = none) (s x : Operand) (t : TypeId)
    (ho : o.op = .call { callee := .builtin .append, args := #[s, x], argTypes := #[t, t] })
    (base : Nat) (e : TypeId) (i : TypeInfo) (z : Value) (size bytes : Nat) (ht : P.underlying t = some (.slice e)) (hi : P.info? e = some i) (hz : i.zero = some z)
    (hsize : i.size = size) (hby : i.bytes = bytes) (hzs : z.cells.size = size) (hsz : 0 < size)
    (v : Value) (n : Nat) (xs : List Value) (hs : a.eval s = v) (hown : ownsT w base e size v n xs)
    (ad : Addr) (m c : Nat) (news : List Value) (hx : a.eval x = .slice (some ad) m c) (hl : news.length = m * size) (hnews : ∀ j u, news[j]? = some u → w.cell? (ad.add j) = some u) (h1 : ∀ u ∈ news, u.oneCell' = true)
    (h63 : n + m ≤ maxLen) (hbytes : (n + m) * bytes ≤ 140737488355328) (hbase : base ≤ w.heap.size)
    (h : ∀ v' w', ownsT w' base e size v' (n + m) (xs ++ news) → w.grownBy w' v.ownBlock → wpList P ops Q rest (a.put o.dst v') w') : wpList P ops Q (o :: rest) a w :=
  wpList_plain hgd fun _ hK => by
    obtain ⟨v', w', hr, h2, h3⟩ := run_append_ownT (P := P) w base t o.type e i z size bytes ht hi hz hsize hby hzs hsz v n xs hown ad m c news hl hnews h1 h63 hbytes hbase
    unfold Oper.wp execOp
    simp only [ho, resolve, invoke, builtin, Sem.run_bind, Sem.run_pure, Result.andThen_ok, List.map_toArray, List.map_cons, List.map_nil, hs, hx, hr]
    exact hK _ _ (h v' w' h2 h3)
end
end Go.Proofs.YtecpbicfiaifdaaGreatDoor
/-
  Bytes as values, and strings of bytes.
-/
namespace Go.Proofs.YtecpbicfiaifdaaGreatDoor
open Go.RowKit ND

theorem Tryz.infoU8 : (Tryz.prog.info? 5).map (fun i => (i.zero, i.size, i.bytes)) = some (some (.int .u8 0), 1, 1) := by kernel_rfl

/-- A byte as a value of the model. -/
def bv (c : UInt8) : Value := .int .u8 (c.toNat : Int)

theorem zz_bits {v : Int} (h0 : -9223372036854775808 ≤ v) (h1 : v ≤ 9223372036854775807) :
    bits .xor .u64 (IntKind.u64.wrap (IntKind.u64.wrap v * 2)) (IntKind.u64.wrap (v / 9223372036854775808)) = (zz v : Int) := by
  rw [IntKind.wrap_u64, IntKind.wrap_u64, IntKind.wrap_u64]
  by_cases h : 0 ≤ v
  · have e1 : v / 9223372036854775808 = 0 := by omega
    have e2 : v % 18446744073709551616 * 2 % 18446744073709551616 = ((zz v : Nat) : Int) := by unfold zz; rw [if_pos h]; omega
    have e3 : (0 : Int) % 18446744073709551616 = ((0 : Nat) : Int) := by omega
    rw [e1, e2, e3, u64_xor_nat _ _ (zz_lt h0 h1) (by omega), Nat.xor_zero]
  · have e1 : v / 9223372036854775808 = -1 := by omega
    have e2 : v % 18446744073709551616 * 2 % 18446744073709551616 = ((18446744073709551615 - zz v : Nat) : Int) := by unfold zz; rw [if_neg h]; omega
    have e3 : (-1 : Int) % 18446744073709551616 = ((18446744073709551615 : Nat) : Int) := by omega
    have hz := zz_lt h0 h1
    rw [e1, e2, e3, u64_xor_nat _ _ (by omega) (by omega)]
    have hx : ∀ (a : Nat), a < 18446744073709551616 → a ^^^ 18446744073709551615 = 18446744073709551615 - a := by
      intro a ha
      have hb : (BitVec.ofNat 64 a ^^^ BitVec.allOnes 64).toNat = a ^^^ 18446744073709551615 := by
        rw [BitVec.toNat_xor, BitVec.toNat_ofNat, Nat.mod_eq_of_lt (by omega)]
        have : (BitVec.allOnes 64).toNat = 18446744073709551615 := by decide +kernel
        rw [this]
      rw [← hb, BitVec.xor_allOnes, BitVec.toNat_not, BitVec.toNat_ofNat, Nat.mod_eq_of_lt (by omega)]
    rw [hx _ (by omega)]
    omega

theorem u8_low {n : Nat} (h : n < 128) : Value.int .u8 (n : Int) = bv (UInt8.ofNat n) := by
  unfold bv; rw [u8_ofNat_toNat (by omega)]
theorem u8_high (n : Nat) : bits .or .u8 (IntKind.u8.wrap (n : Int)) 128 = (((UInt8.ofNat (n % 128 + 128)).toNat : Nat) : Int) := by
  rw [IntKind.wrap_u8, u8_ofNat_toNat (by omega)]
  have e : (n : Int) % 256 = ((n % 256 : Nat) : Int) := by omega
  rw [e]
  have h := u8_or_nat (n % 256) 128 (by omega) (by omega)
  have h' : n % 256 ||| 128 = n % 128 + 128 := by
    have hall : ∀ m : Fin 256, m.val ||| 128 = m.val % 128 + 128 := by decide +kernel
    have := hall ⟨n % 256, by omega⟩
    simp only at this
    omega
  rw [h'] at h
  exact h

theorem ownsT_bytes (w : World) (B : Nat) (e : TypeId) (s : ByteArray) (cap : Nat) (hB : B ≤ w.heap.size) (h1 : s.size ≤ cap) (h2 : cap ≤ maxLen) :
    ownsT (w.alloc (.cells (bytesRow s cap) e ((bytesRow s cap).size, (bytesRow s cap).size + 1))) B e 1 (.slice (some ⟨w.heap.size, 0, none⟩) s.size cap) s.data.toList.length (s.data.toList.map bv) := by
  have hl : s.data.toList.length = s.size := by simp
  have hsz : (bytesRow s cap).size = cap := by unfold bytesRow; simp; omega
  refine ⟨by simp, .inr ⟨w.heap.size, cap, bytesRow s cap, _, by rw [hl], hB, heap_alloc_new w _, .inr (Nat.le_refl _), by omega, h2, by omega, ?_⟩⟩
  rw [hl, Nat.mul_one]
  unfold bytesRow
  rw [Array.toList_append, List.take_append_of_le_length (by simp)]
  rw [List.take_of_length_le (by simp)]
  simp only [Array.toList_map]
  rfl

/-- The bytes of an owned row, as a string. -/
theorem bytes_of_ownsT {w : World} {P : Program} {B : Nat} {e : TypeId} {v : Value} {l : List UInt8} (src dst : TypeId) (h : ownsT w B e 1 v l.length (l.map bv)) (hs : P.underlying src = some (.slice e)) (he : P.underlying e = some (.int .u8)) (hd : P.underlying dst = some .string) :
    (convert src dst v).run P w = .ok (.string ⟨l.toArray⟩) w := by
  rcases h.2 with ⟨rfl, hn⟩ | ⟨g, cap, cur, fz, rfl, hb, hgg, _⟩
  · have : l = [] := List.eq_nil_of_length_eq_zero hn
    subst this
    rw [run_convert_bytes_string w src dst e none 0 0 hs he hd]; rfl
  · refine run_convert_bytes_back w src dst e _ cap l hs he hd (fun j hj => ?_)
    exact ownsT_cells h (g := g) rfl j _ (by simp [hj, bv])

/-- A string of the bytes that a new block holds. -/
theorem conv_new {P : Program} (w : World) (src dst e : TypeId) (l : List UInt8) (cells : List Value) (n : Nat) (hs : P.underlying src = some (.slice e)) (he : P.underlying e = some (.int .u8)) (hd : P.underlying dst = some .string) (hc : cells = l.map bv) (hn : l.length = n) :
    (convert src dst (.slice (some ⟨w.heap.size, 0, none⟩) n n)).run P (w.alloc (.cells cells.toArray e)) = .ok (.string ⟨l.toArray⟩) (w.alloc (.cells cells.toArray e)) := by
  subst hn; subst hc
  refine run_convert_bytes_back _ src dst e _ _ l hs he hd (fun j hj => ?_)
  have hadd : (⟨w.heap.size, 0, none⟩ : Addr).add j = ⟨w.heap.size, j, none⟩ := by unfold Addr.add; split <;> simp_all
  rw [hadd, cell_of_row (w.alloc (.cells (l.map bv).toArray e)) w.heap.size j _ _ _ (heap_alloc_new w _)]
  simp [hj, bv]
end Go.Proofs.YtecpbicfiaifdaaGreatDoor
/-
  The walks through utf.put and the reference's one: the bytes of a scalar value.
-/
namespace Go.Proofs.YtecpbicfiaifdaaGreatDoor
open Go.RowKit ND

theorem ofInt_i64 (a : Nat) (ha : a < 9223372036854775808) : (BitVec.ofInt 64 (a : Int)).toNat = a := by
  rw [BitVec.ofInt_natCast, BitVec.toNat_ofNat]; exact Nat.mod_eq_of_lt (by omega)
theorem i64_and_nat (a b : Nat) (ha : a < 9223372036854775808) (hb : b < 9223372036854775808) : bits .and .i64 (a : Int) (b : Int) = ((a &&& b : Nat) : Int) := by
  have hx : a &&& b < 2 ^ 63 := Nat.and_lt_two_pow _ (by omega)
  show IntKind.i64.wrap ((BitVec.ofInt 64 (a : Int) &&& BitVec.ofInt 64 (b : Int)).toNat : Int) = _
  rw [BitVec.toNat_and, ofInt_i64 a ha, ofInt_i64 b hb, IntKind.wrap_i64]
  omega
theorem i64_or_nat (a b : Nat) (ha : a < 9223372036854775808) (hb : b < 9223372036854775808) : bits .or .i64 (a : Int) (b : Int) = ((a ||| b : Nat) : Int) := by
  have hx : a ||| b < 2 ^ 63 := Nat.or_lt_two_pow (by omega) (by omega)
  show IntKind.i64.wrap ((BitVec.ofInt 64 (a : Int) ||| BitVec.ofInt 64 (b : Int)).toNat : Int) = _
  rw [BitVec.toNat_or, ofInt_i64 a ha, ofInt_i64 b hb, IntKind.wrap_i64]
  omega

theorem bv_of {x : Int} {n : Nat} (hn : n < 256) (h : x = (n : Int)) : Value.int .u8 x = bv (UInt8.ofNat n) := by
  unfold bv; rw [u8_ofNat_toNat hn, h]
theorem low6 {m : Nat} (hm : m < 9223372036854775808) : bits .or .i64 128 (bits .and .i64 (m : Int) 63) % 256 = ((128 + m % 64 : Nat) : Int) := by
  have e1 : bits .and .i64 (m : Int) 63 = ((m % 64 : Nat) : Int) := by
    have h := i64_and_nat m 63 hm (by omega)
    rw [nat_mask6] at h
    exact h
  have e2 : bits .or .i64 128 ((m % 64 : Nat) : Int) = ((128 + m % 64 : Nat) : Int) := by
    have h := i64_or_nat 128 (m % 64) (by omega) (by omega)
    rw [nat_join 6 128 (m % 64) (by decide) (by omega)] at h
    exact h
  rw [e1, e2]; omega
theorem hi5 {m : Nat} (hm : m < 32) : bits .or .i64 192 (m : Int) % 256 = ((192 + m : Nat) : Int) := by
  have h := i64_or_nat 192 m (by omega) (by omega)
  rw [nat_join 5 192 m (by decide) (by omega)] at h
  have e : ((192 : Nat) : Int) = 192 := rfl
  rw [e] at h
  rw [h]; omega
theorem hi4 {m : Nat} (hm : m < 16) : bits .or .i64 224 (m : Int) % 256 = ((224 + m : Nat) : Int) := by
  have h := i64_or_nat 224 m (by omega) (by omega)
  rw [nat_join 4 224 m (by decide) (by omega)] at h
  have e : ((224 : Nat) : Int) = 224 := rfl
  rw [e] at h
  rw [h]; omega
theorem hi3 {m : Nat} (hm : m < 8) : bits .or .i64 240 (m : Int) % 256 = ((240 + m : Nat) : Int) := by
  have h := i64_or_nat 240 m (by omega) (by omega)
  rw [nat_join 3 240 m (by decide) (by omega)] at h
  have e : ((240 : Nat) : Int) = 240 := rfl
  rw [e] at h
  rw [h]; omega

/-- What stands behind an append to a row of the call's own. -/
theorem put_end {w w1 : World} {base : Nat} {v v' : Value} {acc : List UInt8} {o : Obj} {l : List UInt8} {e : TypeId} {k : Nat} {news : List Value} (hown : w.ownsRow base e 1 v acc.length (acc.map bv)) (hB : base ≤ w.heap.size)
    (h1 : w1.ownsRow base e 1 v' (acc.length + k) (acc.map bv ++ news)) (hl : k = l.length) (hn : news = l.map bv) (hg : (w.alloc o).grownBy w1 v.ownBlock) :
    w1.ownsRow base e 1 v' (acc ++ l).length ((acc ++ l).map bv) ∧ Below base w w1 := by
  subst hl; subst hn
  refine ⟨by simpa using h1, ?_⟩
  exact ((Below.refl base w).alloc hB o).grown hg (by simp; omega) (fun k hk => (hown.lt k hk).1)

theorem encN_2 {n : Nat} (h1 : 128 ≤ n) (h2 : n < 2048) : encN n = [UInt8.ofNat (192 + n / 64), UInt8.ofNat (128 + n % 64)] := by
  unfold encN; rw [if_neg (by omega), if_pos h2]
theorem encN_3 {n : Nat} (h1 : 2048 ≤ n) (h2 : n < 65536) : encN n = [UInt8.ofNat (224 + n / 4096), UInt8.ofNat (128 + n / 64 % 64), UInt8.ofNat (128 + n % 64)] := by
  unfold encN; rw [if_neg (by omega), if_neg (by omega), if_pos h2]
theorem encN_4 {n : Nat} (h1 : 65536 ≤ n) : encN n = [UInt8.ofNat (240 + n / 262144), UInt8.ofNat (128 + n / 4096 % 64), UInt8.ofNat (128 + n / 64 % 64), UInt8.ofNat (128 + n % 64)] := by
  unfold encN; rw [if_neg (by omega), if_neg (by omega), if_neg (by omega)]

set_option maxRecDepth 100000 in
set_option maxHeartbeats 400000 in
theorem put_1 (n : Nat) (w : World) (base : Nat) (v : Value) (acc : List UInt8) (h : n < 128) (hown : w.ownsRow base 5 1 v acc.length (acc.map bv)) (hB : base ≤ w.heap.size) (hl : acc.length ≤ 1000000) :
    Calls Tryz.prog 80 #[v, .int .i64 n] w fun e w' => ∃ v', e = .returned v' ∧ w'.ownsRow base 5 1 v' (acc ++ encN n).length ((acc ++ encN n).map bv) ∧ Below base w w' := by
  have hsc : scalarB n = true := (scalarB_iff _).2 (by omega)
  obtain ⟨i0, hi, hz0, hz1, hz2⟩ := info_parts Tryz.infoU8
  have hlen := Lib.hid (fun w => length_any n w)
  have e : lenC n = 1 := by rw [lenC_yes hsc, if_pos (by omega)]
  rw [e] at hlen
  clear e hsc
  have HO := Lib.hid hown
  go_enter Tryz.func80, Tryz.ntmps80
  go_wp2_with (first | (go_at_call 102; refine (hlen.out _).mono ?_; rintro e w' ⟨rfl, rfl⟩) | (at_builtin; refine wpList_append_own _ rfl _ _ 94 rfl base 5 i0 (.int .u8 0) 1 1 Tryz.underlying94 hi hz0 hz1 hz2 rfl (by decide) _ _ _ rfl (hown.alloc _) ⟨w.heap.size, 0, none⟩ 1 1 [.int .u8 (n : Int)] rfl rfl (cell_one_new _ _ _) ?c1 ?c2 ?c3 ?c4 ?_))
  case c1 => intro u hu; simp at hu; subst hu; rfl
  case c2 => unfold maxLen; omega
  case c3 => omega
  case c4 => simp; omega
  intro v' w1 hown1 hgrow _
  have hE := put_end (l := [UInt8.ofNat n]) HO.out hB hown1 rfl (by rw [List.map_cons, List.map_nil, ← bv_of (by omega) rfl]) hgrow
  clear hown1 hgrow hown
  have e : encN n = [UInt8.ofNat n] := by unfold encN; rw [if_pos h]
  rw [← e] at hE
  clear e
  have HE := Lib.hid hE; clear hE
  go_wp2
  go_ret
  exact ⟨v', rfl, HE.out⟩

set_option maxRecDepth 100000 in
set_option maxHeartbeats 400000 in
theorem put_2 (n : Nat) (w : World) (base : Nat) (v : Value) (acc : List UInt8) (h : 128 ≤ n) (h' : n < 2048) (hown : w.ownsRow base 5 1 v acc.length (acc.map bv)) (hB : base ≤ w.heap.size) (hl : acc.length ≤ 1000000) :
    Calls Tryz.prog 80 #[v, .int .i64 n] w fun e w' => ∃ v', e = .returned v' ∧ w'.ownsRow base 5 1 v' (acc ++ encN n).length ((acc ++ encN n).map bv) ∧ Below base w w' := by
  have hsc : scalarB n = true := (scalarB_iff _).2 (by omega)
  obtain ⟨i0, hi, hz0, hz1, hz2⟩ := info_parts Tryz.infoU8
  have hlen := Lib.hid (fun w => length_any n w)
  have e : lenC n = 2 := by rw [lenC_yes hsc, if_neg (by omega), if_pos (by omega)]
  rw [e] at hlen
  clear e hsc
  have HO := Lib.hid hown
  go_enter Tryz.func80, Tryz.ntmps80
  go_wp2_with (first | (go_at_call 102; refine (hlen.out _).mono ?_; rintro e w' ⟨rfl, rfl⟩) | (at_builtin; refine wpList_append_own _ rfl _ _ 94 rfl base 5 i0 (.int .u8 0) 1 1 Tryz.underlying94 hi hz0 hz1 hz2 rfl (by decide) _ _ _ rfl (hown.alloc _) ⟨w.heap.size, 0, none⟩ 2 2 [.int .u8 (bits .or .i64 192 ((n : Int) / 64) % 256), .int .u8 (bits .or .i64 128 (bits .and .i64 (n : Int) 63) % 256)] rfl rfl (cells_new _ _ _) ?c1 ?c2 ?c3 ?c4 ?_))
  case c1 => intro u hu; simp at hu; rcases hu with rfl | rfl <;> rfl
  case c2 => unfold maxLen; omega
  case c3 => omega
  case c4 => simp; omega
  intro v' w1 hown1 hgrow _
  have hE := put_end (l := encN n) HO.out hB hown1 (by rw [encN_2 h h']; rfl) (by rw [encN_2 h h', List.map_cons, List.map_cons, List.map_nil, ← bv_of (by omega) (hi5 (m := n / 64) (by omega)), ← bv_of (by omega) (low6 (m := n) (by omega))]; rfl) hgrow
  clear hown1 hgrow hown
  have HE := Lib.hid hE; clear hE
  go_wp2
  go_ret
  exact ⟨v', rfl, HE.out⟩

set_option maxRecDepth 100000 in
set_option maxHeartbeats 400000 in
theorem put_3 (n : Nat) (w : World) (base : Nat) (v : Value) (acc : List UInt8) (h : 2048 ≤ n) (h' : n < 65536) (hsc : scalarB n = true) (hown : w.ownsRow base 5 1 v acc.length (acc.map bv)) (hB : base ≤ w.heap.size) (hl : acc.length ≤ 1000000) :
    Calls Tryz.prog 80 #[v, .int .i64 n] w fun e w' => ∃ v', e = .returned v' ∧ w'.ownsRow base 5 1 v' (acc ++ encN n).length ((acc ++ encN n).map bv) ∧ Below base w w' := by
  obtain ⟨i0, hi, hz0, hz1, hz2⟩ := info_parts Tryz.infoU8
  have hlen := Lib.hid (fun w => length_any n w)
  have e : lenC n = 3 := by rw [lenC_yes hsc, if_neg (by omega), if_neg (by omega), if_pos (by omega)]
  rw [e] at hlen
  clear e hsc
  have HO := Lib.hid hown
  go_enter Tryz.func80, Tryz.ntmps80
  go_wp2_with (first | (go_at_call 102; refine (hlen.out _).mono ?_; rintro e w' ⟨rfl, rfl⟩) | (at_builtin; refine wpList_append_own _ rfl _ _ 94 rfl base 5 i0 (.int .u8 0) 1 1 Tryz.underlying94 hi hz0 hz1 hz2 rfl (by decide) _ _ _ rfl (hown.alloc _) ⟨w.heap.size, 0, none⟩ 3 3 [.int .u8 (bits .or .i64 224 ((n : Int) / 4096) % 256), .int .u8 (bits .or .i64 128 (bits .and .i64 ((n : Int) / 64) 63) % 256), .int .u8 (bits .or .i64 128 (bits .and .i64 (n : Int) 63) % 256)] rfl rfl (cells_new _ _ _) ?c1 ?c2 ?c3 ?c4 ?_))
  case c1 => intro u hu; simp at hu; rcases hu with rfl | rfl | rfl <;> rfl
  case c2 => unfold maxLen; omega
  case c3 => omega
  case c4 => simp; omega
  intro v' w1 hown1 hgrow _
  have hE := put_end (l := encN n) HO.out hB hown1 (by rw [encN_3 h h']; rfl) (by rw [encN_3 h h', List.map_cons, List.map_cons, List.map_cons, List.map_nil, ← bv_of (by omega) (hi4 (m := n / 4096) (by omega)), ← bv_of (by omega) (low6 (m := n / 64) (by omega)), ← bv_of (by omega) (low6 (m := n) (by omega))]; rfl) hgrow
  clear hown1 hgrow hown
  have HE := Lib.hid hE; clear hE
  go_wp2
  go_ret
  exact ⟨v', rfl, HE.out⟩

set_option maxRecDepth 100000 in
set_option maxHeartbeats 400000 in
theorem put_4 (n : Nat) (w : World) (base : Nat) (v : Value) (acc : List UInt8) (h : 65536 ≤ n) (hsc : scalarB n = true) (hown : w.ownsRow base 5 1 v acc.length (acc.map bv)) (hB : base ≤ w.heap.size) (hl : acc.length ≤ 1000000) :
    Calls Tryz.prog 80 #[v, .int .i64 n] w fun e w' => ∃ v', e = .returned v' ∧ w'.ownsRow base 5 1 v' (acc ++ encN n).length ((acc ++ encN n).map bv) ∧ Below base w w' := by
  have hs := (scalarB_iff _).1 hsc
  obtain ⟨i0, hi, hz0, hz1, hz2⟩ := info_parts Tryz.infoU8
  have hlen := Lib.hid (fun w => length_any n w)
  have e : lenC n = 4 := by rw [lenC_yes hsc, if_neg (by omega), if_neg (by omega), if_neg (by omega)]
  rw [e] at hlen
  clear e hsc
  have HO := Lib.hid hown
  go_enter Tryz.func80, Tryz.ntmps80
  go_wp2_with (first | (go_at_call 102; refine (hlen.out _).mono ?_; rintro e w' ⟨rfl, rfl⟩) | (at_builtin; refine wpList_append_own _ rfl _ _ 94 rfl base 5 i0 (.int .u8 0) 1 1 Tryz.underlying94 hi hz0 hz1 hz2 rfl (by decide) _ _ _ rfl (hown.alloc _) ⟨w.heap.size, 0, none⟩ 4 4 [.int .u8 (bits .or .i64 240 ((n : Int) / 262144) % 256), .int .u8 (bits .or .i64 128 (bits .and .i64 ((n : Int) / 4096) 63) % 256), .int .u8 (bits .or .i64 128 (bits .and .i64 ((n : Int) / 64) 63) % 256), .int .u8 (bits .or .i64 128 (bits .and .i64 (n : Int) 63) % 256)] rfl rfl (cells_new _ _ _) ?c1 ?c2 ?c3 ?c4 ?_))
  case c1 => intro u hu; simp at hu; rcases hu with rfl | rfl | rfl | rfl <;> rfl
  case c2 => unfold maxLen; omega
  case c3 => omega
  case c4 => simp; omega
  intro v' w1 hown1 hgrow _
  have hE := put_end (l := encN n) HO.out hB hown1 (by rw [encN_4 h]; rfl) (by rw [encN_4 h, List.map_cons, List.map_cons, List.map_cons, List.map_cons, List.map_nil, ← bv_of (by omega) (hi3 (m := n / 262144) (by omega)), ← bv_of (by omega) (low6 (m := n / 4096) (by omega)), ← bv_of (by omega) (low6 (m := n / 64) (by omega)), ← bv_of (by omega) (low6 (m := n) (by omega))]; rfl) hgrow
  clear hown1 hgrow hown
  have HE := Lib.hid hE; clear hE
  go_wp2
  go_ret
  exact ⟨v', rfl, HE.out⟩

theorem put_any (c : Int) (w : World) (base : Nat) (v : Value) (acc : List UInt8) (hsc : scalarB c = true) (hown : w.ownsRow base 5 1 v acc.length (acc.map bv)) (hB : base ≤ w.heap.size) (hl : acc.length ≤ 1000000) :
    Calls Tryz.prog 80 #[v, .int .i64 c] w fun e w' => ∃ v', e = .returned v' ∧ w'.ownsRow base 5 1 v' (acc ++ encC c).length ((acc ++ encC c).map bv) ∧ Below base w w' := by
  have hs := (scalarB_iff _).1 hsc
  obtain ⟨n, rfl⟩ := Int.eq_ofNat_of_zero_le hs.1
  rw [encC, Int.toNat_natCast]
  by_cases h1 : n < 128
  · exact put_1 n w base v acc h1 hown hB hl
  · by_cases h2 : n < 2048
    · exact put_2 n w base v acc (by omega) h2 hown hB hl
    · by_cases h3 : n < 65536
      · exact put_3 n w base v acc (by omega) h3 hsc hown hB hl
      · exact put_4 n w base v acc (by omega) hsc hown hB hl
end Go.Proofs.YtecpbicfiaifdaaGreatDoor
/-
  Encode and Decode, in plain Lean.
-/
namespace Go.Proofs.YtecpbicfiaifdaaGreatDoor
open Go.RowKit ND

/-- What Decode hands back. -/
def RetDcd (w : World) (r : List Int × Nat × Nat) (e : Ending) (w' : World) : Prop :=
  ∃ v, e = .returned (.tuple #[v, .int .i64 r.2.1, .int .i64 r.2.2]) ∧ Ints w' w'.heap.size .i64 v r.1 ∧ Below w.heap.size w w'
/-- What Encode hands back. -/
def RetEnc (w : World) (r : List UInt8 × Nat) (e : Ending) (w' : World) : Prop :=
  e = .returned (.tuple #[.string ⟨r.1.toArray⟩, .int .i64 r.2]) ∧ Below w.heap.size w w'

theorem decodeL_full {l : List UInt8} (h : 4096 < l.length) : decodeL l = ([], 0, 7) := by unfold decodeL; rw [if_pos h]
theorem decodeL_bad {l : List UInt8} (h : l.length ≤ 4096) (h2 : (scanL l).2 < l.length) : decodeL l = ([], (scanL l).2, 9) := by unfold decodeL; rw [if_neg (by omega), if_pos h2]
theorem decodeL_ok {l : List UInt8} (h : l.length ≤ 4096) (h2 : l.length ≤ (scanL l).2) : decodeL l = ((scanL l).1, 0, 0) := by unfold decodeL; rw [if_neg (by omega), if_neg (by omega)]
theorem size_list (s : ByteArray) : s.data.toList.length = s.size := by rw [Array.length_toList]; rfl

theorem encAll_snoc (cs : List Int) (c : Int) : encAll (cs ++ [c]) = encAll cs ++ encC c := by simp [encAll]
theorem encAll_len (cs : List Int) : (encAll cs).length ≤ 4 * cs.length := by
  induction cs with
  | nil => simp [encAll]
  | cons c cs ih =>
    have h : (encC c).length ≤ 4 := by unfold encC encN; repeat (first | split | simp)
    simp only [encAll, List.flatMap_cons, List.length_append, List.length_cons] at ih ⊢
    omega
theorem take_snoc_of {xs : List Int} {k : Nat} {x : Int} (h : xs[k]? = some x) : xs.take (k + 1) = xs.take k ++ [x] := by
  obtain ⟨h1, h2⟩ := List.getElem?_eq_some_iff.1 h
  rw [List.take_succ_eq_append_getElem h1, h2]
theorem encodeL_full {cs : List Int} (h : 4096 < cs.length) : encodeL cs = ([], 7) := by unfold encodeL; rw [if_pos h]
theorem encodeL_ok {cs : List Int} (h : cs.length ≤ 4096) (h2 : ∀ c ∈ cs, scalarB c = true) : encodeL cs = (encAll cs, 0) := by
  unfold encodeL; rw [if_neg (by omega), if_pos (List.all_eq_true.2 h2)]
theorem encodeL_bad {cs : List Int} {k : Nat} {x : Int} (h : cs.length ≤ 4096) (h1 : cs[k]? = some x) (h2 : scalarB x = false) : encodeL cs = ([], 3) := by
  unfold encodeL
  rw [if_neg (by omega), if_neg]
  intro h3
  have := List.all_eq_true.1 h3 x (List.mem_of_getElem? h1)
  rw [h2] at this
  cases this
end Go.Proofs.YtecpbicfiaifdaaGreatDoor
/-
  The walk through utf.Encode.
-/
namespace Go.Proofs.YtecpbicfiaifdaaGreatDoor
open Go.RowKit ND

set_option maxRecDepth 100000 in
set_option maxHeartbeats 1000000 in
theorem enc_any (v : Value) (xs : List Int) (w : World) (hv : Ints w w.heap.size .i64 v xs) : Calls Tryz.prog 58 #[v] w (RetEnc w (encodeL xs)) := by
  obtain ⟨A, c, rfl, hc1, hc2, _, hcell⟩ := hv
  have HC := Lib.hid hcell; clear hcell
  have hc2' : c ≤ 9223372036854775807 := by unfold maxLen at hc2; omega
  clear hc2
  by_cases h : 4096 < xs.length
  · rw [encodeL_full h]
    go_enter Tryz.func58, Tryz.ntmps58
    go_wp2_with fail
    go_ret2
    exact ⟨rfl, Below.refl _ _⟩
  · have hl : xs.length ≤ 4096 := by omega
    clear h
    go_enter Tryz.func58, Tryz.ntmps58
    go_wp2_with fail
    go_loopw [4, 12] (fun b i wr => ∃ (k : Nat), k ≤ xs.length ∧ i = .int .i64 k ∧ wr.ownsRow w.heap.size 5 1 b (encAll (xs.take k)).length ((encAll (xs.take k)).map bv) ∧
        Hid (∀ x ∈ xs.take k, scalarB x = true) ∧ Below w.heap.size w wr) (fun _ i _ => xs.length - (intOf i).toNat)
    case atStart => exact ⟨0, by omega, rfl, World.ownsRow_nil _ _ _ _, Lib.hid (by simp), Below.refl _ _⟩
    case round =>
      obtain ⟨k, hk, rfl, hown, HS, hbel⟩ := hrel
      by_cases hlt : k < xs.length
      · obtain ⟨x, hxk, hxm⟩ := get_of hlt
        obtain ⟨ad, rfl, hb, hce⟩ := HC.out k x hxk
        have hce' := (hbel.cell (p := ad.add k) (by rw [block_of_add]; exact hb)).trans hce
        have HXK := Lib.hid hxk
        clear hce hxk hxm hb
        cases hsx : scalarB x
        · have hsc := Lib.hid (fun W => scalar_any x W)
          rw [hsx] at hsc
          have HX := Lib.hid (encodeL_bad hl HXK.out hsx)
          clear hsx
          go_wp2_with (go_at_call 79; refine (hsc.out _).mono ?_; rintro e w1 ⟨rfl, rfl⟩)
          go_ret2
          rw [HX.out]
          exact ⟨rfl, hbel⟩
        · have hsc := Lib.hid (fun W => scalar_any x W)
          rw [hsx] at hsc
          have HSX := Lib.hid hsx
          clear hsx
          go_wp2_with fail
          refine (hsc.out _).mono ?_
          rintro e w1 ⟨rfl, rfl⟩
          go_wp2_with fail
          have hel := encAll_len (xs.take k)
          rw [List.length_take] at hel
          refine (put_any x _ w.heap.size _ (encAll (xs.take k)) HSX.out hown hbel.size (by omega)).mono ?_
          rintro e w1 ⟨v', rfl, hown', b1⟩
          have hbel1 := hbel.trans b1
          clear hown hbel b1 hel
          have e1 : encAll (xs.take (k + 1)) = encAll (xs.take k) ++ encC x := by rw [take_snoc_of HXK.out, encAll_snoc]
          rw [← e1] at hown'
          clear e1
          go_wp2_with fail
          go_roundw
          case rel =>
            refine ⟨k + 1, by omega, by go_num, hown', Lib.hid ?_, hbel1⟩
            intro y hy
            rw [take_snoc_of HXK.out, List.mem_append, List.mem_singleton] at hy
            rcases hy with hy | rfl
            · exact HS.out y hy
            · exact HSX.out
          case measure => simp [intOf]; omega
      · obtain rfl : k = xs.length := by omega
        rw [List.take_length] at hown HS
        have HX := Lib.hid (encodeL_ok hl HS.out)
        have hcv := bytes_of_ownsT (P := Tryz.prog) 94 9 (ownsT_of hown) Tryz.underlying94 Tryz.underlying5 Tryz.underlying9
        clear hown
        go_wp2_with fail
        go_ret2
        rw [HX.out]
        exact ⟨rfl, hbel⟩
end Go.Proofs.YtecpbicfiaifdaaGreatDoor
/-
  The walks through the reference's one and first.
-/
namespace Go.Proofs.YtecpbicfiaifdaaGreatDoor
open Go.RowKit ND

theorem enc_bv_1 {n : Nat} (h : n < 128) : [Value.int .u8 (n : Int)] = (encN n).map bv := by
  have e : encN n = [UInt8.ofNat n] := by unfold encN; rw [if_pos h]
  rw [e, List.map_cons, List.map_nil, ← bv_of (by omega) rfl]
theorem enc_bv_2 {n : Nat} (h : 128 ≤ n) (h' : n < 2048) : [Value.int .u8 (192 + (n : Int) / 64), .int .u8 (128 + (n : Int) % 64)] = (encN n).map bv := by
  rw [encN_2 h h', List.map_cons, List.map_cons, List.map_nil, ← bv_of (x := 192 + (n : Int) / 64) (by omega) (by omega), ← bv_of (x := 128 + (n : Int) % 64) (by omega) (by omega)]
theorem enc_bv_3 {n : Nat} (h : 2048 ≤ n) (h' : n < 65536) : [Value.int .u8 (224 + (n : Int) / 4096), .int .u8 (128 + (n : Int) / 64 % 64), .int .u8 (128 + (n : Int) % 64)] = (encN n).map bv := by
  rw [encN_3 h h', List.map_cons, List.map_cons, List.map_cons, List.map_nil, ← bv_of (x := 224 + (n : Int) / 4096) (by omega) (by omega), ← bv_of (x := 128 + (n : Int) / 64 % 64) (by omega) (by omega), ← bv_of (x := 128 + (n : Int) % 64) (by omega) (by omega)]
theorem enc_bv_4 {n : Nat} (h : 65536 ≤ n) (h' : n ≤ 1114111) : [Value.int .u8 (240 + (n : Int) / 262144), .int .u8 (128 + (n : Int) / 4096 % 64), .int .u8 (128 + (n : Int) / 64 % 64), .int .u8 (128 + (n : Int) % 64)] = (encN n).map bv := by
  rw [encN_4 h, List.map_cons, List.map_cons, List.map_cons, List.map_cons, List.map_nil, ← bv_of (x := 240 + (n : Int) / 262144) (by omega) (by omega), ← bv_of (x := 128 + (n : Int) / 4096 % 64) (by omega) (by omega), ← bv_of (x := 128 + (n : Int) / 64 % 64) (by omega) (by omega), ← bv_of (x := 128 + (n : Int) % 64) (by omega) (by omega)]

set_option maxRecDepth 100000 in
set_option maxHeartbeats 400000 in
theorem one_1 (n : Nat) (w : World) (h : n < 128) (hsc : scalarB n = true) :
    Calls Tryz.prog 104 #[.int .i64 n] w fun e w' => e = .returned (.string ⟨(encN n).toArray⟩) ∧ Below w.heap.size w w' := by
  have hlen := Lib.hid (fun w => refLength_any n w)
  have e : lenC n = 1 := by rw [lenC_yes hsc, if_pos (by omega)]
  rw [e] at hlen
  have hl : (encN n).length = 1 := by have := (lenC_encC hsc).1; rw [e] at this; simpa [encC] using this
  have hcv := conv_new (P := Tryz.prog) w 94 9 5 (encN n) _ 1 Tryz.underlying94 Tryz.underlying5 Tryz.underlying9 (enc_bv_1 h) hl
  clear e hsc hl
  go_enter Tryz.func104, Tryz.ntmps104
  go_wp2_with (go_at_call 103; refine (hlen.out _).mono ?_; rintro e w' ⟨rfl, rfl⟩)
  go_ret
  exact ⟨rfl, (Below.refl _ _).alloc (Nat.le_refl _) _⟩

set_option maxRecDepth 100000 in
set_option maxHeartbeats 400000 in
theorem one_2 (n : Nat) (w : World) (h : 128 ≤ n) (h' : n < 2048) (hsc : scalarB n = true) :
    Calls Tryz.prog 104 #[.int .i64 n] w fun e w' => e = .returned (.string ⟨(encN n).toArray⟩) ∧ Below w.heap.size w w' := by
  have hlen := Lib.hid (fun w => refLength_any n w)
  have e : lenC n = 2 := by rw [lenC_yes hsc, if_neg (by omega), if_pos (by omega)]
  rw [e] at hlen
  have hl : (encN n).length = 2 := by have := (lenC_encC hsc).1; rw [e] at this; simpa [encC] using this
  have hcv := conv_new (P := Tryz.prog) w 94 9 5 (encN n) _ 2 Tryz.underlying94 Tryz.underlying5 Tryz.underlying9 (enc_bv_2 h h') hl
  clear e hsc hl
  go_enter Tryz.func104, Tryz.ntmps104
  go_wp2_with (go_at_call 103; refine (hlen.out _).mono ?_; rintro e w' ⟨rfl, rfl⟩)
  go_ret
  exact ⟨rfl, (Below.refl _ _).alloc (Nat.le_refl _) _⟩

set_option maxRecDepth 100000 in
set_option maxHeartbeats 400000 in
theorem one_3 (n : Nat) (w : World) (h : 2048 ≤ n) (h' : n < 65536) (hsc : scalarB n = true) :
    Calls Tryz.prog 104 #[.int .i64 n] w fun e w' => e = .returned (.string ⟨(encN n).toArray⟩) ∧ Below w.heap.size w w' := by
  have hlen := Lib.hid (fun w => refLength_any n w)
  have e : lenC n = 3 := by rw [lenC_yes hsc, if_neg (by omega), if_neg (by omega), if_pos (by omega)]
  rw [e] at hlen
  have hl : (encN n).length = 3 := by have := (lenC_encC hsc).1; rw [e] at this; simpa [encC] using this
  have hcv := conv_new (P := Tryz.prog) w 94 9 5 (encN n) _ 3 Tryz.underlying94 Tryz.underlying5 Tryz.underlying9 (enc_bv_3 h h') hl
  clear e hsc hl
  go_enter Tryz.func104, Tryz.ntmps104
  go_wp2_with (go_at_call 103; refine (hlen.out _).mono ?_; rintro e w' ⟨rfl, rfl⟩)
  go_ret
  exact ⟨rfl, (Below.refl _ _).alloc (Nat.le_refl _) _⟩

set_option maxRecDepth 100000 in
set_option maxHeartbeats 400000 in
theorem one_4 (n : Nat) (w : World) (h : 65536 ≤ n) (h' : n ≤ 1114111) (hsc : scalarB n = true) :
    Calls Tryz.prog 104 #[.int .i64 n] w fun e w' => e = .returned (.string ⟨(encN n).toArray⟩) ∧ Below w.heap.size w w' := by
  have hlen := Lib.hid (fun w => refLength_any n w)
  have e : lenC n = 4 := by rw [lenC_yes hsc, if_neg (by omega), if_neg (by omega), if_neg (by omega)]
  rw [e] at hlen
  have hl : (encN n).length = 4 := by have := (lenC_encC hsc).1; rw [e] at this; simpa [encC] using this
  have hcv := conv_new (P := Tryz.prog) w 94 9 5 (encN n) _ 4 Tryz.underlying94 Tryz.underlying5 Tryz.underlying9 (enc_bv_4 h h') hl
  clear e hsc hl
  go_enter Tryz.func104, Tryz.ntmps104
  go_wp2_with (go_at_call 103; refine (hlen.out _).mono ?_; rintro e w' ⟨rfl, rfl⟩)
  go_ret
  exact ⟨rfl, (Below.refl _ _).alloc (Nat.le_refl _) _⟩

theorem one_any (c : Int) (w : World) (hsc : scalarB c = true) :
    Calls Tryz.prog 104 #[.int .i64 c] w fun e w' => e = .returned (.string ⟨(encC c).toArray⟩) ∧ Below w.heap.size w w' := by
  have hs := (scalarB_iff _).1 hsc
  obtain ⟨n, rfl⟩ := Int.eq_ofNat_of_zero_le hs.1
  rw [encC, Int.toNat_natCast]
  by_cases h1 : n < 128
  · exact one_1 n w h1 hsc
  · by_cases h2 : n < 2048
    · exact one_2 n w (by omega) h2 hsc
    · by_cases h3 : n < 65536
      · exact one_3 n w (by omega) h3 hsc
      · exact one_4 n w (by omega) (by omega) hsc
end Go.Proofs.YtecpbicfiaifdaaGreatDoor
/-
  The walk through the reference's Encode.
-/
namespace Go.Proofs.YtecpbicfiaifdaaGreatDoor
open Go.RowKit ND

set_option maxRecDepth 100000 in
set_option maxHeartbeats 1000000 in
theorem refEnc_any (v : Value) (xs : List Int) (w : World) (hv : Ints w w.heap.size .i64 v xs) : Calls Tryz.prog 85 #[v] w (RetEnc w (encodeL xs)) := by
  obtain ⟨A, c, rfl, hc1, hc2, _, hcell⟩ := hv
  have HC := Lib.hid hcell; clear hcell
  have hc2' : c ≤ 9223372036854775807 := by unfold maxLen at hc2; omega
  clear hc2
  by_cases h : 4096 < xs.length
  · rw [encodeL_full h]
    go_enter Tryz.func85, Tryz.ntmps85
    go_wp2_with fail
    go_ret2
    exact ⟨rfl, Below.refl _ _⟩
  · have hl : xs.length ≤ 4096 := by omega
    clear h
    go_enter Tryz.func85, Tryz.ntmps85
    go_wp2_with fail
    go_loopw [4, 12] (fun b i wr => ∃ (k : Nat) (s : ByteArray), k ≤ xs.length ∧ i = .int .i64 k ∧ b = .string s ∧ s.size ≤ 4 * k ∧ Hid (s.data.toList = encAll (xs.take k)) ∧
        Hid (∀ x ∈ xs.take k, scalarB x = true) ∧ Below w.heap.size w wr) (fun _ i _ => xs.length - (intOf i).toNat)
    case atStart => exact ⟨0, ⟨#[]⟩, by omega, rfl, rfl, by decide, Lib.hid (by simp [encAll]), Lib.hid (by simp), Below.refl _ _⟩
    case round =>
      obtain ⟨k, s, hk, rfl, rfl, hsz, HE, HS, hbel⟩ := hrel
      by_cases hlt : k < xs.length
      · obtain ⟨x, hxk, hxm⟩ := get_of hlt
        obtain ⟨ad, rfl, hb, hce⟩ := HC.out k x hxk
        have hce' := (hbel.cell (p := ad.add k) (by rw [block_of_add]; exact hb)).trans hce
        have HXK := Lib.hid hxk
        clear hce hxk hxm hb
        cases hsx : scalarB x
        · have hsc := Lib.hid (fun W => refScalar_any x W)
          rw [hsx] at hsc
          have HX := Lib.hid (encodeL_bad hl HXK.out hsx)
          clear hsx
          go_wp2_with (go_at_call 70; refine (hsc.out _).mono ?_; rintro e w1 ⟨rfl, rfl⟩)
          go_ret2
          rw [HX.out]
          exact ⟨rfl, hbel⟩
        · have hsc := Lib.hid (fun W => refScalar_any x W)
          rw [hsx] at hsc
          have hone := Lib.hid (fun W => one_any x W hsx)
          have hle := (lenC_encC hsx)
          have hle2 : (encC x).length ≤ 4 := by omega
          have hle3 : (⟨(encC x).toArray⟩ : ByteArray).size ≤ 4 := hle2
          have HD : Hid ((⟨(encC x).toArray⟩ : ByteArray).data.toList = encC x) := Lib.hid (by simp)
          generalize (⟨(encC x).toArray⟩ : ByteArray) = t at *
          have HSX := Lib.hid hsx
          clear hsx hle hle2
          go_wp2_with fail
          refine (hsc.out _).mono ?_
          rintro e w1 ⟨rfl, rfl⟩
          go_wp2_with fail
          refine (hone.out _).mono ?_
          rintro e w1 ⟨rfl, b1⟩
          have hbel1 := below_then hbel (Nat.le_refl _) b1
          clear b1 hbel
          go_wp2_with fail
          go_roundw
          case rel =>
            refine ⟨k + 1, s ++ t, by omega, by go_num, rfl, by rw [ByteArray.size_append]; omega, Lib.hid ?_, Lib.hid ?_, hbel1⟩
            · rw [take_snoc_of HXK.out, encAll_snoc, ByteArray.data_append, Array.toList_append, HE.out, HD.out]
            · intro y hy
              rw [take_snoc_of HXK.out, List.mem_append, List.mem_singleton] at hy
              rcases hy with hy | rfl
              · exact HS.out y hy
              · exact HSX.out
          case measure => simp [intOf]; omega
      · obtain rfl : k = xs.length := by omega
        rw [List.take_length] at HE HS
        have HX := Lib.hid (encodeL_ok hl HS.out)
        go_wp2_with fail
        go_ret2
        rw [HX.out]
        refine ⟨?_, hbel⟩
        rw [← HE.out]
        rfl
end Go.Proofs.YtecpbicfiaifdaaGreatDoor
