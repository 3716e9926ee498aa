/-
  Merged texts: lemmas and walks that the last text of this claim leans on.
-/
import Derived.WalkKit
import Derived.Test.YtikcfoobfobmnaaGreatDoorMgB71
import Derived.Test.YtikcfoobfobmnaaGreatDoorProg
import Derived.WalkSpells
import Derived.WalkLawsBesides
import Derived.Lib.Hide
import Derived.BigQuiet
/-
  A row of the call's own whose mark lies behind its last cell (what a conversion of a string to bytes leaves): it can be appended to like any other.
-/
namespace Go.Proofs.YtikcfoobfobmnaaGreatDoor
open Go.RowKit

/-- No cell of a row of k cells is frozen. -/
def clear_ (fz : Nat × Nat) (k : Nat) : Prop := fz = (0, 0) ∨ k ≤ fz.1

def ownsT (w : World) (base : Nat) (e : TypeId) (size : Nat) (v : Value) (n : Nat) (xs : List Value) : Prop :=
  xs.length = n * size ∧
  ((v = .slice none 0 0 ∧ n = 0) ∨
   ∃ g cap cur fz, v = .slice (some ⟨g, 0, none⟩) n cap ∧ base ≤ g ∧ w.heap[g]? = some (.cells cur e fz) ∧ clear_ fz cur.size ∧ n ≤ cap ∧ cap ≤ maxLen ∧ cur.size = cap * size ∧ cur.toList.take (n * size) = xs)

section
variable {w : World} {base : Nat} {e : TypeId} {size : Nat} {v : Value} {n : Nat} {xs : List Value}
theorem ownsT_of (h : w.ownsRow base e size v n xs) : ownsT w base e size v n xs := by
  refine ⟨h.1, ?_⟩
  rcases h.2 with hn | ⟨g, cap, cur, hv, hb, hg, rest⟩
  · exact .inl hn
  · exact .inr ⟨g, cap, cur, (0, 0), hv, hb, hg, .inl rfl, rest⟩
theorem ownsT_lt (h : ownsT w base e size v n xs) : ∀ k, v.ownBlock = some k → base ≤ k ∧ k < w.heap.size := by
  intro k hk
  rcases h.2 with ⟨rfl, _⟩ | ⟨g, cap, cur, fz, rfl, hb, hg, _⟩
  · simp [Value.ownBlock] at hk
  · simp [Value.ownBlock] at hk
    subst hk
    exact ⟨hb, (Array.getElem?_eq_some_iff.1 hg).1⟩
theorem ownsT_kept {w' : World} {row : Option Nat} (h : ownsT w base e size v n xs) (hg : w.grownBy w' row) (hne : v.ownBlock = none ∨ v.ownBlock ≠ row) : ownsT w' base e size v n xs := by
  refine ⟨h.1, ?_⟩
  rcases h.2 with hn | ⟨g, cap, cur, fz, rfl, hb, hgg, rest⟩
  · exact .inl hn
  · refine .inr ⟨g, cap, cur, fz, rfl, hb, ?_, rest⟩
    rw [hg.block g (Array.getElem?_eq_some_iff.1 hgg).1 (by simpa [Value.ownBlock] using hne)]
    exact hgg
theorem ownsT_alloc (h : ownsT w base e size v n xs) (o : Obj) : ownsT (w.alloc o) base e size v n xs :=
  ownsT_kept h (World.grownBy_alloc w o none) (by cases hv : v.ownBlock <;> simp)
theorem ownsT_drew (h : ownsT w base e size v n xs) : ownsT w.drew base e size v n xs := h
theorem ownsT_cells (h : ownsT w base e size v n xs) {g : Nat} (hg : v.ownBlock = some g) : ∀ j u, xs[j]? = some u → w.cell? ((⟨g, 0, none⟩ : Addr).add j) = some u := by
  intro j u hu
  rcases h.2 with ⟨rfl, _⟩ | ⟨g', cap, cur, fz, rfl, _, hgg, _, _, _, _, htake⟩
  · simp [Value.ownBlock] at hg
  · simp [Value.ownBlock] at hg
    subst hg
    have hadd : (⟨g', 0, none⟩ : Addr).add j = ⟨g', j, none⟩ := by unfold Addr.add; split <;> simp_all
    rw [hadd, cell_of_row w g' j cur e fz hgg]
    rw [← htake, List.getElem?_take] at hu
    split at hu
    · simpa using hu
    · cases hu
end

theorem run_storeCells_atT (P : Program) (g o : Nat) (t : TypeId) (fz : Nat × Nat) : ∀ (vs : List Value) (i : Nat) (cur : Array Value) (w : World), w.heap[g]? = some (.cells cur t fz) → clear_ fz cur.size → o + i + vs.length ≤ cur.size → (∀ v ∈ vs, v.oneCell' = true) →
    (storeCells ⟨g, o, none⟩ vs i).run P w = .ok () (w.setRow g (cur.toList.take (o + i) ++ vs ++ cur.toList.drop (o + i + vs.length)).toArray)
  | [], i, cur, w, hg, _, _, _ => by
    simp only [storeCells, List.append_nil, List.length_nil, Nat.add_zero, List.take_append_drop, Array.toArray_toList]
    rw [setRow_self w g cur t fz hg]
    rfl
  | v :: rest, i, cur, w, hg, hfz, hl, h1 => by
    have hi : o + i < cur.size := by simp at hl; omega
    have hadd : (⟨g, o, none⟩ : Addr).add i = ⟨g, o + i, none⟩ := by unfold Addr.add; split <;> simp_all
    have hcell : w.cell? ⟨g, o + i, none⟩ = some cur[o + i] := by simp [World.cell?, hg, hi]
    have hfro : w.frozen? ⟨g, o + i, none⟩ = false := by
      obtain ⟨lo, hi'⟩ := fz
      simp only [World.frozen?, hg, Bool.and_eq_false_iff, decide_eq_false_iff_not]
      rcases hfz with h | h
      · simp only [Prod.mk.injEq] at h; right; omega
      · left; simp only at h; omega
    have hst : (store ((⟨g, o, none⟩ : Addr).add i) v).run P w = .ok () (w.setRow g (cur.setIfInBounds (o + i) v)) := by
      rw [hadd, run_store P w _ v _ (h1 v (by simp)), hcell]
      simp [hfro, setCell_eq_setRow w g (o + i) cur t fz v hg]
    have ih := run_storeCells_atT P g o t fz rest (i + 1) (cur.setIfInBounds (o + i) v) (w.setRow g (cur.setIfInBounds (o + i) v)) (setRow_heap w g cur _ t _ hg) (by simpa using hfz) (by simp at hl ⊢; omega) (fun x hx => h1 x (by simp [hx]))
    simp only [storeCells, Sem.run_bind, hst, Result.andThen_ok, ih, setRow_setRow]
    congr 3
    have e := list_seg_step cur.toList (o + i) v rest (by simp at hl ⊢; omega)
    simpa [Array.toList_setIfInBounds, Nat.add_assoc] using e

section
variable {P : Program} (w : World)
theorem run_append_ownT (base : Nat) (t ty e : TypeId) (i : TypeInfo) (z : Value) (size bytes : Nat) (ht : P.underlying t = some (.slice e)) (hi : P.info? e = some i) (hz : i.zero = some z)
    (hsize : i.size = size) (hby : i.bytes = bytes) (hzs : z.cells.size = size) (hsz : 0 < size)
    (v : Value) (n : Nat) (xs : List Value) (hown : ownsT w base e size v n xs)
    (a : Addr) (m c : Nat) (news : List Value) (hl : news.length = m * size) (hnews : ∀ j u, news[j]? = some u → w.cell? (a.add j) = some u) (h1 : ∀ u ∈ news, u.oneCell' = true)
    (h63 : n + m ≤ maxLen) (hbytes : (n + m) * bytes ≤ 140737488355328) (hbase : base ≤ w.heap.size) :
    ∃ v' w', (Builtin.append_ #[t, t] ty #[v, .slice (some a) m c]).run P w = .ok v' w' ∧ ownsT w' base e size v' (n + m) (xs ++ news) ∧ w.grownBy w' v.ownBlock := by
  rcases hown.2 with ⟨rfl, rfl⟩ | ⟨g, cap, cur, fz, rfl, hbg, hg, hcl, hnc, hcm, hcs, htake⟩
  · obtain ⟨v', w', h1, h2, h3, _⟩ := run_append_own (P := P) w base t ty e i z size bytes ht hi hz hsize hby hzs hsz (.slice none 0 0) 0 xs ⟨hown.1, .inl ⟨rfl, rfl⟩⟩ a m c news hl hnews h1 h63 hbytes hbase
    exact ⟨v', w', h1, ownsT_of h2, h3⟩
  · subst hsize
    subst hby
    have hsmall : n + m ≤ 9223372036854775807 := by simp only [maxLen] at h63; omega
    have hlen : (xs ++ news).length = (n + m) * i.size := by rw [List.length_append, hown.1, hl, Nat.add_mul]
    by_cases hroom : n + m ≤ cap
    · have hfit : n * i.size + news.length ≤ cur.size := by rw [hl, hcs, ← Nat.add_mul]; exact Nat.mul_le_mul_right _ hroom
      have hf := run_firstCells_some (P := P) w i.size m a m c news hl hnews
      have hst := run_storeCells_atT P g (n * i.size) e fz news 0 cur w hg hcl (by simpa using hfit) h1
      simp only [Nat.add_zero] at hst
      have hr : (Builtin.append_ #[t, t] ty #[.slice (some ⟨g, 0, none⟩) n cap, .slice (some a) m c]).run P w =
          .ok (.slice (some ⟨g, 0, none⟩) (n + m) cap) (w.setRow g (cur.toList.take (n * i.size) ++ news ++ cur.toList.drop (n * i.size + news.length)).toArray) := by
        simp [Builtin.append_, run_underlying ht, sizeOf, typeInfo, hi, Builtin.lenOf, hroom, hf, Addr.add_lit, hst]
      have hsz' : (cur.toList.take (n * i.size) ++ news ++ cur.toList.drop (n * i.size + news.length)).toArray.size = cur.size := by
        simp only [List.size_toArray, List.length_append, List.length_take, List.length_drop, Array.length_toList]
        omega
      refine ⟨_, _, hr, ⟨hlen, .inr ⟨g, cap, _, fz, rfl, hbg, setRow_heap w g cur _ e _ hg, by rw [hsz']; exact hcl, hroom, hcm, by rw [hsz', hcs], ?_⟩⟩, ⟨rfl, rfl, rfl, by simp, fun k _ hk => setRow_other w g k _ (fun e => hk (by simp [Value.ownBlock, e]))⟩⟩
      rw [htake, ← hlen]
      exact List.take_left
    · have holds : ∀ j u, xs[j]? = some u → w.cell? ((⟨g, 0, none⟩ : Addr).add j) = some u := ownsT_cells hown (g := g) rfl
      have hr := run_append_grow (P := P) w t ty e i z ht hi hz ⟨g, 0, none⟩ n cap xs hown.1 holds a m c news hl hnews (by omega) (by omega) (growslice_fits (by omega) hbytes)
      have hge := grownCap_ge w (n + m) cap e
      have hcm2 : grownCap w (n + m) cap e ≤ maxLen := grownCap_le_maxLen w (n + m) cap e h63
      refine ⟨_, _, hr, ⟨hlen, .inr ⟨w.heap.size, _, _, (0, 0), rfl, hbase, heap_alloc_new w.drew _, .inl rfl, hge, hcm2, ?_, ?_⟩⟩, ⟨rfl, rfl, rfl, by simp, fun k hk _ => Below.heap_alloc w.drew _ k hk⟩⟩
      · simp only [Array.size_append, List.size_toArray, size_zeroCells, hzs, hown.1, hl, ← Nat.add_mul]
        congr 1
        omega
      · simp only [Array.toList_append, List.append_assoc]
        rw [← List.append_assoc, ← hlen]
        exact List.take_left

theorem wpList_append_ownT {ops : Array Oper} {rest : List Oper} {o : Oper} {a : Act} {Q : Exit → Act → World → Prop} (hgd : o.guard = none) (s x : Operand) (t : TypeId)
    (ho : o.op = .call { callee := .builtin .append, args := #[s, x], argTypes := #[t, t] })
    (base : Nat) (e : TypeId) (i : TypeInfo) (z : Value) (size bytes : Nat) (ht : P.underlying t = some (.slice e)) (hi : P.info? e = some i) (hz : i.zero = some z)
    (hsize : i.size = size) (hby : i.bytes = bytes) (hzs : z.cells.size = size) (hsz : 0 < size)
    (v : Value) (n : Nat) (xs : List Value) (hs : a.eval s = v) (hown : ownsT w base e size v n xs)
    (ad : Addr) (m c : Nat) (news : List Value) (hx : a.eval x = .slice (some ad) m c) (hl : news.length = m * size) (hnews : ∀ j u, news[j]? = some u → w.cell? (ad.add j) = some u) (h1 : ∀ u ∈ news, u.oneCell' = true)
    (h63 : n + m ≤ maxLen) (hbytes : (n + m) * bytes ≤ 140737488355328) (hbase : base ≤ w.heap.size)
    (h : ∀ v' w', ownsT w' base e size v' (n + m) (xs ++ news) → w.grownBy w' v.ownBlock → wpList P ops Q rest (a.put o.dst v') w') : wpList P ops Q (o :: rest) a w :=
  wpList_plain hgd fun _ hK => by
    obtain ⟨v', w', hr, h2, h3⟩ := run_append_ownT (P := P) w base t o.type e i z size bytes ht hi hz hsize hby hzs hsz v n xs hown ad m c news hl hnews h1 h63 hbytes hbase
    unfold Oper.wp execOp
    simp only [ho, resolve, invoke, builtin, Sem.run_bind, Sem.run_pure, Result.andThen_ok, List.map_toArray, List.map_cons, List.map_nil, hs, hx, hr]
    exact hK _ _ (h v' w' h2 h3)
end
end Go.Proofs.YtikcfoobfobmnaaGreatDoor
/-
  Bytes as values, and strings of bytes.
-/
namespace Go.Proofs.YtikcfoobfobmnaaGreatDoor
open Go.RowKit ND

theorem Tryz.infoU8 : (Tryz.prog.info? 5).map (fun i => (i.zero, i.size, i.bytes)) = some (some (.int .u8 0), 1, 1) := by kernel_rfl

/-- A byte as a value of the model. -/
def bv (c : UInt8) : Value := .int .u8 (c.toNat : Int)

theorem zz_bits {v : Int} (h0 : -9223372036854775808 ≤ v) (h1 : v ≤ 9223372036854775807) :
    bits .xor .u64 (IntKind.u64.wrap (IntKind.u64.wrap v * 2)) (IntKind.u64.wrap (v / 9223372036854775808)) = (zz v : Int) := by
  rw [IntKind.wrap_u64, IntKind.wrap_u64, IntKind.wrap_u64]
  by_cases h : 0 ≤ v
  · have e1 : v / 9223372036854775808 = 0 := by omega
    have e2 : v % 18446744073709551616 * 2 % 18446744073709551616 = ((zz v : Nat) : Int) := by unfold zz; rw [if_pos h]; omega
    have e3 : (0 : Int) % 18446744073709551616 = ((0 : Nat) : Int) := by omega
    rw [e1, e2, e3, u64_xor_nat _ _ (zz_lt h0 h1) (by omega), Nat.xor_zero]
  · have e1 : v / 9223372036854775808 = -1 := by omega
    have e2 : v % 18446744073709551616 * 2 % 18446744073709551616 = ((18446744073709551615 - zz v : Nat) : Int) := by unfold zz; rw [if_neg h]; omega
    have e3 : (-1 : Int) % 18446744073709551616 = ((18446744073709551615 : Nat) : Int) := by omega
    have hz := zz_lt h0 h1
    rw [e1, e2, e3, u64_xor_nat _ _ (by omega) (by omega)]
    have hx : ∀ (a : Nat), a < 18446744073709551616 → a ^^^ 18446744073709551615 = 18446744073709551615 - a := by
      intro a ha
      have hb : (BitVec.ofNat 64 a ^^^ BitVec.allOnes 64).toNat = a ^^^ 18446744073709551615 := by
        rw [BitVec.toNat_xor, BitVec.toNat_ofNat, Nat.mod_eq_of_lt (by omega)]
        have : (BitVec.allOnes 64).toNat = 18446744073709551615 := by decide +kernel
        rw [this]
      rw [← hb, BitVec.xor_allOnes, BitVec.toNat_not, BitVec.toNat_ofNat, Nat.mod_eq_of_lt (by omega)]
    rw [hx _ (by omega)]
    omega

theorem u8_low {n : Nat} (h : n < 128) : Value.int .u8 (n : Int) = bv (UInt8.ofNat n) := by
  unfold bv; rw [u8_ofNat_toNat (by omega)]
theorem u8_high (n : Nat) : bits .or .u8 (IntKind.u8.wrap (n : Int)) 128 = (((UInt8.ofNat (n % 128 + 128)).toNat : Nat) : Int) := by
  rw [IntKind.wrap_u8, u8_ofNat_toNat (by omega)]
  have e : (n : Int) % 256 = ((n % 256 : Nat) : Int) := by omega
  rw [e]
  have h := u8_or_nat (n % 256) 128 (by omega) (by omega)
  have h' : n % 256 ||| 128 = n % 128 + 128 := by
    have hall : ∀ m : Fin 256, m.val ||| 128 = m.val % 128 + 128 := by decide +kernel
    have := hall ⟨n % 256, by omega⟩
    simp only at this
    omega
  rw [h'] at h
  exact h

theorem ownsT_bytes (w : World) (B : Nat) (e : TypeId) (s : ByteArray) (cap : Nat) (hB : B ≤ w.heap.size) (h1 : s.size ≤ cap) (h2 : cap ≤ maxLen) :
    ownsT (w.alloc (.cells (bytesRow s cap) e ((bytesRow s cap).size, (bytesRow s cap).size + 1))) B e 1 (.slice (some ⟨w.heap.size, 0, none⟩) s.size cap) s.data.toList.length (s.data.toList.map bv) := by
  have hl : s.data.toList.length = s.size := by simp
  have hsz : (bytesRow s cap).size = cap := by unfold bytesRow; simp; omega
  refine ⟨by simp, .inr ⟨w.heap.size, cap, bytesRow s cap, _, by rw [hl], hB, heap_alloc_new w _, .inr (Nat.le_refl _), by omega, h2, by omega, ?_⟩⟩
  rw [hl, Nat.mul_one]
  unfold bytesRow
  rw [Array.toList_append, List.take_append_of_le_length (by simp)]
  rw [List.take_of_length_le (by simp)]
  simp only [Array.toList_map]
  rfl

/-- The bytes of an owned row, as a string. -/
theorem bytes_of_ownsT {w : World} {P : Program} {B : Nat} {e : TypeId} {v : Value} {l : List UInt8} (src dst : TypeId) (h : ownsT w B e 1 v l.length (l.map bv)) (hs : P.underlying src = some (.slice e)) (he : P.underlying e = some (.int .u8)) (hd : P.underlying dst = some .string) :
    (convert src dst v).run P w = .ok (.string ⟨l.toArray⟩) w := by
  rcases h.2 with ⟨rfl, hn⟩ | ⟨g, cap, cur, fz, rfl, hb, hgg, _⟩
  · have : l = [] := List.eq_nil_of_length_eq_zero hn
    subst this
    rw [run_convert_bytes_string w src dst e none 0 0 hs he hd]; rfl
  · refine run_convert_bytes_back w src dst e _ cap l hs he hd (fun j hj => ?_)
    exact ownsT_cells h (g := g) rfl j _ (by simp [hj, bv])

/-- A string of the bytes that a new block holds. -/
theorem conv_new {P : Program} (w : World) (src dst e : TypeId) (l : List UInt8) (cells : List Value) (n : Nat) (hs : P.underlying src = some (.slice e)) (he : P.underlying e = some (.int .u8)) (hd : P.underlying dst = some .string) (hc : cells = l.map bv) (hn : l.length = n) :
    (convert src dst (.slice (some ⟨w.heap.size, 0, none⟩) n n)).run P (w.alloc (.cells cells.toArray e)) = .ok (.string ⟨l.toArray⟩) (w.alloc (.cells cells.toArray e)) := by
  subst hn; subst hc
  refine run_convert_bytes_back _ src dst e _ _ l hs he hd (fun j hj => ?_)
  have hadd : (⟨w.heap.size, 0, none⟩ : Addr).add j = ⟨w.heap.size, j, none⟩ := by unfold Addr.add; split <;> simp_all
  rw [hadd, cell_of_row (w.alloc (.cells (l.map bv).toArray e)) w.heap.size j _ _ _ (heap_alloc_new w _)]
  simp [hj, bv]
end Go.Proofs.YtikcfoobfobmnaaGreatDoor
/-
  The walk through packed.PutInt: it returns what the plain putInt says.
-/
namespace Go.Proofs.YtikcfoobfobmnaaGreatDoor
open Go.RowKit ND

end Go.Proofs.YtikcfoobfobmnaaGreatDoor
/-
  The walk through the document's PutInt.
-/
namespace Go.Proofs.YtikcfoobfobmnaaGreatDoor
open Go.RowKit ND

theorem zz_pos {v : Int} (h : 0 ≤ v) : v * 2 = (zz v : Int) := by
  unfold zz; rw [if_pos h]; omega
theorem zz_neg {v : Int} (h : v < 0) (h0 : -9223372036854775808 ≤ v) : bits .xor .u64 IntKind.u64.max (IntKind.u64.wrap (IntKind.u64.wrap v * 2)) = (zz v : Int) := by
  have hz := zz_lt h0 (by omega)
  rw [IntKind.wrap_u64, IntKind.wrap_u64]
  have e2 : v % 18446744073709551616 * 2 % 18446744073709551616 = ((18446744073709551615 - zz v : Nat) : Int) := by unfold zz; rw [if_neg (by omega)]; omega
  have e3 : IntKind.u64.max = ((18446744073709551615 : Nat) : Int) := by decide +kernel
  rw [e2, e3, u64_xor_nat _ _ (by omega) (by omega)]
  have hx : ∀ (a : Nat), a < 18446744073709551616 → 18446744073709551615 ^^^ a = 18446744073709551615 - a := by
    intro a ha
    have hb : (BitVec.allOnes 64 ^^^ BitVec.ofNat 64 a).toNat = 18446744073709551615 ^^^ a := by
      rw [BitVec.toNat_xor, BitVec.toNat_ofNat, Nat.mod_eq_of_lt (by omega)]
      have : (BitVec.allOnes 64).toNat = 18446744073709551615 := by decide +kernel
      rw [this]
    rw [← hb, BitVec.allOnes_xor, BitVec.toNat_not, BitVec.toNat_ofNat, Nat.mod_eq_of_lt (by omega)]
  rw [hx _ (by omega)]
  omega

theorem put_last {acc : ByteArray} {x : UInt8} {R : List UInt8} (h : acc.data.toList ++ [x] = R) : acc ++ (⟨#[x]⟩ : ByteArray) = ⟨R.toArray⟩ := by
  rw [← h]
  apply ByteArray.ext
  apply Array.ext'
  simp [ByteArray.data_append]
theorem size_more {acc : ByteArray} {x : UInt8} {m : Nat} (g : Nat) (h : acc.size + (g + 1) ≤ m) : acc.size + (⟨#[x]⟩ : ByteArray).size + g ≤ m := by
  have : (⟨#[x]⟩ : ByteArray).size = 1 := rfl
  omega
theorem shift7 {n g : Nat} (hf : g + 1 ≤ 9) (hB : n * 2 ^ (7 * (9 - (g + 1))) < 18446744073709551616) : n / 128 * 2 ^ (7 * (9 - g)) < 18446744073709551616 := by
  have e : 7 * (9 - g) = 7 * (9 - (g + 1) + 1) := by omega
  rw [e, pow7]
  have : n / 128 * (128 * 2 ^ (7 * (9 - (g + 1)))) = n / 128 * 128 * 2 ^ (7 * (9 - (g + 1))) := (Nat.mul_assoc _ _ _).symm
  rw [this]
  exact Nat.lt_of_le_of_lt (Nat.mul_le_mul_right _ (by omega)) hB

set_option maxRecDepth 100000 in
set_option maxHeartbeats 1000000 in
theorem refPutInt_any (b : ByteArray) (v : Int) (w : World) (hs : b.size ≤ 140737488355318) (h0 : -9223372036854775808 ≤ v) (h1 : v ≤ 9223372036854775807) :
    Calls Tryz.prog 9 #[.string b, .int .i64 v] w fun e w' => e = .returned (.string ⟨(putInt b.data.toList v).toArray⟩) ∧ Below w.heap.size w w' := by
  have hzl := zz_lt h0 h1
  obtain ⟨R, hR⟩ : ∃ R, putInt b.data.toList v = R := ⟨_, rfl⟩
  rw [hR]
  have HR : Hid (b.data.toList ++ encU 9 (zz v) = R) := hR
  clear hR
  have hcase : v < 0 ∨ 0 ≤ v := by omega
  rcases hcase with hv | hv
  · have HZ := Lib.hid (zz_neg hv h0)
    go_enter Tryz.func9, Tryz.ntmps9
    go_wp2_with fail
    rw [HZ.out]
    clear HZ
    go_loopw [0, 5] (fun out u wr => ∃ (f n : Nat) (acc : ByteArray), u = .int .u64 n ∧ out = .string acc ∧ n < 18446744073709551616 ∧ f ≤ 9 ∧ Hid (n * 2 ^ (7 * (9 - f)) < 18446744073709551616) ∧
        Hid (acc.data.toList ++ encU f n = R) ∧ acc.size + f ≤ b.size + 9 ∧ Below w.heap.size w wr) (fun _ u _ => (intOf u).toNat)
    case atStart => exact ⟨9, zz v, b, rfl, rfl, hzl, by omega, Lib.hid (by simpa using hzl), HR, by omega, Below.refl _ _⟩
    case round =>
      obtain ⟨f, n, acc, rfl, rfl, hn, hf, HB, HU, hlen, hbel⟩ := hrel
      by_cases hge : 128 ≤ n
      · have hf0 : f ≠ 0 := by
          intro h; subst h
          have := HB.out; omega
        have hcv := conv_one (P := Tryz.prog) wr 32 9 5 ((n : Int) % 128 + 128) Tryz.underlying32 Tryz.underlying5 Tryz.underlying9 (by omega) (by omega)
        rw [show ((n : Int) % 128 + 128).toNat = n % 128 + 128 by omega] at hcv
        go_wp2_with fail
        go_roundw
        case rel =>
          obtain ⟨g, rfl⟩ : ∃ g, f = g + 1 := ⟨f - 1, by omega⟩
          refine ⟨g, n / 128, _, by go_num, rfl, by omega, by omega, Lib.hid ?_, Lib.hid ?_, ?_, hbel.alloc hbel.size _⟩
          · exact shift7 hf HB.out
          · have h := HU.out
            rw [encU_succ, if_neg (by omega)] at h
            rw [← h]; simp [ByteArray.data_append]
          · rw [ByteArray.size_append]
            exact size_more g hlen
        case measure => simp [intOf]; omega
      · have hcv := conv_one (P := Tryz.prog) wr 32 9 5 (n : Int) Tryz.underlying32 Tryz.underlying5 Tryz.underlying9 (by omega) (by omega)
        rw [show (n : Int).toNat = n by omega] at hcv
        have HX : Hid (acc ++ (⟨#[UInt8.ofNat n]⟩ : ByteArray) = ⟨R.toArray⟩) := by
          refine Lib.hid (put_last ?_)
          have h := HU.out
          cases f with
          | zero => exact h
          | succ f => rw [encU_succ, if_pos (by omega)] at h; exact h
        go_wp2_with fail
        go_ret
        rw [HX.out]
        exact ⟨rfl, hbel.alloc hbel.size _⟩
  · have HZ := Lib.hid (zz_pos hv)
    go_enter Tryz.func9, Tryz.ntmps9
    go_wp2_with fail
    rw [HZ.out]
    clear HZ
    go_loopw [0, 5] (fun out u wr => ∃ (f n : Nat) (acc : ByteArray), u = .int .u64 n ∧ out = .string acc ∧ n < 18446744073709551616 ∧ f ≤ 9 ∧ Hid (n * 2 ^ (7 * (9 - f)) < 18446744073709551616) ∧
        Hid (acc.data.toList ++ encU f n = R) ∧ acc.size + f ≤ b.size + 9 ∧ Below w.heap.size w wr) (fun _ u _ => (intOf u).toNat)
    case atStart => exact ⟨9, zz v, b, rfl, rfl, hzl, by omega, Lib.hid (by simpa using hzl), HR, by omega, Below.refl _ _⟩
    case round =>
      obtain ⟨f, n, acc, rfl, rfl, hn, hf, HB, HU, hlen, hbel⟩ := hrel
      by_cases hge : 128 ≤ n
      · have hf0 : f ≠ 0 := by
          intro h; subst h
          have := HB.out; omega
        have hcv := conv_one (P := Tryz.prog) wr 32 9 5 ((n : Int) % 128 + 128) Tryz.underlying32 Tryz.underlying5 Tryz.underlying9 (by omega) (by omega)
        rw [show ((n : Int) % 128 + 128).toNat = n % 128 + 128 by omega] at hcv
        go_wp2_with fail
        go_roundw
        case rel =>
          obtain ⟨g, rfl⟩ : ∃ g, f = g + 1 := ⟨f - 1, by omega⟩
          refine ⟨g, n / 128, _, by go_num, rfl, by omega, by omega, Lib.hid ?_, Lib.hid ?_, ?_, hbel.alloc hbel.size _⟩
          · exact shift7 hf HB.out
          · have h := HU.out
            rw [encU_succ, if_neg (by omega)] at h
            rw [← h]; simp [ByteArray.data_append]
          · rw [ByteArray.size_append]
            exact size_more g hlen
        case measure => simp [intOf]; omega
      · have hcv := conv_one (P := Tryz.prog) wr 32 9 5 (n : Int) Tryz.underlying32 Tryz.underlying5 Tryz.underlying9 (by omega) (by omega)
        rw [show (n : Int).toNat = n by omega] at hcv
        have HX : Hid (acc ++ (⟨#[UInt8.ofNat n]⟩ : ByteArray) = ⟨R.toArray⟩) := by
          refine Lib.hid (put_last ?_)
          have h := HU.out
          cases f with
          | zero => exact h
          | succ f => rw [encU_succ, if_pos (by omega)] at h; exact h
        go_wp2_with fail
        go_ret
        rw [HX.out]
        exact ⟨rfl, hbel.alloc hbel.size _⟩
end Go.Proofs.YtikcfoobfobmnaaGreatDoor
/-
  The walk through packed.GetInt: it returns what the plain getInt says.
-/
namespace Go.Proofs.YtikcfoobfobmnaaGreatDoor
open Go.RowKit ND

theorem bytes_drop (s : ByteArray) (i : Nat) (h : i < s.size) : s.data.toList.drop i = s[i] :: s.data.toList.drop (i + 1) := by
  rw [List.drop_eq_getElem_cons (by simpa using h)]; rfl
theorem bytes_drop_nil (s : ByteArray) (i : Nat) (h : s.size ≤ i) : s.data.toList.drop i = [] := by
  apply List.drop_of_length_le; simpa using h

theorem bound7 {k n c : Nat} (hk : k ≤ 9) (hn : n < 2 ^ (7 * k)) (hc : c < 256) (h9 : k = 9 → c ≤ 1) :
    c % 128 * 2 ^ (7 * k) + n < 18446744073709551616 ∧ (k ≤ 8 → n + c % 128 * 2 ^ (7 * k) < 2 ^ (7 * (k + 1))) := by
  have hs : c % 128 * 2 ^ (7 * k) + 2 ^ (7 * k) = (c % 128 + 1) * 2 ^ (7 * k) := by rw [Nat.add_mul]; omega
  constructor
  · rcases Nat.lt_or_ge k 9 with h | h
    · have h1 : (c % 128 + 1) * 2 ^ (7 * k) ≤ 128 * 2 ^ 56 := Nat.mul_le_mul (by omega) (Nat.pow_le_pow_right (by omega) (by omega))
      have h2 : 128 * 2 ^ 56 < 18446744073709551616 := by decide
      exact Nat.lt_of_lt_of_le (by omega) (Nat.le_of_lt (Nat.lt_of_le_of_lt h1 h2))
    · obtain rfl : k = 9 := by omega
      have := h9 rfl
      have h1 : (c % 128 + 1) * 2 ^ (7 * 9) ≤ 2 * 2 ^ (7 * 9) := Nat.mul_le_mul_right _ (by omega)
      have h2 : 2 * 2 ^ (7 * 9) = 18446744073709551616 := by decide
      rw [h2] at h1
      exact Nat.lt_of_lt_of_le (by omega) h1
  · intro h
    have h1 : (c % 128 + 1) * 2 ^ (7 * k) ≤ 128 * 2 ^ (7 * k) := Nat.mul_le_mul_right _ (by omega)
    rw [pow7]; omega

theorem u64_add7 {k n c : Nat} (hk : k ≤ 9) (hn : n < 2 ^ (7 * k)) (hc : c < 256) (h9 : k = 9 → c ≤ 1) :
    bits .or .u64 (n : Int) (IntKind.u64.wrap (IntKind.u64.wrap (bits .and .u8 (c : Int) 127) * 2 ^ (7 * k))) = ((n + c % 128 * 2 ^ (7 * k) : Nat) : Int) := by
  have hb := (bound7 hk hn hc h9).1
  have e1 : bits .and .u8 (c : Int) 127 = ((c % 128 : Nat) : Int) := by
    have := u8_and_nat c 127 hc (by omega)
    rw [nat_mask7] at this
    exact this
  have e2 : IntKind.u64.wrap ((c % 128 : Nat) : Int) = ((c % 128 : Nat) : Int) := by
    rw [IntKind.wrap_u64]; omega
  have e3 : ((c % 128 : Nat) : Int) * 2 ^ (7 * k) = ((c % 128 * 2 ^ (7 * k) : Nat) : Int) := by
    rw [Int.natCast_mul, Int.natCast_pow]; rfl
  rw [e1, e2, e3, IntKind.wrap_u64]
  generalize hm : c % 128 * 2 ^ (7 * k) = m at *
  have e4 : ((m : Nat) : Int) % 18446744073709551616 = (m : Int) := by omega
  rw [e4, u64_or_nat n m (by omega) (by omega), Nat.or_comm, nat_join (7 * k) m n (by rw [← hm]; simp) hn, Nat.add_comm]

theorem i64_unzz {u : Nat} (h : u < 18446744073709551616) : bits .xor .i64 (wrap64 ((u : Int) / 2)) (wrap64 (-wrap64 (bits .and .u64 (u : Int) 1))) = unzz u := by
  have e1 : bits .and .u64 (u : Int) 1 = ((u % 2 : Nat) : Int) := by
    have := u64_and_nat u 1 h (by omega)
    rw [nat_mask1] at this
    exact this
  have e2 : wrap64 ((u : Int) / 2) = ((u / 2 : Nat) : Int) := by
    rw [IntWalk.wrap64_in _ ⟨by omega, by omega⟩]; omega
  rw [e1, e2]
  have hx : ∀ (a b : Int), bits .xor .i64 a b = IntKind.i64.wrap ((BitVec.ofInt 64 a ^^^ BitVec.ofInt 64 b).toNat : Int) := fun _ _ => rfl
  have ha : (BitVec.ofInt 64 ((u / 2 : Nat) : Int)) = BitVec.ofNat 64 (u / 2) := BitVec.ofInt_natCast ..
  unfold unzz
  by_cases h2 : u % 2 = 0
  · rw [if_pos h2, h2]
    have e3 : wrap64 (-wrap64 ((0 : Nat) : Int)) = 0 := by decide +kernel
    rw [e3, hx, ha]
    have : BitVec.ofInt 64 0 = 0#64 := by decide
    rw [this, BitVec.xor_zero, BitVec.toNat_ofNat, IntKind.wrap_i64, Nat.mod_eq_of_lt (by omega)]
    omega
  · have h1 : u % 2 = 1 := by omega
    rw [if_neg h2, h1]
    have e3 : wrap64 (-wrap64 ((1 : Nat) : Int)) = -1 := by decide +kernel
    rw [e3, hx, ha]
    have : BitVec.ofInt 64 (-1) = BitVec.allOnes 64 := by decide
    rw [this, BitVec.xor_allOnes, BitVec.toNat_not, BitVec.toNat_ofNat, IntKind.wrap_i64, Nat.mod_eq_of_lt (by omega)]
    omega

def tri (r : Int × Int × Int) : Value := .tuple #[.int .i64 r.1, .int .i64 r.2.1, .int .i64 r.2.2]

theorem getU_nil' {p k n : Nat} {R : Nat × Nat × Nat} {l : List UInt8} (hl : l = []) (h : getU l k n = R) : ((0 : Int), (p : Int), (5 : Int)) = finU p R := by
  subst hl; subst h; simp [getU, finU]
theorem getU_nine {p k n : Nat} {R : Nat × Nat × Nat} {c : UInt8} {l : List UInt8} (h : getU (c :: l) k n = R) (h9 : k = 9) (hc : 1 < c.toNat) : ((0 : Int), (p : Int), (4 : Int)) = finU p R := by
  subst h; rw [getU, if_pos ⟨h9, hc⟩]; simp [finU]
theorem getU_more {k n : Nat} {R : Nat × Nat × Nat} {c : UInt8} {l : List UInt8} (h : getU (c :: l) k n = R) (h9 : k ≠ 9) (hc : 128 ≤ c.toNat) :
    getU l (k + 1) (n + c.toNat % 128 * 2 ^ (7 * k)) = R := by
  subst h; rw [getU, if_neg (by omega), if_pos hc]
theorem getU_zero {p k n : Nat} {R : Nat × Nat × Nat} {c : UInt8} {l : List UInt8} (h : getU (c :: l) k n = R) (hk : 0 < k) (hc : c.toNat = 0) : ((0 : Int), (p : Int), (4 : Int)) = finU p R := by
  subst h; rw [getU, if_neg (by omega), if_neg (by omega), if_pos ⟨hc, hk⟩]; simp [finU]
theorem getU_last {p k n : Nat} {R : Nat × Nat × Nat} {c : UInt8} {l : List UInt8} (h : getU (c :: l) k n = R) (h9 : k = 9 → c.toNat ≤ 1) (hc : c.toNat < 128) (hz : c.toNat = 0 → ¬ 0 < k) :
    (unzz (n + c.toNat % 128 * 2 ^ (7 * k)), (p : Int) + k + 1, (0 : Int)) = finU p R := by
  subst h; rw [getU, if_neg (by omega), if_neg (by omega), if_neg (fun ⟨a, b⟩ => hz a b)]
  simp [finU]; omega

theorem tri_ret {r : Int × Int × Int} {a b c : Int} (h : (a, b, c) = r) : Ending.returned (.tuple #[.int .i64 a, .int .i64 b, .int .i64 c]) = .returned (tri r) := by
  subst h; rfl

set_option maxRecDepth 100000 in
set_option maxHeartbeats 400000 in
theorem getInt_in (s : ByteArray) (p : Nat) (w : World) (hs : s.size ≤ maxLen) (h1 : p ≤ s.size) :
    Calls Tryz.prog 76 #[.string s, .int .i64 p] w fun e w' => e = .returned (tri (getInt s.data.toList p)) ∧ w = w' := by
  unfold maxLen at hs
  have hfin : getInt s.data.toList p = finU p (getU (s.data.toList.drop p) 0 0) := by
    unfold getInt; rw [if_neg (by simp; omega)]; rfl
  rw [hfin]
  clear hfin
  obtain ⟨R, hR⟩ : ∃ R, getU (s.data.toList.drop p) 0 0 = R := ⟨_, rfl⟩
  rw [hR]
  have HR := Lib.hid hR; clear hR
  have hd1 : decide (s.size < p) = false := by simp; omega
  have hd2 : decide ((p : Int) < 0) = false := by simp
  go_enter Tryz.func76, Tryz.ntmps76
  go_wp2
  go_loop [7, 8] (fun u i => ∃ (k : Nat) (n : Nat), k ≤ 9 ∧ p + k ≤ s.size ∧ Hid (n < 2 ^ (7 * k)) ∧ Hid (getU (s.data.toList.drop (p + k)) k n = R) ∧ i = .int .i64 k ∧ u = .int .u64 n) (fun _ i => (10 - intOf i).toNat)
  case atStart => exact ⟨0, 0, by omega, by omega, Lib.hid (by decide), HR, rfl, rfl⟩
  case round =>
    obtain ⟨k, n, hk, hn, HB, HU, rfl, rfl⟩ := hrel
    clear HR
    by_cases hlt : p + k < s.size
    · have hd := bytes_drop s (p + k) hlt
      have HU' : Hid (getU (s[p + k] :: s.data.toList.drop (p + k + 1)) k n = R) := by rw [← hd]; exact HU
      clear hd HU
      have hc := s[p + k].toNat_lt
      rcases show (9 ≤ k ∧ 1 < s[p + k].toNat) ∨ (k < 9 ∧ 128 ≤ s[p + k].toNat) ∨ (s[p + k].toNat < 1 ∧ 0 < k ∧ s[p + k].toNat < 128) ∨ ((9 ≤ k → s[p + k].toNat ≤ 1) ∧ s[p + k].toNat < 128 ∧ (s[p + k].toNat < 1 → k < 1)) by omega with ⟨h9, hb⟩ | ⟨h9, hb⟩ | ⟨h0, hb, hb'⟩ | ⟨h9, hb, h0⟩
      · go_wp2
        go_ret3; exact ⟨tri_ret (getU_nine HU'.out (by omega) (by omega)), rfl⟩
      · go_wp2
        go_round
        case rel => exact ⟨k + 1, n + s[p + k].toNat % 128 * 2 ^ (7 * k), by omega, by omega, Lib.hid ((bound7 hk HB.out hc (by omega)).2 (by omega)), Lib.hid (getU_more HU'.out (by omega) hb), by go_num, by rw [u64_add7 hk HB.out hc (by omega)]⟩
        case measure => simp [intOf]; omega
      · go_wp2
        all_goals
          go_ret3
          exact ⟨tri_ret (getU_zero HU'.out (by omega) (by omega)), rfl⟩
      · rcases show (9 ≤ k ∧ s[p + k].toNat ≤ 1 ∧ 0 < s[p + k].toNat) ∨ (k < 9 ∧ 0 < s[p + k].toNat) ∨ (k < 1 ∧ s[p + k].toNat < 1) by omega with ⟨a1, a2, a3⟩ | ⟨a1, a3⟩ | ⟨a1, a3⟩
        · have hb9 : ((k : Int) == 9) = true := by simp; omega
          have hb0 : ((s[p + k].toNat : Int) == 0) = false := by simp; omega
          go_wp2
          go_ret3
          rw [u64_add7 hk HB.out hc (by omega), i64_unzz (by have := (bound7 hk HB.out hc (by omega)).1; omega)]
          exact ⟨tri_ret (getU_last HU'.out (by omega) (by omega) (by omega)), rfl⟩
        · have hb9 : ((k : Int) == 9) = false := by simp; omega
          have hb0 : ((s[p + k].toNat : Int) == 0) = false := by simp; omega
          go_wp2
          go_ret3
          rw [u64_add7 hk HB.out hc (by omega), i64_unzz (by have := (bound7 hk HB.out hc (by omega)).1; omega)]
          exact ⟨tri_ret (getU_last HU'.out (by omega) (by omega) (by omega)), rfl⟩
        · have hb9 : ((k : Int) == 9) = false := by simp; omega
          have hb0 : ((s[p + k].toNat : Int) == 0) = true := by simp; omega
          go_wp2
          go_ret3
          rw [u64_add7 hk HB.out hc (by omega), i64_unzz (by have := (bound7 hk HB.out hc (by omega)).1; omega)]
          exact ⟨tri_ret (getU_last HU'.out (by omega) (by omega) (by omega)), rfl⟩
    · go_wp2
      go_ret3
      exact ⟨tri_ret (getU_nil' (bytes_drop_nil s _ (by omega)) HU.out), rfl⟩

set_option maxRecDepth 100000 in
set_option maxHeartbeats 400000 in
theorem getInt_any (s : ByteArray) (at_ : Int) (w : World) (hs : s.size ≤ maxLen) :
    Calls Tryz.prog 76 #[.string s, .int .i64 at_] w fun e w' => e = .returned (tri (getInt s.data.toList at_)) ∧ w = w' := by
  by_cases h : at_ < 0 ∨ (s.size : Int) < at_
  · have hg : getInt s.data.toList at_ = (0, at_, 3) := by
      unfold getInt; rw [if_pos (by simpa using h)]
    rw [hg]
    unfold maxLen at hs
    rcases h with h | h
    all_goals
      go_enter Tryz.func76, Tryz.ntmps76
      go_wp2
      go_ret3
      exact ⟨rfl, rfl⟩
  · obtain ⟨p, rfl⟩ := Int.eq_ofNat_of_zero_le (show 0 ≤ at_ by omega)
    exact getInt_in s p w hs (by omega)
end Go.Proofs.YtikcfoobfobmnaaGreatDoor
/-
  The walks through the reader of packed: next and want.
-/
namespace Go.Proofs.YtikcfoobfobmnaaGreatDoor
open Go.RowKit ND

set_option maxRecDepth 100000 in
set_option maxHeartbeats 400000 in
theorem next_err (w : World) (g : Nat) (s : ByteArray) (p e : Int) (hb : Blk w g 124 #[.string s, .int .i64 p, .int .i64 e]) (he : e ≠ 0) :
    Calls Tryz.prog 106 #[.pointer (some ⟨g, 0, none⟩)] w fun e w' => e = .returned (.int .i64 0) ∧ w = w' := by
  have h2 : w.cell? ⟨g, 2, none⟩ = some (.int .i64 e) := by rw [hb.cell]; rfl
  have hne : (e != 0) = true := by rw [bne_iff_ne]; exact he
  clear hb he
  go_enter Tryz.func106, Tryz.ntmps106
  go_wp2_with fail
  go_ret
  exact ⟨rfl, rfl⟩

set_option maxRecDepth 100000 in
set_option maxHeartbeats 400000 in
theorem next_ok (w : World) (g : Nat) (s : ByteArray) (p : Int) (hs : s.size ≤ maxLen) (hb : Blk w g 124 #[.string s, .int .i64 p, .int .i64 0]) :
    Calls Tryz.prog 106 #[.pointer (some ⟨g, 0, none⟩)] w fun e w' => e = .returned (.int .i64 (getInt s.data.toList p).1) ∧
      Blk w' g 124 #[.string s, .int .i64 (getInt s.data.toList p).2.1, .int .i64 (getInt s.data.toList p).2.2] ∧ w.grownBy w' (some g) := by
  have h0 : w.cell? ⟨g, 0, none⟩ = some (.string s) := by rw [hb.cell]; rfl
  have h1 : w.cell? ⟨g, 1, none⟩ = some (.int .i64 p) := by rw [hb.cell]; rfl
  have h2 : w.cell? ⟨g, 2, none⟩ = some (.int .i64 0) := by rw [hb.cell]; rfl
  have f1 := hb.free 1
  have f2 := hb.free 2
  have hget := Lib.hid (fun W => getInt_any s p W hs)
  have HB := Lib.hid hb; clear hb
  generalize getInt s.data.toList p = r at *
  obtain ⟨x, y, z⟩ := r
  unfold tri at hget
  simp only at hget ⊢
  go_enter Tryz.func106, Tryz.ntmps106
  go_wp2_with fail
  go_quiet ((go_at_call 76; exact quiet_left (hget.out _)))
  go_wp2_with fail
  go_ret
  have hb := HB.out
  refine ⟨rfl, ?_, grown_setCell (grown_setCell (grown_drewN (grown_refl w _) nq) _ _) _ _⟩
  have h3 : Blk (w.drewN nq) g 124 #[.string s, .int .i64 p, .int .i64 0] := hb
  exact (h3.put 1 (.int .i64 y)).put 2 (.int .i64 z)

set_option maxRecDepth 100000 in
set_option maxHeartbeats 400000 in
theorem want_yes (w : World) (g : Nat) (s : ByteArray) (p e : Int) (hb : Blk w g 124 #[.string s, .int .i64 p, .int .i64 e]) :
    Calls Tryz.prog 107 #[.pointer (some ⟨g, 0, none⟩), .bool true] w fun r w' => r = .returned (.bool (e == 0)) ∧ w = w' := by
  have h2 : w.cell? ⟨g, 2, none⟩ = some (.int .i64 e) := by rw [hb.cell]; rfl
  clear hb
  by_cases he : e = 0
  · subst he
    go_enter Tryz.func107, Tryz.ntmps107
    go_wp2_with fail
    go_ret
    exact ⟨by simp, rfl⟩
  · have hb : (e == 0) = false := beq_eq_false_iff_ne.2 he
    clear he
    go_enter Tryz.func107, Tryz.ntmps107
    go_wp2_with fail
    go_ret
    exact ⟨by simp [hb], rfl⟩

set_option maxRecDepth 100000 in
set_option maxHeartbeats 400000 in
theorem want_err (w : World) (g : Nat) (s : ByteArray) (p e : Int) (ok : Bool) (hb : Blk w g 124 #[.string s, .int .i64 p, .int .i64 e]) (he : e ≠ 0) :
    Calls Tryz.prog 107 #[.pointer (some ⟨g, 0, none⟩), .bool ok] w fun r w' => r = .returned (.bool false) ∧ w = w' := by
  have h2 : w.cell? ⟨g, 2, none⟩ = some (.int .i64 e) := by rw [hb.cell]; rfl
  have hb : (e == 0) = false := beq_eq_false_iff_ne.2 he
  clear he
  go_enter Tryz.func107, Tryz.ntmps107
  go_wp2_with fail
  go_ret
  exact ⟨by simp, rfl⟩

set_option maxRecDepth 100000 in
set_option maxHeartbeats 400000 in
theorem want_no (w : World) (g : Nat) (s : ByteArray) (p : Int) (hb : Blk w g 124 #[.string s, .int .i64 p, .int .i64 0]) :
    Calls Tryz.prog 107 #[.pointer (some ⟨g, 0, none⟩), .bool false] w fun r w' => r = .returned (.bool false) ∧
      Blk w' g 124 #[.string s, .int .i64 p, .int .i64 4] ∧ w.grownBy w' (some g) := by
  have h2 : w.cell? ⟨g, 2, none⟩ = some (.int .i64 0) := by rw [hb.cell]; rfl
  have f2 := hb.free 2
  have HB := Lib.hid hb; clear hb
  go_enter Tryz.func107, Tryz.ntmps107
  go_wp2_with fail
  go_ret
  exact ⟨by simp, HB.out.put 2 (.int .i64 4), grown_setCell (grown_refl w _) _ _⟩
end Go.Proofs.YtikcfoobfobmnaaGreatDoor
