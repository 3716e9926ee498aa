/-
  A map whose keys are pairs of integers and whose elements are true: looking up and adding.
-/
import Derived.Test.YtkdhldhbjomiaaaDoorMem
import Derived.ChangeKeysEq
import Derived.Maps.Own
namespace Go.Proofs.YtkdhldhbjomiaaaDoor
open Go.RowKit Go.ChangeMaps

def pairV (p : Int × Int) : Value := .agg #[.int .i64 p.1, .int .i64 p.2]
section
variable {P : Program} {K E : TypeId} {i : TypeInfo}
theorem run_equal_pair (hK : P.underlying K = some (.array 2 E)) (hE : P.underlying E = some (.int .i64)) (hi : P.info? E = some i) (hp : P.plainKey E = true) (hc : P.cellsOf E = 1) (w : World) (p q : Int × Int) :
    (Op.equal K (pairV p) (pairV q)).run P w = .ok (decide (p = q)) w := by
  have e1 : ∀ (d : Nat) (a b : Int) (w : World), (Op.equalIn (d + 1) E (.int .i64 a) (.int .i64 b)).run P w = .ok (a == b) w := fun d a b w => by
    simp [Op.equalIn, run_underlying hE]
  show (Op.equalIn (9999 + 1) K (.agg #[.int .i64 p.1, .int .i64 p.2]) (.agg #[.int .i64 q.1, .int .i64 q.2])).run P w = _
  rw [run_equalIn_array w 9999 _ _ hK hi, hc]
  have p0 : ∀ (w : World) (a b : Int), (part E #[.int .i64 a, .int .i64 b] 0).run P w = .ok (.int .i64 a) w := fun w a b => run_part_plain w hp rfl
  have p1 : ∀ (w : World) (a b : Int), (part E #[.int .i64 a, .int .i64 b] 1).run P w = .ok (.int .i64 b) w := fun w a b => run_part_plain w hp rfl
  have hr : List.range 2 = [0, 1] := rfl
  rw [hr]
  simp only [Op.eqItems, Sem.run_bind, Nat.zero_mul, Nat.one_mul, p0, Result.andThen_ok, e1 9998]
  obtain ⟨a, b⟩ := p
  obtain ⟨c, d⟩ := q
  simp only [Prod.mk.injEq]
  by_cases h1 : a = c
  · have hb1 : (a == c) = true := by rw [beq_iff_eq]; exact h1
    rw [hb1]
    by_cases h2 : b = d
    · have hb2 : (b == d) = true := by rw [beq_iff_eq]; exact h2
      subst h2
      have e2 : (Op.equalIn 9999 E (.int .i64 b) (.int .i64 b)).run P w = .ok (b == b) w := e1 9998 b b w
      rw [decide_eq_true ⟨h1, rfl⟩]
      simp [p1, e2]
    · have hb2 : (b == d) = false := by rw [beq_eq_false_iff_ne]; exact h2
      have e2 : (Op.equalIn 9999 E (.int .i64 b) (.int .i64 d)).run P w = .ok (b == d) w := e1 9998 b d w
      rw [decide_eq_false (fun h => h2 h.2)]
      simp [p1, e2, h2]
  · have hb1 : (a == c) = false := by rw [beq_eq_false_iff_ne]; exact h1
    rw [hb1, decide_eq_false (fun h => h1 h.1)]
    simp
theorem run_checkKey_pair (hK : P.underlying K = some (.array 2 E)) (hE : P.underlying E = some (.int .i64)) (hi : P.info? E = some i) (hp : P.plainKey E = true) (hc : P.cellsOf E = 1) (e : Bool) (w : World) (p : Int × Int) :
    (Instr.checkKey e 10000 K (pairV p)).run P w = .ok () w := by
  have e1 : ∀ (d : Nat) (a : Int) (w : World), (Instr.checkKey e (d + 1) E (.int .i64 a)).run P w = .ok () w := fun d a w => by
    simp [Instr.checkKey, run_underlying hE]
  have p0 : ∀ (w : World) (a b : Int), (part E #[.int .i64 a, .int .i64 b] 0).run P w = .ok (.int .i64 a) w := fun w a b => run_part_plain w hp rfl
  have p1 : ∀ (w : World) (a b : Int), (part E #[.int .i64 a, .int .i64 b] 1).run P w = .ok (.int .i64 b) w := fun w a b => run_part_plain w hp rfl
  have hr : List.range' 0 2 = [0, 1] := rfl
  show (Instr.checkKey e (9999 + 1) K (.agg #[.int .i64 p.1, .int .i64 p.2])).run P w = _
  unfold Instr.checkKey
  simp only [Sem.run_bind, run_underlying hK, Result.andThen_ok]
  simp only [Std.Legacy.Range.forIn_eq_forIn_range', Std.Legacy.Range.size, Nat.sub_zero, Nat.add_one_sub_one, Nat.div_one, hr, List.forIn_cons, List.forIn_nil, Sem.run_bind, run_sizeOf w hi, hc, Result.andThen_ok, Nat.zero_mul, Nat.one_mul, p0, p1, e1 9998, Sem.run_pure]

theorem run_findAsking (hK : P.underlying K = some (.array 2 E)) (hE : P.underlying E = some (.int .i64)) (hi : P.info? E = some i) (hp : P.plainKey E = true) (hc : P.cellsOf E = 1) (w : World) (p : Int × Int) : ∀ (es : List MapEntry) (qs : List (Int × Int)) (n : Nat), es.map (·.key) = qs.map pairV → (∀ e ∈ es, e.val = .bool true) →
    (p ∉ qs → (Instr.findAsking K (pairV p) es n).run P w = .ok none w) ∧ (p ∈ qs → ∃ j, (Instr.findAsking K (pairV p) es n).run P w = .ok (some (j, .bool true)) w) := by
  intro es
  induction es with
  | nil =>
    intro qs n h _
    obtain rfl : qs = [] := by cases qs with
      | nil => rfl
      | cons a r => cases h
    exact ⟨fun _ => rfl, fun h => by cases h⟩
  | cons e es ih =>
    intro qs n h hv
    cases qs with
    | nil => cases h
    | cons q qs =>
      simp only [List.map_cons, List.cons.injEq] at h
      obtain ⟨hk, hr⟩ := h
      obtain ⟨ih1, ih2⟩ := ih qs (n + 1) hr (fun x hx => hv x (List.mem_cons_of_mem _ hx))
      have he := run_equal_pair hK hE hi hp hc w p q
      by_cases hpq : p = q
      · refine ⟨fun hn => absurd (by rw [hpq]; exact List.mem_cons_self) hn, fun _ => ⟨n, ?_⟩⟩
        unfold Instr.findAsking
        rw [hk]
        simp only [Sem.run_bind, he, Result.andThen_ok, decide_eq_true hpq, if_true, hv e List.mem_cons_self, Sem.run_pure]
      · have hstep : (Instr.findAsking K (pairV p) (e :: es) n).run P w = (Instr.findAsking K (pairV p) es (n + 1)).run P w := by
          rw [Instr.findAsking.eq_def]
          simp only [hk, Sem.run_bind, he, Result.andThen_ok, decide_eq_false hpq, Bool.false_eq_true, if_false]
        rw [hstep]
        exact ⟨fun hn => ih1 (fun h => hn (List.mem_cons_of_mem _ h)), fun hm => ih2 ((List.mem_cons.1 hm).resolve_left hpq)⟩
theorem run_findKey_pair (hK : P.underlying K = some (.array 2 E)) (hE : P.underlying E = some (.int .i64)) (hi : P.info? E = some i) (hp : P.plainKey E = true) (hc : P.cellsOf E = 1) (w : World) (p : Int × Int) (es : List MapEntry) (qs : List (Int × Int)) (h : es.map (·.key) = qs.map pairV) (hv : ∀ e ∈ es, e.val = .bool true) :
    (p ∉ qs → (Instr.findKey K (pairV p) es).run P w = .ok none w) ∧ (p ∈ qs → ∃ j, (Instr.findKey K (pairV p) es).run P w = .ok (some (j, .bool true)) w) := by
  have hf := run_findAsking hK hE hi hp hc w p es qs 0 h hv
  cases es with
  | nil =>
    obtain rfl : qs = [] := by cases qs with
      | nil => rfl
      | cons a r => cases h
    refine ⟨fun _ => ?_, fun h => by cases h⟩
    simp [Instr.findKey, run_underlying hK, Instr.findNow]
  | cons e es =>
    have hn : Instr.findNow (.array 2 E) (pairV p) (e :: es) 0 = none := by
      unfold Instr.findNow Instr.sameNow
      rfl
    have he : (Instr.findKey K (pairV p) (e :: es)).run P w = (Instr.findAsking K (pairV p) (e :: es) 0).run P w := by
      simp only [Instr.findKey, Sem.run_bind, run_underlying hK, Result.andThen_ok, hn]
    rw [he]
    exact hf

/-- Block b is a map whose keys are the pairs qs, in the order in which they came, and whose elements are true. -/
def OwnsP (w : World) (b : Nat) (qs : List (Int × Int)) : Prop := ∃ es clock, w.heap[b]? = some (.map es clock) ∧ es.toList.map (·.key) = qs.map pairV ∧ ∀ e ∈ es.toList, e.val = .bool true
theorem OwnsP.lt {w : World} {b : Nat} {qs : List (Int × Int)} (h : OwnsP w b qs) : b < w.heap.size := by
  obtain ⟨es, c, h, _⟩ := h; exact (Array.getElem?_eq_some_iff.1 h).1
theorem OwnsP.later {w w' : World} {b : Nat} {qs : List (Int × Int)} (h : OwnsP w b qs) (hb : Below w.heap.size w w') : OwnsP w' b qs := by
  have hl := h.lt
  obtain ⟨es, c, h, r⟩ := h; exact ⟨es, c, (hb.block b hl).trans h, r⟩
theorem OwnsP.new (w : World) : OwnsP (w.alloc (.map #[] 0)) w.heap.size [] := ⟨#[], 0, heap_alloc_new w _, rfl, by simp⟩
theorem OwnsP.lookup {M : TypeId} {w : World} {b : Nat} {qs : List (Int × Int)} (h : OwnsP w b qs) {B : TypeId} (hM : P.underlying M = some (.map K B)) (hz : ∀ w, (zeroValue B).run P w = .ok (.bool false) w)
    (hK : P.underlying K = some (.array 2 E)) (hE : P.underlying E = some (.int .i64)) (hi : P.info? E = some i) (hp : P.plainKey E = true) (hc : P.cellsOf E = 1) (p : Int × Int) :
    (Instr.lookup M (.map (some b)) (pairV p) false).run P w = .ok (.bool (decide (p ∈ qs))) w := by
  obtain ⟨es, clock, hb, hk, hv⟩ := h
  obtain ⟨h1, h2⟩ := run_findKey_pair hK hE hi hp hc w p es.toList qs hk hv
  by_cases hm : p ∈ qs
  · obtain ⟨j, hj⟩ := h2 hm
    simp [Instr.lookup, run_underlying hM, MapKept.run_getObj_map hb, run_checkKey_pair hK hE hi hp hc, hj, Result.andThen, hm]
  · simp [Instr.lookup, run_underlying hM, MapKept.run_getObj_map hb, run_checkKey_pair hK hE hi hp hc, h1 hm, Result.andThen, hm, hz]
theorem OwnsP.update {M : TypeId} {w : World} {b : Nat} {qs : List (Int × Int)} (h : OwnsP w b qs) {B : TypeId} (hM : P.underlying M = some (.map K B))
    (hK : P.underlying K = some (.array 2 E)) (hE : P.underlying E = some (.int .i64)) (hi : P.info? E = some i) (hp : P.plainKey E = true) (hc : P.cellsOf E = 1) (p : Int × Int) (hm : p ∉ qs) :
    ∃ w', (Instr.mapUpdate M (.map (some b)) (pairV p) (.bool true)).run P w = .ok () w' ∧ OwnsP w' b (qs ++ [p]) ∧ w.grownBy w' (some b) := by
  obtain ⟨es, clock, hb, hk, hv⟩ := h
  obtain ⟨h1, _⟩ := run_findKey_pair hK hE hi hp hc w p es.toList qs hk hv
  have hl := (Array.getElem?_eq_some_iff.1 hb).1
  refine ⟨setBlock w b (.map (es.push ⟨pairV p, .bool true, clock⟩) (clock + 1)), ?_, ⟨es.push ⟨pairV p, .bool true, clock⟩, clock + 1, ?_, ?_, ?_⟩, ?_⟩
  · simp [Instr.mapUpdate, run_underlying hM, MapKept.run_getObj_map hb, run_checkKey_pair hK hE hi hp hc, h1 hm, MapKept.run_setObj_map _ hb, Result.andThen, setBlock]
  · simp [setBlock, hl]
  · simp [hk]
  · intro e he
    simp only [Array.toList_push, List.mem_append, List.mem_singleton] at he
    rcases he with he | rfl
    · exact hv e he
    · rfl
  · refine ⟨rfl, rfl, rfl, by simp [setBlock], fun k hk hne => ?_⟩
    have : k ≠ b := fun e => hne (by rw [e])
    simp [setBlock, Ne.symm this]
end
end Go.Proofs.YtkdhldhbjomiaaaDoor
