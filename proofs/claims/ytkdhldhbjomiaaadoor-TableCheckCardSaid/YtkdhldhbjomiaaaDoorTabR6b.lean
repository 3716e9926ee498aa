/-
  The walks through the reference's full and finite: rule 6.
-/
import Derived.Test.YtkdhldhbjomiaaaDoorTabR6
import Derived.Test.YtkdhldhbjomiaaaDoorAppend
import Derived.Deep.AppendLies
namespace Go.Proofs.YtkdhldhbjomiaaaDoor
open Go.RowKit ND

/-- What full hands back. -/
def RetFull (w : World) (r : Option (List Int)) (e : Ending) (w' : World) : Prop :=
  ∃ v, e = .returned (.tuple #[v, .bool r.isSome]) ∧ Ints w' w'.heap.size .i64 v (r.getD []) ∧ Below w.heap.size w w'
theorem exp1_snoc (D : List Mp) (l : List Int) (x : Int) : exp1 D (l ++ [x]) = exp1 D l ++ (if findL D x = [] then [x] else findL D x) := by unfold exp1; rw [List.flatMap_append]; simp
theorem take_snoc' {α : Type} {l : List α} {k : Nat} {c : α} (h : l[k]? = some c) : l.take (k + 1) = l.take k ++ [c] := by
  rw [List.take_add_one, h]; rfl

set_option maxRecDepth 100000 in
set_option maxHeartbeats 4000000 in
theorem full_any (t : Tv) (T : Tab) (c : Int) (w : World) (ht : TabR w w.heap.size t T) (hne : ∀ m ∈ T.decomps, m.2 ≠ [] ∧ m.2.length ≤ 1000) :
    Calls Tryd.prog 118 #[t.val, .int .i64 c] w (RetFull w (fullF T.decomps 257 [c])) := by
  obtain ⟨i0, hi, hz0, hz1, hz2⟩ := info_parts Tryd.infoInt'
  obtain ⟨tc, htc⟩ : ∃ tc, tc = t.cells := ⟨_, rfl⟩
  have HT := Lib.hid (fun W (h : Below w.heap.size w W) => (ht.later h).r9)
  obtain ⟨A0, A1, A2, A3, A4, A5, A6, A7, A8, A9, A10, A11, k0, k1, k2, k3, k4, k5, k6, k7, k8, k9, k10, k11, rfl⟩ := ht.shape
  have HF := Lib.hid (fun x W (h : Mapps W W.heap.size (.slice A9 T.decomps.length k9) T.decomps) => refFind_any _ T.decomps x W h)
  have HNL := Lib.hid (fun x => findL_len (c := x) (fun m hm => (hne m hm).2))
  have HTC := Lib.hid htc
  clear ht htc hne
  obtain ⟨R, hR⟩ : ∃ R, R = fullF T.decomps 257 [c] := ⟨_, rfl⟩
  rw [← hR]
  have HR0 : Hid (fullF T.decomps (257 - 0) [c] = R) := Lib.hid hR.symm
  clear hR
  go_enter Tryd.func118, Tryd.ntmps118
  go_wp2_with fail
  go_loopw [6, 7] (fun l i wr => ∃ (r : Nat) (xs : List Int) (B : Option Addr) (cp : Nat), r ≤ 257 ∧ i = .int .i64 r ∧ l = .slice B xs.length cp ∧ xs.length ≤ 18 ∧ Hid (fullF T.decomps (257 - r) xs = R) ∧ Hid (Ints wr wr.heap.size .i64 (.slice B xs.length cp) xs) ∧ Below w.heap.size w wr ∧ Hid (Blk wr w.heap.size 26 tc)) (fun _ i _ => 257 - (intOf i).toNat)
  case atStart =>
    refine ⟨0, [c], some ⟨w.heap.size + 1, 0, none⟩, 1, by omega, rfl, rfl, by simp, HR0, Lib.hid ⟨_, _, rfl, Nat.le_refl _, by decide, (by intro h; cases h), fun i x hi => ⟨_, rfl, by simp, ?_⟩⟩, ((Below.refl _ _).alloc (Nat.le_refl _) _).alloc (by simp) _, Lib.hid (by rw [HTC.out]; exact (Blk.new _ _ _).alloc _)⟩
    have h := cells_new (w.alloc (.cells tc 26)) [.int .i64 c] 3 i (.int .i64 x) (by
      cases i with
      | zero => simp at hi ⊢; exact hi
      | succ i => simp at hi)
    rw [show (w.alloc (.cells tc 26)).heap.size = w.heap.size + 1 by simp, HTC.out] at h
    exact h
  case round =>
    obtain ⟨r, xs, B, cp, hr, rfl, rfl, hxl, HS, HI, hbel, HB⟩ := hrel
    clear HR0
    by_cases hrl : r ≤ 256
    · have hsz0 : w.heap.size < wr.heap.size := HB.out.lt
      have HIW := Lib.hid (fun W (h : Below wr.heap.size wr W) => HI.out.later h)
      obtain ⟨B', cp', hBB, _, _, _, hcell⟩ := HI.out
      cases hBB
      have HC := Lib.hid hcell
      have HX0 : Hid (exp1 T.decomps (xs.take 0) = [] ∧ doneB T.decomps (xs.take 0) = true) := Lib.hid ⟨rfl, rfl⟩
      have HFS : Hid (R = if doneB T.decomps xs = true then some xs else if 18 < (exp1 T.decomps xs).length then none else fullF T.decomps (257 - (r + 1)) (exp1 T.decomps xs)) := Lib.hid (by
        rw [← HS.out, show 257 - r = (257 - (r + 1)) + 1 by omega]; rfl)
      have p0 : (r : Int) ≤ 256 := by omega
      clear hcell HS
      go_wp2_with fail
      generalize hwo : wr = wo at *
      have HWO := Lib.hid hwo
      clear hwo
      go_loopw [8, 9, 21] (fun nx mo i wr => ∃ (q : Nat) (acc : List Int), q ≤ xs.length ∧ i = .int .i64 q ∧ Hid (acc = exp1 T.decomps (xs.take q)) ∧ acc.length ≤ 1000 * q ∧ mo = .bool (!doneB T.decomps (xs.take q)) ∧ wr.ownsRow wo.heap.size 3 1 nx acc.length (acc.map (Value.int .i64)) ∧ Below wo.heap.size wo wr ∧ Hid (Blk wr w.heap.size 26 tc)) (fun _ _ i _ => xs.length - (intOf i).toNat)
      case atStart => exact ⟨0, [], by omega, rfl, Lib.hid HX0.out.1.symm, by simp, by rw [HX0.out.2]; rfl, World.ownsRow_nil _ _ _ _, Below.refl _ _, HB⟩
      case round =>
        obtain ⟨q, acc, hq, rfl, HA, hal, rfl, hown, hbelq, HBq⟩ := hrel
        clear HX0 HB
        by_cases hql : q < xs.length
        · obtain ⟨y, hyq, _⟩ := get_el hql
          obtain ⟨ay, rfl, hay, d0⟩ := HC.out q _ hyq
          have e0 := (hbelq.cell (p := ay.add q) (by rw [block_of_add]; exact hay)).trans d0
          have x9 := (show Blk _ _ _ #[_, _, _, _, _, _, _, _, _, _, _, _] from by have h := HBq.out; rw [HTC.out] at h; exact h).at_ (i := 9) rfl
          have hbelw := below_next hbel hbelq
          have HCA := Lib.hid (HF.out y _ (HT.out _ hbelw))
          have hyl := HNL.out y
          have hds : doneB T.decomps (xs.take (q + 1)) = (doneB T.decomps (xs.take q) && decide (findL T.decomps y = [])) := by rw [take_snoc' hyq, doneB_append, doneB_one]
          have hes : exp1 T.decomps (xs.take (q + 1)) = acc ++ (if findL T.decomps y = [] then [y] else findL T.decomps y) := by rw [take_snoc' hyq, exp1_snoc, HA.out]
          have HDS := Lib.hid hds
          have HES := Lib.hid hes
          clear d0 hyq hay hds hes
          have s0 : (0 : Int) ≤ (q : Int) := by omega
          have s1 : (q : Int) < (xs.length : Int) := by omega
          by_cases hn : findL T.decomps y = []
          · have HES2 : Hid (exp1 T.decomps (xs.take (q + 1)) = acc ++ [y]) := Lib.hid (by rw [HES.out, if_pos hn])
            have HDS2 : Hid (doneB T.decomps (xs.take (q + 1)) = doneB T.decomps (xs.take q)) := Lib.hid (by rw [HDS.out, decide_eq_true hn, Bool.and_true])
            rw [hn] at HCA
            clear hn HES HDS hyl
            go_wp2_with fail
            refine HCA.out.mono ?_
            rintro e w2 ⟨u, rfl, hu, b2⟩
            obtain ⟨Au, cu, rfl, _⟩ := hu
            have hown2 := own_later hown b2
            have hbel2 := below_next hbelq b2
            have HB2 := Lib.hid (HBq.out.later b2)
            clear hown b2 x9 HBq e0
            have hsz2 := hbel2.size
            go_wp2_with (at_builtin; refine wpList_append_own _ rfl _ _ 24 rfl wo.heap.size 3 i0 (.int .i64 0) 1 8 Tryd.underlying24 hi hz0 hz1 hz2 rfl (by decide) _ _ _ rfl (hown2.alloc _) ⟨w2.heap.size, 0, none⟩ 1 1 [.int .i64 y] rfl rfl (World.news_of_block (cs := #[.int .i64 y]) (heap_alloc_new w2 _)) ?c1 ?c2 ?c3 ?c4 ?_)
            case c1 => intro u hu; simp at hu; subst hu; rfl
            case c2 => unfold maxLen; omega
            case c3 => omega
            case c4 => simp; omega
            intro v' w3 hown3 hg3 _
            have HB3 := Lib.hid ((HB2.out.alloc (.cells #[.int .i64 y] 3)).grown hg3 (fun e => absurd (hown2.lt w.heap.size e.symm).1 (by omega)))
            have hbel3 : Below wo.heap.size wo w3 := (hbel2.alloc hsz2 _).grown hg3 (by simp; omega) (fun k hk => (hown2.lt k hk).1)
            clear hg3 hown2 HB2 hbel2
            go_wp2_with fail
            go_roundw
            case rel => exact ⟨q + 1, acc ++ [y], by omega, by go_num, Lib.hid HES2.out.symm, by simp; omega, by rw [HDS2.out], by simpa using hown3, hbel3, HB3⟩
            case measure => simp [intOf]; omega
          · have HES2 : Hid (exp1 T.decomps (xs.take (q + 1)) = acc ++ findL T.decomps y) := Lib.hid (by rw [HES.out, if_neg hn])
            have HDS2 : Hid (doneB T.decomps (xs.take (q + 1)) = false) := Lib.hid (by rw [HDS.out, decide_eq_false hn, Bool.and_false])
            have hyp : 0 < (findL T.decomps y).length := length_pos_ne hn
            generalize findL T.decomps y = ys at *
            clear hn HES HDS
            go_wp2_with fail
            refine HCA.out.mono ?_
            rintro e w2 ⟨u, rfl, hu, b2⟩
            have HU := Lib.hid hu
            obtain ⟨Au, cu, rfl, _⟩ := hu
            have hown2 := own_later hown b2
            have hbel2 := below_next hbelq b2
            have HB2 := Lib.hid (HBq.out.later b2)
            clear hown b2 x9 HBq e0
            have hsz2 := hbel2.size
            go_wp2_with (at_builtin
                         refine wpList_append_ints (by rfl) (.tmp 32) (.tmp 33) rfl Tryd.underlying24 hi hz0 hz1 hz2 w2.heap.size wo.heap.size _ acc _ ys rfl hown2 rfl HU.out (by omega) hsz2 ?_
                         intro v' w3 hown3 hg3 _)
            have HB3 := Lib.hid (HB2.out.grown hg3 (fun e => absurd (hown2.lt w.heap.size e.symm).1 (by omega)))
            have hbel3 : Below wo.heap.size wo w3 := hbel2.grown hg3 hsz2 (fun k hk => (hown2.lt k hk).1)
            clear hg3 hown2 HB2 hbel2 HU
            go_wp2_with fail
            go_roundw
            case rel => exact ⟨q + 1, acc ++ ys, by omega, by go_num, Lib.hid HES2.out.symm, by simp; omega, by rw [HDS2.out]; rfl, hown3, hbel3, HB3⟩
            case measure => simp [intOf]; omega
        · obtain rfl : q = xs.length := by omega
          have htk : xs.take xs.length = xs := List.take_length
          rw [htk] at HA
          rw [htk]
          have hIn := Ints.of_own hown
          obtain ⟨An, cn, rfl, _⟩ := id hIn
          have HIN := Lib.hid hIn
          have hbelw := below_next hbel hbelq
          clear hIn hown htk
          cases hd : doneB T.decomps xs
          · rw [hd, if_neg (by simp), ← HA.out] at HFS
            by_cases h18 : 18 < acc.length
            · rw [if_pos h18] at HFS
              have p1 : (18 : Int) < (acc.length : Int) := by omega
              clear hd h18
              go_wp2_with fail
              go_ret2
              rw [HFS.out]
              exact ⟨_, rfl, Ints.none_, hbelw⟩
            · rw [if_neg h18] at HFS
              have p1 : (acc.length : Int) ≤ 18 := by omega
              clear hd
              go_wp2_with fail
              go_roundw
              case rel => exact ⟨r + 1, acc, An, cn, by omega, by go_num, rfl, by omega, Lib.hid HFS.out.symm, HIN, hbelw, HBq⟩
              case measure => simp [intOf]; omega
          · rw [hd, if_pos rfl] at HFS
            have HIX := Lib.hid (HIW.out _ hbelq)
            clear hd
            go_wp2_with fail
            go_ret2
            rw [HFS.out]
            exact ⟨_, rfl, HIX.out, hbelw⟩
    · have HN := Lib.hid HS.out
      have e0 : 257 - r = 0 := by omega
      rw [e0] at HN
      have p0 : (256 : Int) < (r : Int) := by omega
      clear e0
      go_wp2_with fail
      go_ret2
      rw [← HN.out]
      exact ⟨_, rfl, Ints.none_, hbel⟩
end Go.Proofs.YtkdhldhbjomiaaaDoor
