/-
  The walks through packed.PutList and the document's PutList.
-/
import Derived.Test.YtmbphpocbajlmaaPkRefPut
import Derived.Test.YtmbphpocbajlmaaPkGetList
namespace Go.Proofs.Ytmbphpocbajlmaa
open Go.RowKit ND

/-- A string and an error come back. -/
def RetPut (w : World) (r : List UInt8 × Int) (e : Ending) (w' : World) : Prop :=
  e = .returned (.tuple #[.string ⟨r.1.toArray⟩, .int .i64 r.2]) ∧ Below w.heap.size w w'

theorem drop_of_get {α : Type} {xs : List α} {k : Nat} {x : α} (h : xs[k]? = some x) : xs.drop k = x :: xs.drop (k + 1) := by
  obtain ⟨a, a'⟩ := List.getElem?_eq_some_iff.1 h
  rw [List.drop_eq_getElem_cons a, a']
theorem sz_list (s : ByteArray) : s.data.toList.length = s.size := by rw [Array.length_toList]; rfl
theorem putInt_len (l : List UInt8) (v : Int) : (putInt l v).length ≤ l.length + 10 := by
  have := (encU_len 9 (zz v)).2
  simp [putInt]; omega
theorem putList_full {b : List UInt8} {xs : List Int} (h : 4096 < xs.length) : putList b xs = ([], 7) := by unfold putList; rw [if_pos h]
theorem putList_range {b : List UInt8} {xs : List Int} (h : xs.length ≤ 4096) (ha : xs.all fitsB = false) : putList b xs = ([], 3) := by unfold putList; rw [if_neg (by omega), if_neg (by simp [ha])]
theorem putList_ok {b : List UInt8} {xs : List Int} (h : xs.length ≤ 4096) (ha : xs.all fitsB = true) : putList b xs = (putAll (putInt b xs.length) (diffs 0 xs), 0) := by unfold putList; rw [if_neg (by omega), if_pos ha]
theorem all_no {α : Type} {f : α → Bool} {xs : List α} {k : Nat} {x : α} (hx : xs[k]? = some x) (h : (xs.drop k).all f = xs.all f) (hf : f x = false) : xs.all f = false := by
  rw [← h, drop_of_get hx]; simp [hf]
theorem all_yes {α : Type} {f : α → Bool} {xs : List α} {k : Nat} {x : α} (hx : xs[k]? = some x) (h : (xs.drop k).all f = xs.all f) (hf : f x = true) : (xs.drop (k + 1)).all f = xs.all f := by
  rw [← h, drop_of_get hx]; simp [hf]
theorem all_end {α : Type} {f : α → Bool} {xs : List α} {k : Nat} (hk : xs.length ≤ k) (h : (xs.drop k).all f = xs.all f) : xs.all f = true := by
  rw [← h, List.drop_eq_nil_of_le hk]; rfl
theorem put_more {xs : List Int} {k : Nat} {x last : Int} {acc R : List UInt8} (hx : xs[k]? = some x) (h : putAll acc (diffs last (xs.drop k)) = R) : putAll (putInt acc (x - last)) (diffs x (xs.drop (k + 1))) = R := by
  rw [drop_of_get hx] at h; exact h
theorem put_end {xs : List Int} {k : Nat} {last : Int} {acc R : List UInt8} (hk : xs.length ≤ k) (h : putAll acc (diffs last (xs.drop k)) = R) : acc = R := by
  rw [List.drop_eq_nil_of_le hk] at h; exact h

set_option maxRecDepth 100000 in
set_option maxHeartbeats 1000000 in
theorem putList_any (b : ByteArray) (v : Value) (xs : List Int) (w : World) (hv : Ints w w.heap.size .i64 v xs) (hs : b.size + 10 * xs.length + 20 ≤ 140737488355328) :
    Calls Try.prog 28 #[.string b, v] w (RetPut w (putList b.data.toList xs)) := by
  obtain ⟨A, c, rfl, hc1, hc2, _, hcell⟩ := hv
  have HC := Lib.hid hcell; clear hcell
  clear hc1 hc2
  by_cases hl : 4096 < xs.length
  · rw [putList_full hl]
    go_enter Try.func28, Try.ntmps28
    go_wp2_with fail
    go_ret2
    exact ⟨rfl, Below.refl _ _⟩
  · have hl' : xs.length ≤ 4096 := by omega
    clear hl
    obtain ⟨Z, hZ⟩ : ∃ Z, Z = putList b.data.toList xs := ⟨_, rfl⟩
    rw [← hZ]
    have HZ := Lib.hid hZ; clear hZ
    go_enter Try.func28, Try.ntmps28
    go_wp2_with fail
    go_loopw [16] (fun i wr => ∃ k : Nat, k ≤ xs.length ∧ i = .int .i64 k ∧ Hid ((xs.drop k).all fitsB = xs.all fitsB) ∧ w = wr) (fun i _ => xs.length - (intOf i).toNat)
    case atStart => exact ⟨0, by omega, rfl, Lib.hid rfl, rfl⟩
    case round =>
      obtain ⟨k, hk, rfl, HA, rfl⟩ := hrel
      by_cases hlt : k < xs.length
      · obtain ⟨x, hxk, _⟩ := get_of hlt
        obtain ⟨ad, rfl, ha, hce⟩ := HC.out k x hxk
        have HX := Lib.hid hxk
        have hft := Lib.hid (fun W => fits_any x W)
        clear hxk ha
        by_cases hf : fitsB x = true
        · rw [hf] at hft
          have HA' := Lib.hid (all_yes HX.out HA.out hf)
          clear hf
          go_wp2_with fail
          refine (hft.out _).mono ?_
          rintro e w1 ⟨rfl, rfl⟩
          go_wp2_with fail
          go_roundw
          case rel => exact ⟨k + 1, by omega, by go_num, HA', by first | rfl | trivial⟩
          case measure => simp [intOf]; omega
        · have hf' : fitsB x = false := by simpa using hf
          rw [hf'] at hft
          have HA' := Lib.hid (putList_range (b := b.data.toList) hl' (all_no HX.out HA.out hf'))
          clear hf hf'
          go_wp2_with fail
          refine (hft.out _).mono ?_
          rintro e w1 ⟨rfl, rfl⟩
          go_wp2_with fail
          go_ret2
          rw [HZ.out, HA'.out]
          exact ⟨rfl, Below.refl _ _⟩
      · have HA' := Lib.hid (putList_ok (b := b.data.toList) hl' (all_end (by omega) HA.out))
        have hfa := Lib.hid (all_end (by omega) HA.out)
        have hp := Lib.hid (fun W => putInt_any b (xs.length : Int) W (by omega) (by omega) (by omega))
        have hpl := putInt_len b.data.toList (xs.length : Int)
        rw [sz_list] at hpl
        obtain ⟨R, hR⟩ : ∃ R, R = putAll (putInt b.data.toList xs.length) (diffs 0 xs) := ⟨_, rfl⟩
        rw [← hR] at HA'
        obtain ⟨S, hS⟩ : ∃ S : ByteArray, S = ⟨(putInt b.data.toList (xs.length : Int)).toArray⟩ := ⟨_, rfl⟩
        have hSl : S.data.toList = putInt b.data.toList (xs.length : Int) := by rw [hS]
        have HS : Hid (putAll S.data.toList (diffs 0 xs) = R) := Lib.hid (by rw [hSl, hR])
        have hSs : S.size ≤ b.size + 10 := by rw [← sz_list, hSl]; exact hpl
        rw [← hS] at hp
        clear hR hS hSl hpl HA
        go_wp2_with fail
        refine (hp.out _).mono ?_
        rintro e w1 ⟨rfl, b1⟩
        clear hp
        go_wp2_with fail
        go_loopw [0, 8, 30] (fun s lv i wr => ∃ (k : Nat) (last : Int) (acc : ByteArray), k ≤ xs.length ∧ i = .int .i64 k ∧ lv = .int .i64 last ∧ s = .string acc ∧ -1073741824 ≤ last ∧ last ≤ 1073741824 ∧ acc.size ≤ b.size + 10 * k + 10 ∧
          Hid (putAll acc.data.toList (diffs last (xs.drop k)) = R) ∧ Below w.heap.size w wr) (fun _ _ i _ => xs.length - (intOf i).toNat)
        case atStart => exact ⟨0, 0, S, by omega, rfl, rfl, rfl, by omega, by omega, by omega, HS, b1⟩
        case round =>
          obtain ⟨k, last, acc, hk, rfl, rfl, rfl, hl1, hl2, hac, HU, hbel⟩ := hrel
          by_cases hlt : k < xs.length
          · obtain ⟨x, hxk, hxm⟩ := get_of hlt
            obtain ⟨ad, rfl, ha, hce⟩ := HC.out k x hxk
            have e1 := (hbel.cell (p := ad.add k) (by rw [block_of_add]; exact ha)).trans hce
            have hfx := (fitsB_iff x).1 (List.all_eq_true.1 hfa.out x hxm)
            have HX := Lib.hid (put_more hxk HU.out)
            clear hxk hxm ha hce HU
            have hp := Lib.hid (fun W => putInt_any acc (x - last) W (by omega) (by omega) (by omega))
            have hpl := putInt_len acc.data.toList (x - last)
            rw [sz_list] at hpl
            obtain ⟨S', hS'⟩ : ∃ S : ByteArray, S = ⟨(putInt acc.data.toList (x - last)).toArray⟩ := ⟨_, rfl⟩
            have hSl' : S'.data.toList = putInt acc.data.toList (x - last) := by rw [hS']
            have hSs' : S'.size ≤ acc.size + 10 := by rw [← sz_list, hSl']; exact hpl
            rw [← hSl'] at HX
            rw [← hS'] at hp
            clear hS' hSl' hpl
            obtain ⟨hfx1, hfx2⟩ := hfx
            go_wp2_with fail
            refine (hp.out _).mono ?_
            rintro e w2 ⟨rfl, b2⟩
            have hbel2 := below_next hbel b2
            clear hp b2 hbel
            go_wp2_with fail
            go_roundw
            case rel => exact ⟨k + 1, x, S', by omega, by go_num, rfl, rfl, hfx1, hfx2, by omega, HX, hbel2⟩
            case measure => simp [intOf]; omega
          · have HE := Lib.hid (put_end (by omega) HU.out)
            go_wp2_with fail
            go_ret2
            rw [HZ.out, HA'.out, ← HE.out]
            exact ⟨rfl, hbel⟩

set_option maxHeartbeats 400000 in
theorem moderate_any (v : Int) (w : World) : Calls Try.prog 52 #[.int .i64 v] w fun e w' => e = .returned (.bool (fitsB v)) ∧ w = w' := by
  go_enter Try.func52, Try.ntmps52
  go_wp2
  all_goals go_ret
  all_goals refine ⟨ret_bool (bool_eq ?_), rfl⟩
  all_goals rw [fitsB_iff]
  all_goals simp
  all_goals omega

set_option maxRecDepth 100000 in
set_option maxHeartbeats 1000000 in
theorem refPutList_any (b : ByteArray) (v : Value) (xs : List Int) (w : World) (hv : Ints w w.heap.size .i64 v xs) (hs : b.size + 10 * xs.length + 20 ≤ 140737488355328) :
    Calls Try.prog 29 #[.string b, v] w (RetPut w (putList b.data.toList xs)) := by
  obtain ⟨A, c, rfl, hc1, hc2, _, hcell⟩ := hv
  have HC := Lib.hid hcell; clear hcell
  clear hc1 hc2
  by_cases hl : 4096 < xs.length
  · rw [putList_full hl]
    go_enter Try.func29, Try.ntmps29
    go_wp2_with fail
    go_ret2
    exact ⟨rfl, Below.refl _ _⟩
  · have hl' : xs.length ≤ 4096 := by omega
    clear hl
    obtain ⟨Z, hZ⟩ : ∃ Z, Z = putList b.data.toList xs := ⟨_, rfl⟩
    rw [← hZ]
    have HZ := Lib.hid hZ; clear hZ
    have hp := Lib.hid (fun W => refPutInt_any b (xs.length : Int) W (by omega) (by omega) (by omega))
    have hpl := putInt_len b.data.toList (xs.length : Int)
    rw [sz_list] at hpl
    obtain ⟨R, hR⟩ : ∃ R, R = putAll (putInt b.data.toList xs.length) (diffs 0 xs) := ⟨_, rfl⟩
    obtain ⟨S, hS⟩ : ∃ S : ByteArray, S = ⟨(putInt b.data.toList (xs.length : Int)).toArray⟩ := ⟨_, rfl⟩
    have hSl : S.data.toList = putInt b.data.toList (xs.length : Int) := by rw [hS]
    have HS : Hid (putAll S.data.toList (diffs 0 xs) = R) := Lib.hid (by rw [hSl, hR])
    have hSs : S.size ≤ b.size + 10 := by rw [← sz_list, hSl]; exact hpl
    rw [← hS] at hp
    have HR := Lib.hid hR
    clear hR hS hSl hpl
    go_enter Try.func29, Try.ntmps29
    go_wp2_with fail
    refine (hp.out _).mono ?_
    rintro e w1 ⟨rfl, b1⟩
    clear hp
    go_wp2_with fail
    go_loopw [6, 7, 19] (fun s lv i wr => ∃ (k : Nat) (last : Int) (acc : ByteArray), k ≤ xs.length ∧ i = .int .i64 k ∧ lv = .int .i64 last ∧ s = .string acc ∧ -1073741824 ≤ last ∧ last ≤ 1073741824 ∧ acc.size ≤ b.size + 10 * k + 10 ∧
      Hid (putAll acc.data.toList (diffs last (xs.drop k)) = R) ∧ Hid ((xs.drop k).all fitsB = xs.all fitsB) ∧ Below w.heap.size w wr) (fun _ _ i _ => xs.length - (intOf i).toNat)
    case atStart => exact ⟨0, 0, S, by omega, rfl, rfl, rfl, by omega, by omega, by omega, HS, Lib.hid rfl, b1⟩
    case round =>
      obtain ⟨k, last, acc, hk, rfl, rfl, rfl, hl1, hl2, hac, HU, HA, hbel⟩ := hrel
      by_cases hlt : k < xs.length
      · obtain ⟨x, hxk, hxm⟩ := get_of hlt
        obtain ⟨ad, rfl, ha, hce⟩ := HC.out k x hxk
        have e1 := (hbel.cell (p := ad.add k) (by rw [block_of_add]; exact ha)).trans hce
        have hft := Lib.hid (fun W => moderate_any x W)
        have HK := Lib.hid hxk
        clear hce ha hxk hxm
        by_cases hf : fitsB x = true
        · rw [hf] at hft
          have HA' := Lib.hid (all_yes HK.out HA.out hf)
          obtain ⟨hfx1, hfx2⟩ := (fitsB_iff x).1 hf
          have HX := Lib.hid (put_more HK.out HU.out)
          clear hf HU
          have hp := Lib.hid (fun W => refPutInt_any acc (x - last) W (by omega) (by omega) (by omega))
          have hpl := putInt_len acc.data.toList (x - last)
          rw [sz_list] at hpl
          obtain ⟨S', hS'⟩ : ∃ S : ByteArray, S = ⟨(putInt acc.data.toList (x - last)).toArray⟩ := ⟨_, rfl⟩
          have hSl' : S'.data.toList = putInt acc.data.toList (x - last) := by rw [hS']
          have hSs' : S'.size ≤ acc.size + 10 := by rw [← sz_list, hSl']; exact hpl
          rw [← hSl'] at HX
          rw [← hS'] at hp
          clear hS' hSl' hpl
          go_wp2_with fail
          refine (hft.out _).mono ?_
          rintro e w2 ⟨rfl, rfl⟩
          go_wp2_with fail
          refine (hp.out _).mono ?_
          rintro e w2 ⟨rfl, b2⟩
          have hbel2 := below_next hbel b2
          clear hp b2 hbel
          go_wp2_with fail
          go_roundw
          case rel => exact ⟨k + 1, x, S', by omega, by go_num, rfl, rfl, hfx1, hfx2, by omega, HX, HA', hbel2⟩
          case measure => simp [intOf]; omega
        · have hf' : fitsB x = false := by simpa using hf
          rw [hf'] at hft
          have HA' := Lib.hid (putList_range (b := b.data.toList) hl' (all_no HK.out HA.out hf'))
          clear hf hf'
          go_wp2_with fail
          refine (hft.out _).mono ?_
          rintro e w1 ⟨rfl, rfl⟩
          go_wp2_with fail
          go_ret2
          rw [HZ.out, HA'.out]
          exact ⟨rfl, hbel⟩
      · have HE := Lib.hid (put_end (by omega) HU.out)
        have HA' := Lib.hid (putList_ok (b := b.data.toList) hl' (all_end (by omega) HA.out))
        go_wp2_with fail
        go_ret2
        rw [HZ.out, HA'.out, ← HR.out, ← HE.out]
        exact ⟨rfl, hbel⟩
end Go.Proofs.Ytmbphpocbajlmaa
