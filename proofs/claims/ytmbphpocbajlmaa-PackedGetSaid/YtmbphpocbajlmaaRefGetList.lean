/-
  The walk through the reference's GetList.
-/
import Derived.Test.YtmbphpocbajlmaaRefGet
import Derived.Test.YtmbphpocbajlmaaPkGetList
import Derived.Test.YtmbphpocbajlmaaPkPutList
namespace Go.Proofs.Ytmbphpocbajlmaa
open Go.RowKit ND

theorem below_own {a w w' : World} {e : TypeId} {size : Nat} {v : Value} {n : Nat} {xs : List Value} (hb : Below a.heap.size a w) (hown : w.ownsRow a.heap.size e size v n xs) {o : Obj} (hg : (w.alloc o).grownBy w' v.ownBlock) : Below a.heap.size a w' :=
  (hb.alloc hb.size _).grown hg (by have := hb.size; simp; omega) (fun k hk => (hown.lt k hk).1)

set_option maxRecDepth 100000 in
set_option maxHeartbeats 2000000 in
theorem refGetList_any (s : ByteArray) (at_ : Int) (w : World) (hs : s.size ≤ maxLen) :
    Calls Try.prog 60 #[.string s, .int .i64 at_] w (RetGet w (getList s.data.toList at_)) := by
  obtain ⟨i0, hi, hz0, hz1, hz2⟩ := info_parts Try.infoInt'
  have hget := Lib.hid (fun W => refGetInt_any s at_ W hs)
  obtain ⟨n, q, e, hg⟩ : ∃ n q e, getInt s.data.toList at_ = (n, q, e) := ⟨_, _, _, rfl⟩
  rw [hg] at hget
  unfold tri at hget
  simp only at hget
  have HG := Lib.hid hg; clear hg
  go_enter Try.func60, Try.ntmps60
  go_wp2_with fail
  refine (hget.out _).mono ?_
  rintro r w1 ⟨rfl, rfl⟩
  clear hget
  by_cases he : e = 0
  · subst he
    by_cases hn : n < 0 ∨ 4096 < n
    · have HR := Lib.hid (getList_form HG.out hn)
      have hn' : (n < 0 ∧ decide (n < 0) = true) ∨ (4096 < n ∧ decide (n < 0) = false ∧ decide (4096 < n) = true) := by
        rcases hn with h | h
        · exact .inl ⟨h, by simp; omega⟩
        · exact .inr ⟨h, by simp; omega, by simp; omega⟩
      clear hn
      rcases hn' with ⟨hn, hd⟩ | ⟨hn, hd, hd'⟩
      all_goals
        go_wp2_with fail
        go_ret3
        rw [HR.out]
        exact ⟨_, rfl, Ints.none_, Below.refl _ _⟩
    · obtain ⟨m, rfl⟩ := Int.eq_ofNat_of_zero_le (show 0 ≤ n by omega)
      have hm : m ≤ 4096 := by omega
      have HR := Lib.hid (getList_go HG.out hm)
      have hd0 : decide ((m : Int) < 0) = false := by simp
      have hd : decide (4096 < (m : Int)) = false := by simp; omega
      clear hn
      go_wp2_with fail
      go_loopw [8, 10, 11, 12] (fun iv out lv kv wr => ∃ (k : Nat) (last p : Int) (acc : List Int), k ≤ m ∧ kv = .int .i64 k ∧ lv = .int .i64 last ∧ iv = .int .i64 p ∧ -1073741824 ≤ last ∧ last ≤ 1073741824 ∧ wr.ownsRow w.heap.size 3 1 out acc.length (acc.map (Value.int .i64)) ∧ acc.length ≤ k ∧
          Hid (finL at_ acc (getL s.data.toList (m - k) last p) = finL at_ [] (getL s.data.toList m 0 q)) ∧ Below w.heap.size w wr) (fun _ _ _ kv _ => m - (intOf kv).toNat)
      case atStart => exact ⟨0, 0, q, [], by omega, rfl, rfl, rfl, by omega, by omega, World.ownsRow_nil _ _ _ _, by simp, Lib.hid rfl, Below.refl _ _⟩
      case round =>
        obtain ⟨k, last, p, acc, hk, rfl, rfl, rfl, hl1, hl2, hown, hal, HU, hbel⟩ := hrel
        by_cases hlt : k < m
        · have hget := Lib.hid (fun W => refGetInt_any s p W hs)
          obtain ⟨d, q1, e, hg⟩ : ∃ d q1 e, getInt s.data.toList p = (d, q1, e) := ⟨_, _, _, rfl⟩
          rw [hg] at hget
          unfold tri at hget
          simp only at hget
          have HG1 := Lib.hid hg; clear hg
          obtain ⟨j, hj⟩ : ∃ j, m - k = j + 1 := ⟨m - k - 1, by omega⟩
          rw [hj] at HU
          have HJ := Lib.hid hj; clear hj
          go_wp2_with fail
          refine (hget.out _).mono ?_
          rintro r w1 ⟨rfl, rfl⟩
          clear hget
          by_cases he : e = 0
          · subst he
            cases hok : okD last d
            · have HX : Hid (getList s.data.toList at_ = ([], at_, 4)) := Lib.hid (by rw [HR.out, ← HU.out, finL_form HG1.out hok])
              have hcase : (d < -2147483648 ∧ decide (d < -2147483648) = true) ∨ (2147483648 < d ∧ decide (d < -2147483648) = false ∧ decide (2147483648 < d) = true) ∨ (-2147483648 ≤ d ∧ d ≤ 2147483648 ∧ fitsB (last + d) = false) := by
                unfold okD at hok
                rw [Bool.and_eq_false_iff] at hok
                by_cases a : -2147483648 ≤ d
                · by_cases b : d ≤ 2147483648
                  · refine .inr (.inr ⟨a, b, hok.resolve_left ?_⟩)
                    simp; omega
                  · exact .inr (.inl ⟨by omega, by simp; omega, by simp; omega⟩)
                · exact .inl ⟨by omega, by simp; omega⟩
              clear hok
              rcases hcase with ⟨h1, h2⟩ | ⟨h1, h2, h3⟩ | ⟨h1, h2, h3⟩
              · go_wp2_with fail
                go_ret3
                rw [HX.out]
                exact ⟨_, rfl, Ints.none_, hbel⟩
              · go_wp2_with fail
                go_ret3
                rw [HX.out]
                exact ⟨_, rfl, Ints.none_, hbel⟩
              · have hft := Lib.hid (fun W => moderate_any (last + d) W)
                rw [h3] at hft
                have h4 : decide (d < -2147483648) = false := by simp; omega
                have h5 : decide (2147483648 < d) = false := by simp; omega
                clear h3
                go_wp2_with fail
                refine (hft.out _).mono ?_
                rintro r w2 ⟨rfl, rfl⟩
                go_wp2_with fail
                go_ret3
                rw [HX.out]
                exact ⟨_, rfl, Ints.none_, hbel⟩
            · have hr : -2147483648 ≤ d ∧ d ≤ 2147483648 ∧ fitsB (last + d) = true := by
                unfold okD at hok
                rw [Bool.and_eq_true, decide_eq_true_eq] at hok
                exact ⟨hok.1.1, hok.1.2, hok.2⟩
              have HX : Hid (finL at_ (acc ++ [last + d]) (getL s.data.toList (m - (k + 1)) (last + d) q1) = finL at_ [] (getL s.data.toList m 0 q)) :=
                Lib.hid (by rw [← HU.out, finL_go HG1.out hok, show m - (k + 1) = j by have := HJ.out; omega])
              obtain ⟨h1, h2, h3⟩ := hr
              have hft := Lib.hid (fun W => moderate_any (last + d) W)
              rw [h3] at hft
              have hf2 := (fitsB_iff _).1 h3
              have h4 : decide (d < -2147483648) = false := by simp; omega
              have h5 : decide (2147483648 < d) = false := by simp; omega
              clear h3 hok HU
              go_wp2_with fail
              refine (hft.out _).mono ?_
              rintro r w2 ⟨rfl, rfl⟩
              go_wp2_with (at_builtin; refine wpList_append_own _ rfl _ _ 35 rfl w.heap.size 3 i0 (.int .i64 0) 1 8 Try.underlying35 hi hz0 hz1 hz2 rfl (by decide) _ _ _ rfl (hown.alloc _) ⟨wr.heap.size, 0, none⟩ 1 1 [.int .i64 (last + d)] rfl rfl (cell_one_new _ _ _) ?c1 ?c2 ?c3 ?c4 ?_)
              case c1 => intro u hu; simp at hu; subst hu; rfl
              case c2 => unfold maxLen; omega
              case c3 => omega
              case c4 => have := hbel.size; simp; omega
              intro v' w2 hown2 hgrow _
              have hbel2 : Below w.heap.size w w2 := below_own hbel hown hgrow
              clear hgrow hown hbel
              go_wp2_with fail
              go_roundw
              case rel => exact ⟨k + 1, last + d, q1, acc ++ [last + d], by omega, by go_num, rfl, rfl, by omega, by omega, by simpa using hown2, by simp; omega, HX, hbel2⟩
              case measure => simp [intOf]; omega
          · have HX : Hid (getList s.data.toList at_ = ([], at_, e)) := Lib.hid (by rw [HR.out, ← HU.out, finL_err HG1.out he])
            have hne' : (e != 0) = true := by rw [bne_iff_ne]; exact he
            go_wp2_with fail
            go_ret3
            rw [HX.out]
            exact ⟨_, rfl, Ints.none_, hbel⟩
        · obtain rfl : k = m := by omega
          have HX : Hid (getList s.data.toList at_ = (acc, p, 0)) := by
            refine Lib.hid ?_
            rw [HR.out, ← HU.out, Nat.sub_self, finL_end]
          go_wp2_with fail
          go_ret3
          rw [HX.out]
          exact ⟨_, rfl, Ints.of_own hown, hbel⟩
  · have HR := Lib.hid (getList_err HG.out he)
    have hne' : (e != 0) = true := by rw [bne_iff_ne]; exact he
    go_wp2_with fail
    go_ret3
    rw [HR.out]
    exact ⟨_, rfl, Ints.none_, Below.refl _ _⟩
end Go.Proofs.Ytmbphpocbajlmaa
