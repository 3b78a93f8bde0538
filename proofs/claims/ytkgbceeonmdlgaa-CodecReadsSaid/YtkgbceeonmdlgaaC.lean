/-
  CODEC: whatever is read is the document's answer.
-/
import Derived.Test.YtkgbceeonmdlgaaA
import Derived.Test.YtkgbceeonmdlgaaDetU
set_option maxRecDepth 100000
set_option maxHeartbeats 4000000
set_option linter.unusedSimpArgs false
set_option linter.unusedVariables false
namespace Go.Proofs.Ytkgbceeonmdlgaa
open Go.Det Go.Det.K

theorem l8 (k : Nat) (M : Mem) (S : List UInt8) (hS : S.length < 2 ^ 48) (bound : Int) (v : AV) (l : List Int) (hv : WS M i64 v l) (hl : l.length ≤ 40) (fr fx : Bool) (j : Nat) : ∀ (i n : Nat) (x : Xd), i + j = l.length → j < n → x.1 ≤ S.length →
    fgt a8_0 (rnd0 (some (e8_0 (.str S) (.int .i64 bound) (.ptr (some ⟨M.length, 4004, 2, 0⟩)) (.ptr (some ⟨M.length, 4016, 3, 0⟩)) v (.int .i64 l.length) (.int .i64 i), mk [(4004, .cells [.str (S.drop x.1), .int .i64 x.2] true fr), (4016, .cells [.str S, .int .i64 (x.1 : Nat), .int .i64 x.2] true fx)] :: M)) k8_0 (callFn SP (k + 6)) s8_b0 n) =
      some (.exit 0, x8_0 .dead, mk [] :: M) := by
  induction j with
  | zero =>
    intro i n x h hn hx
    obtain rfl : i = l.length := by omega
    rw [rnd0_some]
    conv => lhs; arg 2; arg 1; rw [s8_b0]
    simp
  | succ j ih0 =>
    intro i n x h hn hx
    obtain ⟨n, rfl⟩ : ∃ m, n = m + 1 := ⟨n - 1, by omega⟩
    have hi : i < l.length := by omega
    rcases hv with ⟨w, rfl, rfl⟩ | ⟨w, rfl, rfl⟩ | ⟨d, id, z, rw_, fl, r, rfl, hd, hg⟩
    · simp at hi
    · simp at hi
    have ga := map_app_get i64 l r i hi
    have hn1 : d ≠ M.length := by omega
    have hx2 : (S.drop x.1).length < 2 ^ 48 := by rw [List.length_drop]; omega
    have e1 : rtext (S.drop x.1, x.2) = ((xwords S x).1, S.drop (xwords S x).2.1, (xwords S x).2.2) := rtext_eq S x hx
    have e2 : rnum (S.drop x.1, x.2) = ((xnum S x).1, S.drop (xnum S x).2.1, (xnum S x).2.2) := rnum_eq S x hx
    have e3 : rbelow bound (S.drop x.1, x.2) = ((xbelow S bound x).1, S.drop (xbelow S bound x).2.1, (xbelow S bound x).2.2) := rbelow_eq S x bound hx
    have f1 := xwords_le S x hx
    have f2 := xnum_le S x hx
    have f3 := xbelow_le S bound x hx
    have key : ∀ y : Xd, y.1 ≤ S.length → rdone (S.drop y.1, y.2) = xdone S y ∧ ((S.length - y.1 : Nat) : Int) = S.length - y.1 := fun y hy => ⟨rdone_eq S y hy, by omega⟩
    by_cases c1 : (nth l i).tmod 4 = 1
    · have ih := ih0 (i + 1) n (xnum S x).2 (by omega) (by omega) f2
      obtain ⟨t, ⟨a, b⟩, he⟩ : ∃ t y, xnum S x = (t, y) := ⟨_, _, rfl⟩
      rw [he] at ih e2 f2
      have kk := key (a, b) f2
      simp only at kk ih e2 f2
      rw [rnd0_some]
      conv => lhs; arg 2; arg 1; rw [s8_b0]
      simpa (disch := first | omega | (simp; done) | (simp; omega)) [hi, get_low, hd, hg, ga, if_pos, hn1, IntWalk.i64_in, i64, getElem_nth l, c1, rnmT, xnmT, e2, he, dneT, xdnT, lftT, kk.1, kk.2] using ih
    by_cases c2 : (nth l i).tmod 4 = -1
    · have ih := ih0 (i + 1) n (xnum S x).2 (by omega) (by omega) f2
      obtain ⟨t, ⟨a, b⟩, he⟩ : ∃ t y, xnum S x = (t, y) := ⟨_, _, rfl⟩
      rw [he] at ih e2 f2
      have kk := key (a, b) f2
      simp only at kk ih e2 f2
      rw [rnd0_some]
      conv => lhs; arg 2; arg 1; rw [s8_b0]
      simpa (disch := first | omega | (simp; done) | (simp; omega)) [hi, get_low, hd, hg, ga, if_pos, hn1, IntWalk.i64_in, i64, getElem_nth l, c2, rnmT, xnmT, e2, he, dneT, xdnT, lftT, kk.1, kk.2] using ih
    by_cases c3 : (nth l i).tmod 4 = 2
    · have ih := ih0 (i + 1) n (xbelow S bound x).2 (by omega) (by omega) f3
      obtain ⟨t, ⟨a, b⟩, he⟩ : ∃ t y, xbelow S bound x = (t, y) := ⟨_, _, rfl⟩
      rw [he] at ih e3 f3
      have kk := key (a, b) f3
      simp only at kk ih e3 f3
      rw [rnd0_some]
      conv => lhs; arg 2; arg 1; rw [s8_b0]
      simpa (disch := first | omega | (simp; done) | (simp; omega)) [hi, get_low, hd, hg, ga, if_pos, hn1, IntWalk.i64_in, i64, getElem_nth l, c3, blwT, xblT, e3, he, dneT, xdnT, lftT, kk.1, kk.2] using ih
    by_cases c4 : (nth l i).tmod 4 = -2
    · have ih := ih0 (i + 1) n (xbelow S bound x).2 (by omega) (by omega) f3
      obtain ⟨t, ⟨a, b⟩, he⟩ : ∃ t y, xbelow S bound x = (t, y) := ⟨_, _, rfl⟩
      rw [he] at ih e3 f3
      have kk := key (a, b) f3
      simp only at kk ih e3 f3
      rw [rnd0_some]
      conv => lhs; arg 2; arg 1; rw [s8_b0]
      simpa (disch := first | omega | (simp; done) | (simp; omega)) [hi, get_low, hd, hg, ga, if_pos, hn1, IntWalk.i64_in, i64, getElem_nth l, c4, blwT, xblT, e3, he, dneT, xdnT, lftT, kk.1, kk.2] using ih
    · have ih := ih0 (i + 1) n (xwords S x).2 (by omega) (by omega) f1
      obtain ⟨t, ⟨a, b⟩, he⟩ : ∃ t y, xwords S x = (t, y) := ⟨_, _, rfl⟩
      rw [he] at ih e1 f1
      have kk := key (a, b) f1
      simp only at kk ih e1 f1
      rw [rnd0_some]
      conv => lhs; arg 2; arg 1; rw [s8_b0]
      simpa (disch := first | omega | (simp; done) | (simp; omega)) [hi, get_low, hd, hg, ga, if_pos, hn1, IntWalk.i64_in, i64, getElem_nth l, c1, c2, c3, c4, rtxT, xwdT, e1, he, dneT, xdnT, lftT, kk.1, kk.2] using ih

theorem law8 (k : Nat) (M : Mem) (S : List UInt8) (hS : S.length < 2 ^ 48) (bound : Int) (v : AV) (l : List Int) (hv : WS M i64 v l) (hl : l.length < 2 ^ 48) : callFn SP (k + 7) 8 [.str S, v, .int .i64 bound] M = some (.bool true, [], M) := by
  rw [call_fn (by rfl) (by simp)]
  rcases hv with ⟨w, rfl, rfl⟩ | ⟨w, rfl, rfl⟩ | ⟨d, id, z, rw_, fl, r, rfl, hd, hg⟩
  · have hlp := l8 k M S hS bound (.slice none 0 1) [] (.inl ⟨1, rfl, rfl⟩) (by simp) true true 0 0 1 (0, 0) rfl (by omega) (by simp)
    simp (disch := omega) [newr, rc, wakes, if_pos, show min (0 : Int) 40 = 0 from rfl]
    rw [ev_loop 1 (by simp) hlp (by omega)]
    simp
  · have hlp := l8 k M S hS bound (.slice0 1) [] (.inr (.inl ⟨1, rfl, rfl⟩)) (by simp) true true 0 0 1 (0, 0) rfl (by omega) (by simp)
    simp (disch := omega) [newr, rc, wakes, if_pos, show min (0 : Int) 40 = 0 from rfl]
    rw [ev_loop 1 (by simp) hlp (by omega)]
    simp
  · have hv := WS.take (l := l) (M := M) (f := i64) (d := d) (id := id) (z := z) 40 hd hg rfl
    have hlp := l8 k M S hS bound _ (l.take 40) hv (by rw [List.length_take]; omega) true true (l.take 40).length 0 41 (0, 0) (by omega) (by rw [List.length_take]; omega) (by simp)
    rw [show min 40 l.length = (l.take 40).length from (List.length_take).symm] at hlp
    by_cases h : l.length < 40
    · simp (disch := omega) [newr, rc, wakes, if_pos, h, hd, hg, get_low]
      rw [List.take_of_length_le (by omega)] at hlp
      rw [ev_loop 41 (by simp [show d ≠ M.length by omega]) hlp (by omega)]
      simp
    · simp (disch := omega) [newr, rc, wakes, if_pos, h, hd, hg, get_low]
      rw [show (l.take 40).length = 40 by rw [List.length_take]; omega] at hlp
      rw [ev_loop 41 (by simp [show d ≠ M.length by omega]) hlp (by omega)]
      simp

theorem ev_CodecReads (s : Scope) (args : List AV) (h : ArgsShp s [.str, .sl (.int .i64), .int .i64] args) : ∃ k M', callFn SP k 8 args [s, mk []] = some (.bool true, [], M') := by
  obtain ⟨_, _, rfl, h1, _, _, rfl, h2, _, _, rfl, h3, rfl⟩ := h
  obtain ⟨S, rfl, hS⟩ := ArgShp_str h1
  obtain ⟨l, hv, hl⟩ := ArgShp_sli64 (mk []) h2
  obtain ⟨n, rfl, _⟩ := ArgShp_i64 h3
  unfold reachBytes at hS hl
  exact ⟨7, _, law8 0 [s, mk []] S (by omega) n _ l hv (by omega)⟩

end Go.Proofs.Ytkgbceeonmdlgaa
