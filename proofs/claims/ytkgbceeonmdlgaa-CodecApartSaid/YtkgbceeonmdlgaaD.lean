/-
  CODEC: what is cut off is met as that; unlike lists are written unlike.
-/
import Derived.Test.YtkgbceeonmdlgaaA
import Derived.Test.YtkgbceeonmdlgaaDetU
set_option maxRecDepth 100000
set_option maxHeartbeats 4000000
set_option linter.unusedSimpArgs false
set_option linter.unusedVariables false
namespace Go.Proofs.Ytkgbceeonmdlgaa
open Go.Det Go.Det.K

/-- What is written of a list: its texts, cut. -/
def cuts (l : List (List UInt8)) (n : Nat) : List (List UInt8) := (l.take n).map fun t => t.take 100
theorem cuts_succ (l : List (List UInt8)) (i : Nat) (h : i < l.length) : joined (cuts l (i + 1)) = joined (cuts l i) ++ enc ((nth l i).take 100) := by
  have : l.take (i + 1) = l.take i ++ [nth l i] := by
    rw [List.take_add_one, getElem?_nth l i h]; rfl
  rw [cuts, this, List.map_append, joined_app]
  simp [joined, cuts]
theorem joined_ne (l : List (List UInt8)) (h : joined l = []) : l = [] := by
  cases l with
  | nil => rfl
  | cons t l =>
    have := congrArg List.length h
    simp [joined, enc_len] at this
theorem cuts_zero (l : List (List UInt8)) : joined (cuts l 0) = [] := rfl
theorem cuts_len (l : List (List UInt8)) (n : Nat) (hn : n ≤ 10) : (joined (cuts l n)).length ≤ 108 * n := by
  induction n with
  | zero => simp [cuts, joined]
  | succ n ih =>
    by_cases h : n < l.length
    · rw [cuts_succ l n h, List.length_append, enc_len, List.length_take]
      have := ih (by omega)
      omega
    · have : cuts l (n + 1) = cuts l n := by rw [cuts, cuts, List.take_of_length_le (by omega), List.take_of_length_le (by omega)]
      rw [this]
      have := ih (by omega)
      omega

theorem rds_len : ∀ (n : Nat) (r : Rd), (rds n r).1.length ≤ r.1.length
  | 0, r => Nat.le_refl _
  | n + 1, r => Nat.le_trans (rds_len n _) (Nat.le_trans (rtake_len _ _) (rnum_len r))

theorem l9_0 (k : Nat) (M : Mem) (at_ : Int) (v : AV) (l : List (List UInt8)) (hv : WS M AV.str v l) (hl : l.length ≤ 10) (j : Nat) : ∀ (i n : Nat), i + j = l.length → j < n →
    fgt a9_0 (rnd0 (some (e9_0 v (.int .i64 at_) (.str (joined (cuts l i))) v (.int .i64 l.length) (.int .i64 i), mk [] :: M)) k9_0 (callFn SP (k + 6)) s9_b0 n) =
      some (.exit 0, x9_0 v (.int .i64 at_) (.str (joined (cuts l l.length))), mk [] :: M) := by
  induction j with
  | zero =>
    intro i n h hn
    obtain rfl : i = l.length := by omega
    rw [rnd0_some]
    conv => lhs; arg 2; arg 1; rw [s9_b0]
    rcases hv with ⟨w, rfl, rfl⟩ | ⟨w, rfl, rfl⟩ | ⟨d, id, z, rw_, fl, r, rfl, hd, hg⟩
    · simp
    · simp
    · simp [show d ≠ M.length by omega]
  | succ j ih0 =>
    intro i n h hn
    obtain ⟨n, rfl⟩ : ∃ m, n = m + 1 := ⟨n - 1, by omega⟩
    have hi : i < l.length := by omega
    have ih := ih0 (i + 1) n (by omega) (by omega)
    rcases hv with ⟨w, rfl, rfl⟩ | ⟨w, rfl, rfl⟩ | ⟨d, id, z, rw_, fl, r, rfl, hd, hg⟩
    · simp at hi
    · simp at hi
    have ga := map_app_get AV.str l r i hi
    have hn1 : d ≠ M.length := by omega
    have hc := cuts_len l i (by omega)
    rw [cuts_succ l i hi, enc] at ih
    rw [rnd0_some]
    conv => lhs; arg 2; arg 1; rw [s9_b0]
    by_cases h1 : (nth l i).length < 100
    · rw [List.take_of_length_le (by omega)] at ih
      simpa (disch := omega) [hi, get_low, hd, hg, ga, if_pos, hn1, IntWalk.i64_in, text, h1, be8_len] using ih
    · rw [show ((nth l i).take 100).length = 100 by rw [List.length_take]; omega] at ih
      simpa (disch := first | omega | (simp; done) | (simp; omega)) [hi, get_low, hd, hg, ga, if_pos, hn1, IntWalk.i64_in, text, h1, be8_len, getElem_nth l] using ih

theorem l9_1 (k : Nat) (M : Mem) (N : Nat) (fl : Bool) (j : Nat) : ∀ (i n : Nat) (r : Rd), i + j = N → j < n → N ≤ 10 → r.1.length < 2 ^ 48 →
    fgt a9_1 (rnd0 (some (e9_1 (.ptr (some ⟨M.length, 40028, 2, 0⟩)) (.int .i64 N) (.int .i64 i), mk [(40028, .cells [.str r.1, .int .i64 r.2] true fl)] :: M)) k9_1 (callFn SP (k + 6)) s9_b1 n) =
      some (.exit 2, x9_1 (.ptr (some ⟨M.length, 40028, 2, 0⟩)), mk [(40028, .cells [.str (rds j r).1, .int .i64 (rds j r).2] true fl)] :: M) := by
  induction j with
  | zero =>
    intro i n r h hn hN hr
    obtain rfl : i = N := by omega
    rw [rnd0_some]
    conv => lhs; arg 2; arg 1; rw [s9_b1]
    simp [rds]
  | succ j ih0 =>
    intro i n r h hn hN hr
    obtain ⟨n, rfl⟩ : ∃ m, n = m + 1 := ⟨n - 1, by omega⟩
    have hi : i < N := by omega
    have hlen : (rtext r).2.1.length ≤ r.1.length := Nat.le_trans (rtake_len _ _) (rnum_len r)
    have ih := ih0 (i + 1) n (rtext r).2 (by omega) (by omega) hN (by omega)
    rw [rnd0_some]
    conv => lhs; arg 2; arg 1; rw [s9_b1]
    simpa (disch := omega) [hi, rtxT, IntWalk.i64_in, rds] using ih

theorem law9 (k : Nat) (M : Mem) (at_ : Int) (v : AV) (l : List (List UInt8)) (hv : WS M AV.str v l) (hl : l.length < 2 ^ 48) : callFn SP (k + 7) 9 [v, .int .i64 at_] M = some (.bool true, [], M) := by
  rw [call_fn (by rfl) (by simp)]
  rcases hv with ⟨w, rfl, rfl⟩ | ⟨w, rfl, rfl⟩ | ⟨d, id, z, rw_, fl, r, rfl, hd, hg⟩
  · have hlp := l9_0 k M at_ (.slice none 0 1) [] (.inl ⟨1, rfl, rfl⟩) (by simp) 0 0 1 rfl (by omega)
    rw [cuts_zero, show joined (cuts [] [].length) = [] from rfl] at hlp
    simp (disch := omega) [show min (0 : Int) 10 = 0 from rfl]
    rw [ev_loop 1 (by simp) hlp (by omega)]
    simp [wakes]
  · have hlp := l9_0 k M at_ (.slice0 1) [] (.inr (.inl ⟨1, rfl, rfl⟩)) (by simp) 0 0 1 rfl (by omega)
    rw [cuts_zero, show joined (cuts [] [].length) = [] from rfl] at hlp
    simp (disch := omega) [show min (0 : Int) 10 = 0 from rfl]
    rw [ev_loop 1 (by simp) hlp (by omega)]
    simp [wakes]
  · have hn1 : d ≠ M.length := by omega
    have hv := WS.take (l := l) (M := M) (f := AV.str) (d := d) (id := id) (z := z) 10 hd hg rfl
    obtain ⟨N, e1, e2, e3, e4⟩ : ∃ N : Nat, min (l.length : Int) 10 = N ∧ N ≤ l.length ∧ (l.take 10).length = N ∧ N ≤ 10 := ⟨min 10 l.length, by omega, by omega, List.length_take, by omega⟩
    have hlp := l9_0 k M at_ _ (l.take 10) hv (by omega) N 0 11 (by omega) (by omega)
    rw [show min 10 l.length = N by omega, e3, cuts_zero] at hlp
    simp (disch := omega) [e1, show min l.length 10 = N by omega, hd, hg, get_low, e2]
    rw [ev_loop 11 (by simp [hn1]) hlp (by omega)]
    generalize hs : joined (cuts (l.take 10) N) = s at *
    by_cases hs0 : s = []
    · have hN : N = 0 := by
        rw [hs0] at hs
        have h := congrArg List.length (joined_ne _ hs)
        simp only [cuts, List.length_map, List.length_take, List.length_nil] at h
        omega
      simp (disch := omega) [wakes, hn1, hs0, hN]
    · have hpos : 0 < s.length := List.length_pos_iff.2 hs0
      obtain ⟨p, hp1, hp2⟩ : ∃ p : Nat, (max 0 at_).tmod (s.length : Int) = p ∧ p < s.length := by
        refine ⟨(max 0 at_).toNat % s.length, ?_, Nat.mod_lt _ hpos⟩
        have h0 : max 0 at_ = ((max 0 at_).toNat : Int) := by omega
        rw [h0, Int.ofNat_tmod]
        rfl
      have hsl : s.length ≤ 108 * N := by rw [← hs]; exact cuts_len _ _ (by omega)
      have hcl : (cuts (l.take 10) N).length = N := by simp only [cuts, List.length_map, List.length_take]; omega
      have hr : (rds N (s.take p, 0)).2 = 3 := by
        have h := rds_cut (cuts (l.take 10) N) p (fun t ht => by
          simp only [cuts, List.mem_map] at ht
          obtain ⟨u, _, rfl⟩ := ht
          rw [List.length_take]
          omega) (by rw [hs]; exact hp2)
        rwa [hs, hcl] at h
      have htl := rds_len N (s.take p, 0)
      obtain ⟨t, e, he⟩ : ∃ t e, rds N (s.take p, 0) = (t, e) := ⟨_, _, rfl⟩
      rw [he] at hr htl
      simp only at hr htl
      subst hr
      rw [List.length_take] at htl
      have hlp2 := l9_1 k M N true N 0 11 (s.take p, 0) (by omega) (by omega) e4 (by rw [List.length_take]; omega)
      rw [he] at hlp2
      simp (disch := omega) [wakes, hn1, hs0, newr, hp1, rc, show p ≤ s.length by omega]
      rw [ev_loop 11 (by simp [hn1]) hlp2 (by omega)]
      have b1 := rnum_bad t 3 (by decide)
      have b2 := rtext_bad t 3 (by decide)
      have b3 := rbelow_bad 9 t 3 (by decide)
      have b4 : rdone (t, 3) = 3 := rfl
      simp (disch := first | omega | (simp; done) | (simp; omega)) [dneT, rnmT, rtxT, blwT, b1, b2, b3, b4]



theorem ev_CodecCut (s : Scope) (args : List AV) (h : ArgsShp s [.sl .str, .int .i64] args) : ∃ k M', callFn SP k 9 args [s, mk []] = some (.bool true, [], M') := by
  obtain ⟨_, _, rfl, h2, _, _, rfl, h3, rfl⟩ := h
  obtain ⟨l, hv, hl⟩ := ArgShp_slstr (mk []) h2
  obtain ⟨n, rfl, _⟩ := ArgShp_i64 h3
  unfold reachBytes at hl
  exact ⟨7, _, law9 0 [s, mk []] n _ l hv (by omega)⟩

/-! ### unlike lists -/
theorem l28 (k : Nat) (M : Mem) (v : AV) (l : List (List UInt8)) (hv : WS M AV.str v l) (hl : l.length ≤ 10) (j : Nat) : ∀ (i n : Nat), i + j = l.length → j < n →
    fgt a28_0 (rnd0 (some (e28_0 (.str (joined (cuts l i))) v (.int .i64 l.length) (.int .i64 i), mk [] :: M)) k28_0 (callFn SP (k + 6)) s28_b0 n) =
      some (.exit 0, x28_0 (.str (joined (cuts l l.length))), mk [] :: M) := by
  induction j with
  | zero =>
    intro i n h hn
    obtain rfl : i = l.length := by omega
    rw [rnd0_some]
    conv => lhs; arg 2; arg 1; rw [s28_b0]
    rcases hv with ⟨w, rfl, rfl⟩ | ⟨w, rfl, rfl⟩ | ⟨d, id, z, rw_, fl, r, rfl, hd, hg⟩
    · simp
    · simp
    · simp [show d ≠ M.length by omega]
  | succ j ih0 =>
    intro i n h hn
    obtain ⟨n, rfl⟩ : ∃ m, n = m + 1 := ⟨n - 1, by omega⟩
    have hi : i < l.length := by omega
    have ih := ih0 (i + 1) n (by omega) (by omega)
    rcases hv with ⟨w, rfl, rfl⟩ | ⟨w, rfl, rfl⟩ | ⟨d, id, z, rw_, fl, r, rfl, hd, hg⟩
    · simp at hi
    · simp at hi
    have ga := map_app_get AV.str l r i hi
    have hn1 : d ≠ M.length := by omega
    have hc := cuts_len l i (by omega)
    rw [cuts_succ l i hi, enc] at ih
    rw [rnd0_some]
    conv => lhs; arg 2; arg 1; rw [s28_b0]
    by_cases h1 : (nth l i).length < 100
    · rw [List.take_of_length_le (by omega)] at ih
      simpa (disch := omega) [hi, get_low, hd, hg, ga, if_pos, hn1, IntWalk.i64_in, text, h1, be8_len] using ih
    · rw [show ((nth l i).take 100).length = 100 by rw [List.length_take]; omega] at ih
      simpa (disch := first | omega | (simp; done) | (simp; omega)) [hi, get_low, hd, hg, ga, if_pos, hn1, IntWalk.i64_in, text, h1, be8_len, getElem_nth l] using ih

theorem join_ev (k : Nat) (M : Mem) (v : AV) (l : List (List UInt8)) (hv : WS M AV.str v l) (hl : l.length ≤ 10) : callFn SP (k + 7) 28 [v] M = some (.str (joined (cuts l l.length)), [], M) := by
  have hlp := l28 k M v l hv hl l.length 0 11 (by omega) (by omega)
  rw [cuts_zero] at hlp
  rw [call_fn (by rfl) (by simp)]
  rcases hv with ⟨w, rfl, rfl⟩ | ⟨w, rfl, rfl⟩ | ⟨d, id, z, rw_, fl, r, rfl, hd, hg⟩
  · simp (disch := omega) []
    rw [ev_loop 11 (by simp) hlp (by omega)]
    simp
  · simp (disch := omega) []
    rw [ev_loop 11 (by simp) hlp (by omega)]
    simp
  · simp (disch := omega) []
    rw [ev_loop 11 (by simp [show d ≠ M.length by omega]) hlp (by omega)]
    simp
end Go.Proofs.Ytkgbceeonmdlgaa
