/-
  CODEC: unlike lists are written unlike.
-/
import Derived.Test.YtkgbceeonmdlgaaD
set_option maxRecDepth 100000
set_option maxHeartbeats 4000000
set_option linter.unusedSimpArgs false
set_option linter.unusedVariables false
namespace Go.Proofs.Ytkgbceeonmdlgaa
open Go.Det Go.Det.K

/-- Are they of one length, and the same in the first i places? -/
def sam (a b : List (List UInt8)) (i : Nat) : Bool := decide (a.length = b.length) && decide ((a.take i).map (List.take 100) = (b.take i).map (List.take 100))

theorem sam_zero (a b : List (List UInt8)) : sam a b 0 = decide (a.length = b.length) := by simp [sam]
theorem sam_succ (a b : List (List UInt8)) (i : Nat) (ha : i < a.length) (hb : i < b.length) : sam a b (i + 1) = (sam a b i && decide ((nth a i).take 100 = (nth b i).take 100)) := by
  have h1 : a.take (i + 1) = a.take i ++ [nth a i] := by rw [List.take_add_one, getElem?_nth a i ha]; rfl
  have h2 : b.take (i + 1) = b.take i ++ [nth b i] := by rw [List.take_add_one, getElem?_nth b i hb]; rfl
  have h3 : ((a.take i).map (List.take 100)).length = ((b.take i).map (List.take 100)).length := by simp; omega
  rw [sam, sam, h1, h2, List.map_append, List.map_append, Bool.and_assoc]
  congr 1
  by_cases h : (a.take i).map (List.take 100) = (b.take i).map (List.take 100)
  · simp [h]
  · have : ¬ (a.take i).map (List.take 100) ++ [(nth a i).take 100] = (b.take i).map (List.take 100) ++ [(nth b i).take 100] := fun h' => h (List.append_inj_left h' h3)
    simp [h, this]

theorem l7 (C : Det.Calls) (M : Mem) (va vb : AV) (a b : List (List UInt8)) (hva : WS M AV.str va a) (hvb : WS M AV.str vb b) (ha : a.length ≤ 10) (hb : b.length ≤ 10) (N : Nat) (hN : N = min a.length b.length) (j : Nat) : ∀ (i n : Nat), i + j = N → j < n →
    fgt a7_0 (rnd0 (some (e7_0 va vb (.func 28 [] []) (.bool (sam a b i)) (.int .i64 N) (.int .i64 i), mk [] :: M)) k7_0 C s7_b0 n) =
      some (.exit 0, x7_0 va vb (.func 28 [] []) (.bool (sam a b N)), mk [] :: M) := by
  induction j with
  | zero =>
    intro i n h hn
    obtain rfl : i = N := by omega
    rw [rnd0_some]
    conv => lhs; arg 2; arg 1; rw [s7_b0]
    rcases hva with ⟨w, rfl, rfl⟩ | ⟨w, rfl, rfl⟩ | ⟨d, id, z, rw_, fl, r, rfl, hd, hg⟩ <;>
    rcases hvb with ⟨w2, rfl, rfl⟩ | ⟨w2, rfl, rfl⟩ | ⟨d2, id2, z2, rw_2, fl2, r2, rfl, hd2, hg2⟩
    · simp
    · simp
    · simp [show d2 ≠ M.length by omega]
    · simp
    · simp
    · simp [show d2 ≠ M.length by omega]
    · simp [show d ≠ M.length by omega]
    · simp [show d ≠ M.length by omega]
    · simp [show d ≠ M.length by omega, show d2 ≠ M.length by omega]
  | succ j ih0 =>
    intro i n h hn
    obtain ⟨n, rfl⟩ : ∃ m, n = m + 1 := ⟨n - 1, by omega⟩
    have hi : i < N := by omega
    have hia : i < a.length := by omega
    have hib : i < b.length := by omega
    have ih := ih0 (i + 1) n (by omega) (by omega)
    rcases hva with ⟨w, rfl, rfl⟩ | ⟨w, rfl, rfl⟩ | ⟨d, id, z, rw_, fl, r, rfl, hd, hg⟩
    · simp at hia
    · simp at hia
    rcases hvb with ⟨w, rfl, rfl⟩ | ⟨w, rfl, rfl⟩ | ⟨d2, id2, z2, rw_2, fl2, r2, rfl, hd2, hg2⟩
    · simp at hib
    · simp at hib
    have ga := map_app_get AV.str a r i hia
    have gb := map_app_get AV.str b r2 i hib
    have hn1 : d ≠ M.length := by omega
    have hn2 : d2 ≠ M.length := by omega
    rw [sam_succ a b i hia hib] at ih
    have t : ∀ x : List UInt8, (min (x.length : Int) 100).toNat = min x.length 100 ∧ x.take (min x.length 100) = x.take 100 := fun x => ⟨by omega, by
      by_cases h : x.length ≤ 100
      · rw [Nat.min_eq_left h, List.take_length, List.take_of_length_le h]
      · rw [Nat.min_eq_right (by omega)]⟩
    rw [rnd0_some]
    conv => lhs; arg 2; arg 1; rw [s7_b0]
    by_cases h1 : sam a b i = true
    · simpa (disch := omega) [hi, hia, hib, get_low, hd, hg, hd2, hg2, ga, gb, if_pos, hn1, hn2, IntWalk.i64_in, h1, t] using ih
    · simpa (disch := omega) [hi, hia, hib, get_low, hd, hg, hd2, hg2, ga, gb, if_pos, hn1, hn2, IntWalk.i64_in, h1] using ih
theorem sam_all (a b : List (List UInt8)) : decide (joined (cuts a a.length) = joined (cuts b b.length)) = sam a b (min a.length b.length) := by
  have c : ∀ x : List (List UInt8), cuts x x.length = x.map (List.take 100) := fun x => by rw [cuts, List.take_length]
  have b1 : ∀ (x : List (List UInt8)), ∀ t ∈ cuts x x.length, t.length < 2 ^ 64 := fun x t ht => by
    simp only [cuts, List.mem_map] at ht
    obtain ⟨u, _, rfl⟩ := ht
    rw [List.length_take]
    omega
  have e : joined (cuts a a.length) = joined (cuts b b.length) ↔ a.map (List.take 100) = b.map (List.take 100) :=
    ⟨fun h => by have := joined_inj _ _ (b1 a) (b1 b) h; rwa [c, c] at this, fun h => by rw [c, c, h]⟩
  rw [sam]
  by_cases hl : a.length = b.length
  · rw [show min a.length b.length = a.length by omega, List.take_length, show b.take a.length = b by rw [hl, List.take_length], show decide (a.length = b.length) = true from decide_eq_true hl]
    simp only [Bool.true_and]
    exact decide_eq_decide.2 e
  · have : ¬ joined (cuts a a.length) = joined (cuts b b.length) := fun h => hl (by have := congrArg List.length (e.1 h); simpa using this)
    simp [hl, this]

theorem law7 (k : Nat) (M : Mem) (va vb : AV) (a b : List (List UInt8)) (hva : WS M AV.str va a) (hvb : WS M AV.str vb b) (ha : a.length < 2 ^ 48) (hb : b.length < 2 ^ 48) : callFn SP (k + 8) 7 [va, vb] M = some (.bool true, [], M) := by
  rw [call_fn (by rfl) (by simp)]
  rcases hva with ⟨w, rfl, rfl⟩ | ⟨w, rfl, rfl⟩ | ⟨d, id, z, rw_, fl, r, rfl, hd, hg⟩ <;>
  rcases hvb with ⟨w2, rfl, rfl⟩ | ⟨w2, rfl, rfl⟩ | ⟨d2, id2, z2, rw_2, fl2, r2, rfl, hd2, hg2⟩
  · -- 0 0
    have wa : WS M AV.str (.slice none 0 1) [] := .inl ⟨1, rfl, rfl⟩
    have wb : WS M AV.str (.slice none 0 1) [] := .inl ⟨1, rfl, rfl⟩
    have ja := fun k => join_ev k (mk [] :: ro M) (.slice none 0 1) ([] : List (List UInt8)) (wa.ro.cons _) (by simp)
    have jb := fun k => join_ev k (mk [] :: ro M) (.slice none 0 1) ([] : List (List UInt8)) (wb.ro.cons _) (by simp)
    have hs := sam_all ([] : List (List UInt8)) ([] : List (List UInt8))
    have hlp := l7 (callFn SP (k + 7)) M (.slice none 0 1) (.slice none 0 1) ([] : List (List UInt8)) ([] : List (List UInt8)) wa wb (by simp) (by simp) (min ([] : List (List UInt8)).length ([] : List (List UInt8)).length) rfl (min ([] : List (List UInt8)).length ([] : List (List UInt8)).length) 0 11 (by omega) (by simp)
    rw [← hs, sam_zero] at hlp
    simp (disch := omega) [show min (0 : Int) 10 = 0 from rfl, get_low]
    rw [ev_loop 11 (by simp) hlp (by omega)]
    simp (disch := first | omega | (simp; done) | (simp; omega)) [wakes, ja, jb]
  · -- 0 1
    have wa : WS M AV.str (.slice none 0 1) [] := .inl ⟨1, rfl, rfl⟩
    have wb : WS M AV.str (.slice0 1) [] := .inr (.inl ⟨1, rfl, rfl⟩)
    have ja := fun k => join_ev k (mk [] :: ro M) (.slice none 0 1) ([] : List (List UInt8)) (wa.ro.cons _) (by simp)
    have jb := fun k => join_ev k (mk [] :: ro M) (.slice0 1) ([] : List (List UInt8)) (wb.ro.cons _) (by simp)
    have hs := sam_all ([] : List (List UInt8)) ([] : List (List UInt8))
    have hlp := l7 (callFn SP (k + 7)) M (.slice none 0 1) (.slice0 1) ([] : List (List UInt8)) ([] : List (List UInt8)) wa wb (by simp) (by simp) (min ([] : List (List UInt8)).length ([] : List (List UInt8)).length) rfl (min ([] : List (List UInt8)).length ([] : List (List UInt8)).length) 0 11 (by omega) (by simp)
    rw [← hs, sam_zero] at hlp
    simp (disch := omega) [show min (0 : Int) 10 = 0 from rfl, get_low]
    rw [ev_loop 11 (by simp) hlp (by omega)]
    simp (disch := first | omega | (simp; done) | (simp; omega)) [wakes, ja, jb]
  · -- 0 2
    have wa : WS M AV.str (.slice none 0 1) [] := .inl ⟨1, rfl, rfl⟩
    have hnb : d2 ≠ M.length := by omega
    have wb := WS.take (l := b) (M := M) (f := AV.str) (d := d2) (id := id2) (z := z2) 10 hd2 hg2 rfl
    obtain ⟨Nb, e1b, e2b, e3b, e4b, e5b⟩ : ∃ N : Nat, min (b.length : Int) 10 = N ∧ N ≤ b.length ∧ (b.take 10).length = N ∧ N ≤ 10 ∧ min b.length 10 = N := ⟨min 10 b.length, by omega, by omega, List.length_take, by omega, by omega⟩
    rw [show min 10 b.length = Nb by omega] at wb
    have ja := fun k => join_ev k (mk [] :: ro M) (.slice none 0 1) ([] : List (List UInt8)) (wa.ro.cons _) (by simp)
    have jb := fun k => join_ev k (mk [] :: ro M) (.slice (some ⟨d2, id2, z2, 0⟩) Nb 1) (b.take 10) (wb.ro.cons _) (by omega)
    have hs := sam_all ([] : List (List UInt8)) (b.take 10)
    have hlp := l7 (callFn SP (k + 7)) M (.slice none 0 1) (.slice (some ⟨d2, id2, z2, 0⟩) Nb 1) ([] : List (List UInt8)) (b.take 10) wa wb (by simp) (by omega) (min ([] : List (List UInt8)).length (b.take 10).length) rfl (min ([] : List (List UInt8)).length (b.take 10).length) 0 11 (by omega) (by omega)
    rw [← hs, sam_zero] at hlp
    rw [e3b] at jb hlp
    rw [show ([] : List (List UInt8)).length = 0 from rfl] at ja hlp
    simp (disch := omega) [show min (0 : Int) 10 = 0 from rfl, get_low, e1b, e2b, e5b, hnb, hd2, hg2]
    rw [ev_loop 11 (by simp [hnb] <;> omega) hlp (by omega)]
    simp (disch := first | omega | (simp; done) | (simp; omega)) [wakes, ja, jb, hnb]
  · -- 1 0
    have wa : WS M AV.str (.slice0 1) [] := .inr (.inl ⟨1, rfl, rfl⟩)
    have wb : WS M AV.str (.slice none 0 1) [] := .inl ⟨1, rfl, rfl⟩
    have ja := fun k => join_ev k (mk [] :: ro M) (.slice0 1) ([] : List (List UInt8)) (wa.ro.cons _) (by simp)
    have jb := fun k => join_ev k (mk [] :: ro M) (.slice none 0 1) ([] : List (List UInt8)) (wb.ro.cons _) (by simp)
    have hs := sam_all ([] : List (List UInt8)) ([] : List (List UInt8))
    have hlp := l7 (callFn SP (k + 7)) M (.slice0 1) (.slice none 0 1) ([] : List (List UInt8)) ([] : List (List UInt8)) wa wb (by simp) (by simp) (min ([] : List (List UInt8)).length ([] : List (List UInt8)).length) rfl (min ([] : List (List UInt8)).length ([] : List (List UInt8)).length) 0 11 (by omega) (by simp)
    rw [← hs, sam_zero] at hlp
    simp (disch := omega) [show min (0 : Int) 10 = 0 from rfl, get_low]
    rw [ev_loop 11 (by simp) hlp (by omega)]
    simp (disch := first | omega | (simp; done) | (simp; omega)) [wakes, ja, jb]
  · -- 1 1
    have wa : WS M AV.str (.slice0 1) [] := .inr (.inl ⟨1, rfl, rfl⟩)
    have wb : WS M AV.str (.slice0 1) [] := .inr (.inl ⟨1, rfl, rfl⟩)
    have ja := fun k => join_ev k (mk [] :: ro M) (.slice0 1) ([] : List (List UInt8)) (wa.ro.cons _) (by simp)
    have jb := fun k => join_ev k (mk [] :: ro M) (.slice0 1) ([] : List (List UInt8)) (wb.ro.cons _) (by simp)
    have hs := sam_all ([] : List (List UInt8)) ([] : List (List UInt8))
    have hlp := l7 (callFn SP (k + 7)) M (.slice0 1) (.slice0 1) ([] : List (List UInt8)) ([] : List (List UInt8)) wa wb (by simp) (by simp) (min ([] : List (List UInt8)).length ([] : List (List UInt8)).length) rfl (min ([] : List (List UInt8)).length ([] : List (List UInt8)).length) 0 11 (by omega) (by simp)
    rw [← hs, sam_zero] at hlp
    simp (disch := omega) [show min (0 : Int) 10 = 0 from rfl, get_low]
    rw [ev_loop 11 (by simp) hlp (by omega)]
    simp (disch := first | omega | (simp; done) | (simp; omega)) [wakes, ja, jb]
  · -- 1 2
    have wa : WS M AV.str (.slice0 1) [] := .inr (.inl ⟨1, rfl, rfl⟩)
    have hnb : d2 ≠ M.length := by omega
    have wb := WS.take (l := b) (M := M) (f := AV.str) (d := d2) (id := id2) (z := z2) 10 hd2 hg2 rfl
    obtain ⟨Nb, e1b, e2b, e3b, e4b, e5b⟩ : ∃ N : Nat, min (b.length : Int) 10 = N ∧ N ≤ b.length ∧ (b.take 10).length = N ∧ N ≤ 10 ∧ min b.length 10 = N := ⟨min 10 b.length, by omega, by omega, List.length_take, by omega, by omega⟩
    rw [show min 10 b.length = Nb by omega] at wb
    have ja := fun k => join_ev k (mk [] :: ro M) (.slice0 1) ([] : List (List UInt8)) (wa.ro.cons _) (by simp)
    have jb := fun k => join_ev k (mk [] :: ro M) (.slice (some ⟨d2, id2, z2, 0⟩) Nb 1) (b.take 10) (wb.ro.cons _) (by omega)
    have hs := sam_all ([] : List (List UInt8)) (b.take 10)
    have hlp := l7 (callFn SP (k + 7)) M (.slice0 1) (.slice (some ⟨d2, id2, z2, 0⟩) Nb 1) ([] : List (List UInt8)) (b.take 10) wa wb (by simp) (by omega) (min ([] : List (List UInt8)).length (b.take 10).length) rfl (min ([] : List (List UInt8)).length (b.take 10).length) 0 11 (by omega) (by omega)
    rw [← hs, sam_zero] at hlp
    rw [e3b] at jb hlp
    rw [show ([] : List (List UInt8)).length = 0 from rfl] at ja hlp
    simp (disch := omega) [show min (0 : Int) 10 = 0 from rfl, get_low, e1b, e2b, e5b, hnb, hd2, hg2]
    rw [ev_loop 11 (by simp [hnb] <;> omega) hlp (by omega)]
    simp (disch := first | omega | (simp; done) | (simp; omega)) [wakes, ja, jb, hnb]
  · -- 2 0
    have hna : d ≠ M.length := by omega
    have wa := WS.take (l := a) (M := M) (f := AV.str) (d := d) (id := id) (z := z) 10 hd hg rfl
    obtain ⟨Na, e1a, e2a, e3a, e4a, e5a⟩ : ∃ N : Nat, min (a.length : Int) 10 = N ∧ N ≤ a.length ∧ (a.take 10).length = N ∧ N ≤ 10 ∧ min a.length 10 = N := ⟨min 10 a.length, by omega, by omega, List.length_take, by omega, by omega⟩
    rw [show min 10 a.length = Na by omega] at wa
    have wb : WS M AV.str (.slice none 0 1) [] := .inl ⟨1, rfl, rfl⟩
    have ja := fun k => join_ev k (mk [] :: ro M) (.slice (some ⟨d, id, z, 0⟩) Na 1) (a.take 10) (wa.ro.cons _) (by omega)
    have jb := fun k => join_ev k (mk [] :: ro M) (.slice none 0 1) ([] : List (List UInt8)) (wb.ro.cons _) (by simp)
    have hs := sam_all (a.take 10) ([] : List (List UInt8))
    have hlp := l7 (callFn SP (k + 7)) M (.slice (some ⟨d, id, z, 0⟩) Na 1) (.slice none 0 1) (a.take 10) ([] : List (List UInt8)) wa wb (by omega) (by simp) (min (a.take 10).length ([] : List (List UInt8)).length) rfl (min (a.take 10).length ([] : List (List UInt8)).length) 0 11 (by omega) (by omega)
    rw [← hs, sam_zero] at hlp
    rw [e3a] at ja hlp
    simp (disch := omega) [show min (0 : Int) 10 = 0 from rfl, get_low, e1a, e2a, e5a, hna, hd, hg]
    rw [ev_loop 11 (by simp [hna] <;> omega) hlp (by omega)]
    simp (disch := first | omega | (simp; done) | (simp; omega)) [wakes, ja, jb, hna]
  · -- 2 1
    have hna : d ≠ M.length := by omega
    have wa := WS.take (l := a) (M := M) (f := AV.str) (d := d) (id := id) (z := z) 10 hd hg rfl
    obtain ⟨Na, e1a, e2a, e3a, e4a, e5a⟩ : ∃ N : Nat, min (a.length : Int) 10 = N ∧ N ≤ a.length ∧ (a.take 10).length = N ∧ N ≤ 10 ∧ min a.length 10 = N := ⟨min 10 a.length, by omega, by omega, List.length_take, by omega, by omega⟩
    rw [show min 10 a.length = Na by omega] at wa
    have wb : WS M AV.str (.slice0 1) [] := .inr (.inl ⟨1, rfl, rfl⟩)
    have ja := fun k => join_ev k (mk [] :: ro M) (.slice (some ⟨d, id, z, 0⟩) Na 1) (a.take 10) (wa.ro.cons _) (by omega)
    have jb := fun k => join_ev k (mk [] :: ro M) (.slice0 1) ([] : List (List UInt8)) (wb.ro.cons _) (by simp)
    have hs := sam_all (a.take 10) ([] : List (List UInt8))
    have hlp := l7 (callFn SP (k + 7)) M (.slice (some ⟨d, id, z, 0⟩) Na 1) (.slice0 1) (a.take 10) ([] : List (List UInt8)) wa wb (by omega) (by simp) (min (a.take 10).length ([] : List (List UInt8)).length) rfl (min (a.take 10).length ([] : List (List UInt8)).length) 0 11 (by omega) (by omega)
    rw [← hs, sam_zero] at hlp
    rw [e3a] at ja hlp
    simp (disch := omega) [show min (0 : Int) 10 = 0 from rfl, get_low, e1a, e2a, e5a, hna, hd, hg]
    rw [ev_loop 11 (by simp [hna] <;> omega) hlp (by omega)]
    simp (disch := first | omega | (simp; done) | (simp; omega)) [wakes, ja, jb, hna]
  · -- 2 2
    have hna : d ≠ M.length := by omega
    have wa := WS.take (l := a) (M := M) (f := AV.str) (d := d) (id := id) (z := z) 10 hd hg rfl
    obtain ⟨Na, e1a, e2a, e3a, e4a, e5a⟩ : ∃ N : Nat, min (a.length : Int) 10 = N ∧ N ≤ a.length ∧ (a.take 10).length = N ∧ N ≤ 10 ∧ min a.length 10 = N := ⟨min 10 a.length, by omega, by omega, List.length_take, by omega, by omega⟩
    rw [show min 10 a.length = Na by omega] at wa
    have hnb : d2 ≠ M.length := by omega
    have wb := WS.take (l := b) (M := M) (f := AV.str) (d := d2) (id := id2) (z := z2) 10 hd2 hg2 rfl
    obtain ⟨Nb, e1b, e2b, e3b, e4b, e5b⟩ : ∃ N : Nat, min (b.length : Int) 10 = N ∧ N ≤ b.length ∧ (b.take 10).length = N ∧ N ≤ 10 ∧ min b.length 10 = N := ⟨min 10 b.length, by omega, by omega, List.length_take, by omega, by omega⟩
    rw [show min 10 b.length = Nb by omega] at wb
    have ja := fun k => join_ev k (mk [] :: ro M) (.slice (some ⟨d, id, z, 0⟩) Na 1) (a.take 10) (wa.ro.cons _) (by omega)
    have jb := fun k => join_ev k (mk [] :: ro M) (.slice (some ⟨d2, id2, z2, 0⟩) Nb 1) (b.take 10) (wb.ro.cons _) (by omega)
    have hs := sam_all (a.take 10) (b.take 10)
    have hlp := l7 (callFn SP (k + 7)) M (.slice (some ⟨d, id, z, 0⟩) Na 1) (.slice (some ⟨d2, id2, z2, 0⟩) Nb 1) (a.take 10) (b.take 10) wa wb (by omega) (by omega) (min (a.take 10).length (b.take 10).length) rfl (min (a.take 10).length (b.take 10).length) 0 11 (by omega) (by omega)
    rw [← hs, sam_zero] at hlp
    rw [e3a] at ja hlp
    rw [e3b] at jb hlp
    simp (disch := omega) [show min (0 : Int) 10 = 0 from rfl, get_low, e1a, e2a, e5a, hna, hd, hg, e1b, e2b, e5b, hnb, hd2, hg2]
    rw [ev_loop 11 (by simp [hna, hnb] <;> omega) hlp (by omega)]
    simp (disch := first | omega | (simp; done) | (simp; omega)) [wakes, ja, jb, hna, hnb]

theorem ev_CodecApart (s : Scope) (args : List AV) (h : ArgsShp s [.sl .str, .sl .str] args) : ∃ k M', callFn SP k 7 args [s, mk []] = some (.bool true, [], M') := by
  obtain ⟨_, _, rfl, h1, _, _, rfl, h2, rfl⟩ := h
  obtain ⟨a, hva, ha⟩ := ArgShp_slstr (mk []) h1
  obtain ⟨b, hvb, hb⟩ := ArgShp_slstr (mk []) h2
  unfold reachBytes at ha hb
  exact ⟨8, _, law7 0 [s, mk []] _ _ a b hva hvb (by omega) (by omega)⟩

end Go.Proofs.Ytkgbceeonmdlgaa
