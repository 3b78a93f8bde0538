/-
  The log's law: lists held against each other; what was logged is read back; the log that is written and read.
-/
import Derived.Test.YtaennaoaoahjmaaDoorHG
set_option maxRecDepth 100000
set_option linter.unusedSimpArgs false
set_option linter.unusedVariables false
namespace Go.Proofs.YtaennaoaoahjmaaDoor
open Go.Det Go.Det.S

def r18 (M : Mem) (b : Bool) : Option (Ex × Env × Mem) := if b then some (.exit 0, x18_0 .dead, mk [] :: M) else some (.ret, x18_0 (.bool false), mk [] :: M)

theorem l18 (C : Det.Calls) (M : Mem) (va vb : AV) (a b : List (List UInt8)) (N : Nat) (h1 : a.length = N) (h2 : b.length = N) (hN : N < 2 ^ 40) (ha : WS M AV.str va a) (hb : WS M AV.str vb b) (j : Nat) : ∀ (i n : Nat), i + j = N → j < n →
    fgt a18_0 (rnd0 (some (e18_0 va vb (.int .i64 N) (.int .i64 i), mk [] :: M)) k18_0 C s18_b0 n) = r18 M (decide (a.drop i = b.drop i)) := by
  have i1 := WS_ids ha
  have i2 := WS_ids hb
  induction j with
  | zero =>
    intro i n h hn
    obtain rfl : i = N := by omega
    rw [rnd0_some, List.drop_of_length_le (by omega), List.drop_of_length_le (by omega)]
    conv => lhs; arg 2; arg 1; rw [s18_b0]
    simp [r18, i1, i2]
  | succ j ih0 =>
    intro i n h hn
    obtain ⟨n, rfl⟩ : ∃ m, n = m + 1 := ⟨n - 1, by omega⟩
    have hi : i < N := by omega
    obtain ⟨d, id, z, rw_, fl, r, hvv, hd, hg⟩ := ha.block (by omega)
    subst hvv
    obtain ⟨d', id', z', rw', fl', r', hvv, hd', hg'⟩ := hb.block (by omega)
    subst hvv
    have ga := map_app_get AV.str a r i (by omega)
    have gb := map_app_get AV.str b r' i (by omega)
    have hn1 : d ≠ M.length := by omega
    have hn2 : d' ≠ M.length := by omega
    rw [drop_nth a i (by omega), drop_nth b i (by omega)]
    have ih := ih0 (i + 1) n (by omega) (by omega)
    clear ih0
    have la : i < (a.map AV.str ++ r).length := by simp; omega
    have lb : i < (b.map AV.str ++ r').length := by simp; omega
    have ga' := cell_at ga la
    have gb' := cell_at gb lb
    generalize a.map AV.str ++ r = A at *
    generalize b.map AV.str ++ r' = B at *
    generalize a.drop (i + 1) = ra at *
    generalize b.drop (i + 1) = rb at *
    generalize nth a i = x at *
    generalize nth b i = y at *
    have hlt : (i : Int) < N := by omega
    have wi : IntKind.wrap .i64 ((i : Int) + 1) = (i : Int) + 1 := IntWalk.i64_in _ (by omega)
    rw [rnd0_some]
    conv => lhs; arg 2; arg 1; rw [s18_b0]
    by_cases hxy : x = y
    · subst hxy
      simp only [List.cons.injEq, true_and]
      simpa [hi, hlt, get_low, hd, hg, hd', hg', ga, gb, ga', gb', la, lb, h1, h2, hn1, hn2, wi, i1, i2] using ih
    · have hd0 : decide (x :: ra = y :: rb) = false := decide_eq_false (fun h => hxy (List.cons.inj h).1)
      rw [hd0]
      simp [hi, hlt, get_low, hd, hg, hd', hg', ga, gb, ga', gb', la, lb, h1, h2, hn1, hn2, wi, i1, i2, hxy, r18]

theorem equal_ev (k : Nat) (M : Mem) (va vb : AV) (a b : List (List UInt8)) (ha : WS M AV.str va a) (hb : WS M AV.str vb b) (hN : a.length < 2 ^ 40) : callFn SP (k + 1) 18 [va, vb] M = some (.bool (decide (a = b)), [], M) := by
  have i1 := WS_ids ha
  have i2 := WS_ids hb
  have n1 := ha.len
  have n2 := hb.len
  by_cases hl : a.length = b.length
  · have hlp := l18 (callFn SP k) M va vb a b a.length rfl hl.symm hN ha hb a.length 0 (a.length + 1) (by omega) (by omega)
    rw [List.drop_zero, List.drop_zero] at hlp
    rw [hl] at n1
    rw [call_fn (f := 18) (by rfl) (by simp)]
    rw [hl] at hlp
    simp [n1, n2]
    cases hab : decide (a = b)
    · rw [hab] at hlp
      simp only [r18, Bool.false_eq_true, if_false] at hlp
      rw [ev_loop (b.length + 1) (by simp [i1, i2]) hlp (by omega)]
      simp
    · rw [hab] at hlp
      simp only [r18, if_true] at hlp
      rw [ev_loop (b.length + 1) (by simp [i1, i2]) hlp (by omega)]
      simp
  · have hab : decide (a = b) = false := decide_eq_false (fun h => hl (by rw [h]))
    have hl' : ¬ (a.length : Int) = b.length := by omega
    rw [hab, call_fn (f := 18) (by rfl) (by simp)]
    simp [n1, n2, hl, hl']

def r14 (M : Mem) (b : Bool) : Option (Ex × Env × Mem) := if b then some (.exit 0, x14_0 .dead, mk [] :: M) else some (.ret, x14_0 (.bool false), mk [] :: M)

set_option maxHeartbeats 1000000 in
theorem l14 (C : Det.Calls) (M : Mem) (va vb : AV) (a b : List Wr) (N : Nat) (h1 : a.length = N) (h2 : b.length = N) (hN : N < 2 ^ 40) (ha : WM M 2 wc va a) (hb : WM M 2 wc vb b) (j : Nat) : ∀ (i n : Nat), i + j = N → j < n →
    fgt a14_0 (rnd0 (some (e14_0 va vb (.int .i64 N) (.int .i64 i), mk [] :: M)) k14_0 C s14_b0 n) = r14 M (decide (a.drop i = b.drop i)) := by
  have i1 := WM_ids ha
  have i2 := WM_ids hb
  induction j with
  | zero =>
    intro i n h hn
    obtain rfl : i = N := by omega
    rw [rnd0_some, List.drop_of_length_le (by omega), List.drop_of_length_le (by omega)]
    conv => lhs; arg 2; arg 1; rw [s14_b0]
    simp [r14, i1, i2]
  | succ j ih0 =>
    intro i n h hn
    obtain ⟨n, rfl⟩ : ∃ m, n = m + 1 := ⟨n - 1, by omega⟩
    have hi : i < N := by omega
    obtain ⟨d, id, z, rw_, fl, r, hvv, hd, hg⟩ := ha.block (by omega)
    subst hvv
    obtain ⟨d', id', z', rw', fl', r', hvv, hd', hg'⟩ := hb.block (by omega)
    subst hvv
    have ga0 := flat_cell wc_len r a i 0 (by omega) (by omega)
    have ga1 := flat_cell wc_len r a i 1 (by omega) (by omega)
    have gb0 := flat_cell wc_len r' b i 0 (by omega) (by omega)
    have gb1 := flat_cell wc_len r' b i 1 (by omega) (by omega)
    have hn1 : d ≠ M.length := by omega
    have hn2 : d' ≠ M.length := by omega
    rw [drop_nth a i (by omega), drop_nth b i (by omega)]
    have ih := ih0 (i + 1) n (by omega) (by omega)
    clear ih0
    have la : i * 2 + 1 < (a.flatMap wc ++ r).length := by rw [List.length_append, flat_len wc_len]; omega
    have lb : i * 2 + 1 < (b.flatMap wc ++ r').length := by rw [List.length_append, flat_len wc_len]; omega
    have la0 : i * 2 < (a.flatMap wc ++ r).length := by omega
    have lb0 : i * 2 < (b.flatMap wc ++ r').length := by omega
    generalize a.flatMap wc ++ r = A at *
    generalize b.flatMap wc ++ r' = B at *
    generalize a.drop (i + 1) = ra at *
    generalize b.drop (i + 1) = rb at *
    generalize nth a i = x at *
    generalize nth b i = y at *
    obtain ⟨x1, x2⟩ := x
    obtain ⟨y1, y2⟩ := y
    simp only [wc, Nat.add_zero, List.getElem?_cons_zero, List.getElem?_cons_succ] at ga0 ga1 gb0 gb1
    have ga0' := cell_at ga0 la0
    have gb0' := cell_at gb0 lb0
    have ga1' := cell_at ga1 la
    have gb1' := cell_at gb1 lb
    have hlt : (i : Int) < N := by omega
    have wi : IntKind.wrap .i64 ((i : Int) + 1) = (i : Int) + 1 := IntWalk.i64_in _ (by omega)
    rw [rnd0_some]
    conv => lhs; arg 2; arg 1; rw [s14_b0]
    by_cases h11 : x1 = y1
    · subst h11
      by_cases h22 : x2 = y2
      · subst h22
        simp only [List.cons.injEq, true_and]
        simpa [hi, hlt, get_low, hd, hg, hd', hg', ga0, ga1, gb0, gb1, ga0', ga1', gb0', gb1', la, lb, la0, lb0, h1, h2, hn1, hn2, wi, i1, i2] using ih
      · have hd0 : decide ((⟨x1, x2⟩ : Wr) :: ra = ⟨x1, y2⟩ :: rb) = false := decide_eq_false (fun h => h22 (Wr.mk.inj (List.cons.inj h).1).2)
        rw [hd0]
        simp [hi, hlt, get_low, hd, hg, hd', hg', ga0, ga1, gb0, gb1, ga0', ga1', gb0', gb1', la, lb, la0, lb0, h1, h2, hn1, hn2, wi, i1, i2, h22, r14]
    · have hd0 : decide ((⟨x1, x2⟩ : Wr) :: ra = ⟨y1, y2⟩ :: rb) = false := decide_eq_false (fun h => h11 (Wr.mk.inj (List.cons.inj h).1).1)
      rw [hd0]
      simp [hi, hlt, get_low, hd, hg, hd', hg', ga0, ga1, gb0, gb1, ga0', ga1', gb0', gb1', la, lb, la0, lb0, h1, h2, hn1, hn2, wi, i1, i2, h11, r14]

theorem same_ev (k : Nat) (M : Mem) (va vb : AV) (a b : List Wr) (ha : WM M 2 wc va a) (hb : WM M 2 wc vb b) (hN : a.length < 2 ^ 40) : callFn SP (k + 1) 14 [va, vb] M = some (.bool (decide (a = b)), [], M) := by
  have i1 := WM_ids ha
  have i2 := WM_ids hb
  have n1 := ha.len
  have n2 := hb.len
  by_cases hl : a.length = b.length
  · have hlp := l14 (callFn SP k) M va vb a b a.length rfl hl.symm hN ha hb a.length 0 (a.length + 1) (by omega) (by omega)
    rw [List.drop_zero, List.drop_zero] at hlp
    rw [hl] at n1
    rw [call_fn (f := 14) (by rfl) (by simp)]
    rw [hl] at hlp
    simp [n1, n2]
    cases hab : decide (a = b)
    · rw [hab] at hlp
      simp only [r14, Bool.false_eq_true, if_false] at hlp
      rw [ev_loop (b.length + 1) (by simp [i1, i2]) hlp (by omega)]
      simp
    · rw [hab] at hlp
      simp only [r14, if_true] at hlp
      rw [ev_loop (b.length + 1) (by simp [i1, i2]) hlp (by omega)]
      simp
  · have hab : decide (a = b) = false := decide_eq_false (fun h => hl (by rw [h]))
    have hl' : ¬ (a.length : Int) = b.length := by omega
    rw [hab, call_fn (f := 14) (by rfl) (by simp)]
    simp [n1, n2, hl, hl']

theorem empty_ev (k : Nat) (M : Mem) (hG : Gl kv v0 2 3 M) : callFn SP (k + 12) 19 [] M = some (.str (dgC []), [], M) := by
  have h := fun L => put_ev k (mk L :: ro M) (hG.ro.cons _) (.slice none 0 0) [] WM.nil (by simp)
  simp only [putOut, show putE [] = 0 from rfl, if_true, ro_length, List.length_cons] at h
  generalize dgC [] = D at *
  rw [call_fn (f := 19) (by rfl) (by simp)]
  simp [h, oV, oC, putC]

end Go.Proofs.YtaennaoaoahjmaaDoor
