/-
  The record's law: records held against each other, the call.
-/
import Derived.Test.YtaennaoaoahjmaaDoorE
set_option maxRecDepth 100000
set_option linter.unusedSimpArgs false
set_option linter.unusedVariables false
namespace Go.Proofs.YtaennaoaoahjmaaDoor
open Go.Det

def r14b (M : Mem) (b : Bool) : Option (Ex × Env × Mem) := if b then some (.exit 2, x23_1 .dead, mk [] :: M) else some (.ret, x23_1 (.bool false), mk [] :: M)

set_option maxHeartbeats 8000000 in
theorem l14b (C : Det.Calls) (M : Mem) (a b : Rec) (sa ma sb mb : AV) (fb : Bool) (ha : IsRec M a sa ma) (hb : IsRec M b sb mb) (N : Nat) (h1 : a.mems.length = N) (h2 : b.mems.length = N) (j : Nat) : ∀ (i n : Nat), i + j = N → j < n →
    fgt a23_1 (rnd0 (some (e23_1 (P0 M 4) ma (.int .i64 N) (.int .i64 i), mk [(4, .cells (rcells b sb mb) true fb)] :: M)) k23_1 C s23_b1 n) =
      r14b M (decide (a.mems.drop i = b.mems.drop i)) := by
  have i2 := WM_ids ha.m
  have i3 := WS_ids hb.s
  have i4 := WM_ids hb.m
  have hNl := ha.hm
  induction j with
  | zero =>
    intro i n h hn
    obtain rfl : i = N := by omega
    rw [rnd0_some, List.drop_of_length_le (by omega), List.drop_of_length_le (by omega)]
    conv => lhs; arg 2; arg 1; rw [s23_b1]
    simp [P0, rcells, r14b, i2, i3, i4]
  | succ j ih0 =>
    intro i n h hn
    obtain ⟨n, rfl⟩ : ∃ m, n = m + 1 := ⟨n - 1, by omega⟩
    have hi : i < N := by omega
    have ih := ih0 (i + 1) n (by omega) (by omega)
    have hs1 := ha.m
    have hs2 := hb.m
    obtain ⟨d, id, z, rw_, fl, r, hvv, hd, hg⟩ := hs1.block (by omega)
    obtain ⟨d', id', z', rw', fl', r', hvv', hd', hg'⟩ := hs2.block (by omega)
    subst hvv hvv'
    have sa1 := flat_seg mc_len r a.mems i (by omega)
    have sb1 := flat_seg mc_len r' b.mems i (by omega)
    have la : i * 3 + 3 ≤ (a.mems.flatMap mc ++ r).length := by rw [List.length_append, flat_len mc_len]; omega
    have lb : i * 3 + 3 ≤ (b.mems.flatMap mc ++ r').length := by rw [List.length_append, flat_len mc_len]; omega
    have hn1 : d ≠ M.length := by omega
    have hn2 : d' ≠ M.length := by omega
    rw [drop_nth a.mems i (by omega), drop_nth b.mems i (by omega)]
    rw [rnd0_some]
    conv => lhs; arg 2; arg 1; rw [s23_b1]
    clear hs1 hs2
    generalize a.mems.flatMap mc ++ r = BA at sa1 la hg
    generalize b.mems.flatMap mc ++ r' = BB at sb1 lb hg'
    have e1 : mc (nth a.mems i) = [.int .i64 (nth a.mems i).st, .str (nth a.mems i).top, .str (nth a.mems i).log] := rfl
    have e2 : mc (nth b.mems i) = [.int .i64 (nth b.mems i).st, .str (nth b.mems i).top, .str (nth b.mems i).log] := rfl
    rw [e1] at sa1
    rw [e2] at sb1
    clear e1 e2
    have e : (nth a.mems i :: a.mems.drop (i + 1) = nth b.mems i :: b.mems.drop (i + 1)) = (((nth a.mems i).st = (nth b.mems i).st ∧ (nth a.mems i).top = (nth b.mems i).top ∧ (nth a.mems i).log = (nth b.mems i).log) ∧ a.mems.drop (i + 1) = b.mems.drop (i + 1)) := by
      rw [List.cons.injEq]
      have : (nth a.mems i = nth b.mems i) = ((nth a.mems i).st = (nth b.mems i).st ∧ (nth a.mems i).top = (nth b.mems i).top ∧ (nth a.mems i).log = (nth b.mems i).log) := by
        cases nth a.mems i; cases nth b.mems i; simp
      rw [this]
    simp only [e]
    generalize (nth a.mems i).st = x1 at *
    generalize (nth a.mems i).top = x2 at *
    generalize (nth a.mems i).log = x3 at *
    generalize (nth b.mems i).st = y1 at *
    generalize (nth b.mems i).top = y2 at *
    generalize (nth b.mems i).log = y3 at *
    by_cases c1 : x1 = y1
    · subst c1
      by_cases c2 : x2 = y2
      · subst c2
        by_cases c3 : x3 = y3
        · subst c3
          simpa (disch := omega) [hi, get_low, hd, hg, sa1, la, hd', hg', sb1, lb, h1, h2, if_pos, hn1, hn2, IntWalk.i64_in, P0, rcells, i3] using ih
        · simp (disch := omega) [hi, get_low, hd, hg, sa1, la, hd', hg', sb1, lb, h1, h2, if_pos, hn1, hn2, IntWalk.i64_in, P0, rcells, i3, c3, r14b]
      · simp (disch := omega) [hi, get_low, hd, hg, sa1, la, hd', hg', sb1, lb, h1, h2, if_pos, hn1, hn2, IntWalk.i64_in, P0, rcells, i3, c2, r14b]
    · simp (disch := omega) [hi, get_low, hd, hg, sa1, la, hd', hg', sb1, lb, h1, h2, if_pos, hn1, hn2, IntWalk.i64_in, P0, rcells, i3, c1, r14b]

end Go.Proofs.YtaennaoaoahjmaaDoor

namespace Go.Proofs.YtaennaoaoahjmaaDoor
open Go.Det

set_option maxHeartbeats 16000000 in
theorem same_ev (k : Nat) (M : Mem) (a b : Rec) (sa ma sb mb : AV) (ha : IsRec M a sa ma) (hb : IsRec M b sb mb) : callFn SP (k + 1) 23 [recV a sa ma, recV b sb mb] M = some (.bool (decide (a = b)), [], M) := by
  have la := l14a (callFn SP k) M a b sa ma sb mb
  have lb := l14b (callFn SP k) M a b sa ma sb mb
  have i1 := WS_ids ha.s
  have i2 := WM_ids ha.m
  have i3 := WS_ids hb.s
  have i4 := WM_ids hb.m
  have n1 := ha.s.len
  have n2 := ha.m.len
  have n3 := hb.s.len
  have n4 := hb.m.len
  have hsl := ha.hs
  have hml := ha.hm
  obtain ⟨ac, ae, ad, as1, am, ab, ag, aS, aM⟩ := a
  obtain ⟨bc, be, bd, bs, bm, bb, bg, bS, bM⟩ := b
  simp only at n1 n2 n3 n4 hsl hml
  rw [call_fn (f := 23) (by rfl) (by simp)]
  simp only [recV, rcells, Rec.mk.injEq]
  simp
  by_cases c1 : ¬ ac = bc
  · simp [c1]
  simp only [Decidable.not_not] at c1
  subst c1
  simp
  by_cases c2 : ¬ ae = be
  · simp [c2]
  simp only [Decidable.not_not] at c2
  subst c2
  simp
  by_cases c3 : ¬ ad = bd
  · simp [c3]
  simp only [Decidable.not_not] at c3
  subst c3
  simp
  by_cases c4 : ¬ as1 = bs
  · simp [c4]
  simp only [Decidable.not_not] at c4
  subst c4
  simp
  by_cases c5 : ¬ am = bm
  · simp [c5]
  simp only [Decidable.not_not] at c5
  subst c5
  simp
  by_cases c6 : ¬ ab = bb
  · simp [c6]
  simp only [Decidable.not_not] at c6
  subst c6
  simp
  by_cases c7 : ¬ ag = bg
  · cases ag <;> cases bg <;> first | exact absurd rfl c7 | simp
  simp only [Decidable.not_not] at c7
  subst c7
  have g7 : (!(ag == ag)) = false := by cases ag <;> rfl
  cases ag
  all_goals simp [n1, n3]
  all_goals
    by_cases c8 : ¬ aS.length = bS.length
    · have c8' : ¬ (aS.length : Int) = bS.length := by omega
      have hne : ¬ aS = bS := fun h => c8 (by rw [h])
      simp [c8', hne]
    simp only [Decidable.not_not] at c8
    have c8' : (aS.length : Int) = bS.length := by omega
    simp [c8', n2, n4]
    by_cases c9 : ¬ aM.length = bM.length
    · have c9' : ¬ (aM.length : Int) = bM.length := by omega
      have hne : ¬ aM = bM := fun h => c9 (by rw [h])
      simp [c9', hne]
    simp only [Decidable.not_not] at c9
    have c9' : (aM.length : Int) = bM.length := by omega
    simp [c9', n1]
    have hla := la (AV.under 0 sa && AV.under 0 ma && (sa.noNil && ma.noNil)) (AV.under 0 sb && AV.under 0 mb && (sb.noNil && mb.noNil)) ha hb bS.length c8 rfl bS.length 0 (bS.length + 1) (by omega) (by omega)
    have hlb := lb (AV.under 0 sb && AV.under 0 mb && (sb.noNil && mb.noNil)) ha hb bM.length c9 rfl bM.length 0 (bM.length + 1) (by omega) (by omega)
    simp only [List.drop_zero] at hla hlb
    have hSl : bS.length < 2 ^ 40 := by omega
    have hMl : bM.length < 2 ^ 40 := by omega
    by_cases hS : aS = bS
    · simp only [hS, decide_true, r14a, if_true] at hla
      rw [ev_loop (bS.length + 1) (by simp [i1, i2, i3, i4, P0, rcells, c8', c9']) hla (by omega)]
      simp [P0, rcells, n2, c9', hS]
      by_cases hM : aM = bM
      · simp only [hM, decide_true, r14b, if_true] at hlb
        rw [ev_loop (bM.length + 1) (by simp [i1, i2, i3, i4, P0, rcells, c8', c9']) hlb (by omega)]
        simp [hM]
      · simp only [hM, decide_false, r14b, Bool.false_eq_true, if_false] at hlb
        rw [ev_loop (bM.length + 1) (by simp [i1, i2, i3, i4, P0, rcells, c8', c9']) hlb (by omega)]
        simp [hM]
    · simp only [hS, decide_false, r14a, Bool.false_eq_true, if_false] at hla
      rw [ev_loop (bS.length + 1) (by simp [i1, i2, i3, i4, P0, rcells, c8', c9']) hla (by omega)]
      simp [hS]

end Go.Proofs.YtaennaoaoahjmaaDoor
