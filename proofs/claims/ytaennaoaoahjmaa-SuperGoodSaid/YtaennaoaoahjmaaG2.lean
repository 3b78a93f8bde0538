/-
  The record's law: records held against each other, the call.
-/
import Derived.Test.YtaennaoaoahjmaaF
set_option maxRecDepth 100000
set_option linter.unusedSimpArgs false
set_option linter.unusedVariables false
namespace Go.Proofs.Ytaennaoaoahjmaa
open Go.Det

set_option maxHeartbeats 16000000 in
theorem same_ev (k : Nat) (M : Mem) (a b : Rec) (sa ma sb mb : AV) (ha : IsRec M a sa ma) (hb : IsRec M b sb mb) : callFn SP (k + 1) 14 [recV a sa ma, recV b sb mb] M = some (.bool (decide (a = b)), [], M) := by
  have la := l14a (callFn SP k) M a b sa ma sb mb
  have lb := l14b (callFn SP k) M a b sa ma sb mb
  have i1 := WS_ids ha.s
  have i2 := WM_ids ha.m
  have i3 := WS_ids hb.s
  have i4 := WM_ids hb.m
  have n1 := ha.s.len
  have n2 := ha.m.len
  have n3 := hb.s.len
  have n4 := hb.m.len
  have hsl := ha.hs
  have hml := ha.hm
  obtain ⟨ac, ae, ad, as1, am, ab, ag, aS, aM⟩ := a
  obtain ⟨bc, be, bd, bs, bm, bb, bg, bS, bM⟩ := b
  simp only at n1 n2 n3 n4 hsl hml
  rw [call_fn (f := 14) (by rfl) (by simp)]
  simp only [recV, rcells, Rec.mk.injEq]
  simp
  by_cases c1 : ¬ ac = bc
  · simp [c1]
  simp only [Decidable.not_not] at c1
  subst c1
  simp
  by_cases c2 : ¬ ae = be
  · simp [c2]
  simp only [Decidable.not_not] at c2
  subst c2
  simp
  by_cases c3 : ¬ ad = bd
  · simp [c3]
  simp only [Decidable.not_not] at c3
  subst c3
  simp
  by_cases c4 : ¬ as1 = bs
  · simp [c4]
  simp only [Decidable.not_not] at c4
  subst c4
  simp
  by_cases c5 : ¬ am = bm
  · simp [c5]
  simp only [Decidable.not_not] at c5
  subst c5
  simp
  by_cases c6 : ¬ ab = bb
  · simp [c6]
  simp only [Decidable.not_not] at c6
  subst c6
  simp
  by_cases c7 : ¬ ag = bg
  · cases ag <;> cases bg <;> first | exact absurd rfl c7 | simp
  simp only [Decidable.not_not] at c7
  subst c7
  have g7 : (!(ag == ag)) = false := by cases ag <;> rfl
  cases ag
  all_goals simp [n1, n3]
  all_goals
    by_cases c8 : ¬ aS.length = bS.length
    · have c8' : ¬ (aS.length : Int) = bS.length := by omega
      have hne : ¬ aS = bS := fun h => c8 (by rw [h])
      simp [c8', hne]
    simp only [Decidable.not_not] at c8
    have c8' : (aS.length : Int) = bS.length := by omega
    simp [c8', n2, n4]
    by_cases c9 : ¬ aM.length = bM.length
    · have c9' : ¬ (aM.length : Int) = bM.length := by omega
      have hne : ¬ aM = bM := fun h => c9 (by rw [h])
      simp [c9', hne]
    simp only [Decidable.not_not] at c9
    have c9' : (aM.length : Int) = bM.length := by omega
    simp [c9', n1]
    have hla := la (AV.under 0 sa && AV.under 0 ma && (sa.noNil && ma.noNil)) (AV.under 0 sb && AV.under 0 mb && (sb.noNil && mb.noNil)) ha hb bS.length c8 rfl bS.length 0 (bS.length + 1) (by omega) (by omega)
    have hlb := lb (AV.under 0 sb && AV.under 0 mb && (sb.noNil && mb.noNil)) ha hb bM.length c9 rfl bM.length 0 (bM.length + 1) (by omega) (by omega)
    simp only [List.drop_zero] at hla hlb
    have hSl : bS.length < 2 ^ 40 := by omega
    have hMl : bM.length < 2 ^ 40 := by omega
    by_cases hS : aS = bS
    · simp only [hS, decide_true, r14a, if_true] at hla
      rw [ev_loop (bS.length + 1) (by simp [i1, i2, i3, i4, P0, rcells, c8', c9']) hla (by omega)]
      simp [P0, rcells, n2, c9', hS]
      by_cases hM : aM = bM
      · simp only [hM, decide_true, r14b, if_true] at hlb
        rw [ev_loop (bM.length + 1) (by simp [i1, i2, i3, i4, P0, rcells, c8', c9']) hlb (by omega)]
        simp [hM]
      · simp only [hM, decide_false, r14b, Bool.false_eq_true, if_false] at hlb
        rw [ev_loop (bM.length + 1) (by simp [i1, i2, i3, i4, P0, rcells, c8', c9']) hlb (by omega)]
        simp [hM]
    · simp only [hS, decide_false, r14a, Bool.false_eq_true, if_false] at hla
      rw [ev_loop (bS.length + 1) (by simp [i1, i2, i3, i4, P0, rcells, c8', c9']) hla (by omega)]
      simp [hS]

end Go.Proofs.Ytaennaoaoahjmaa
