/-
  The record's law: which records are good, as the document says: the call.
-/
import Derived.Test.YtaennaoaoahjmaaDoorV3
import Derived.Test.YtaennaoaoahjmaaDoorV1
import Derived.Test.YtaennaoaoahjmaaDoorV8
set_option maxRecDepth 100000
set_option linter.unusedSimpArgs false
set_option linter.unusedVariables false
namespace Go.Proofs.YtaennaoaoahjmaaDoor
open Go.Det

theorem rszP_true {r : Rec} (h : rszP r = true) : 2 ≤ r.data ∧ r.data ≤ (if r.growing then 7 else 8) ∧ (r.seats.length : Int) = r.data + (if r.growing then 3 else 2) ∧ (r.slots = 2 ∨ r.slots = 4 ∨ r.slots = 8 ∨ r.slots = 16) ∧
    0 ≤ r.mark ∧ r.mark ≤ r.slots ∧ ¬ (r.mark > 0 ∧ r.growing = false) ∧ 0 ≤ r.built ∧ r.built ≤ r.slots ∧ 1 ≤ r.mems.length ∧ r.mems.length ≤ 12 := by
  unfold rszP at h
  by_cases c1 : r.data < 2 ∨ r.data > (if r.growing then 7 else 8) ∨ ¬ (r.seats.length : Int) = r.data + (if r.growing then 3 else 2)
  · rw [if_pos c1] at h; cases h
  rw [if_neg c1] at h
  by_cases c2 : four r.slots = false
  · rw [if_pos c2] at h; cases h
  rw [if_neg c2] at h
  by_cases c3 : r.mark < 0 ∨ r.mark > r.slots ∨ (r.mark > 0 ∧ r.growing = false)
  · rw [if_pos c3] at h; cases h
  rw [if_neg c3, decide_eq_true_eq] at h
  simp only [not_or, Int.not_lt, Decidable.not_not] at c1 c3
  refine ⟨c1.1, by omega, c1.2.2, (four_iff _).1 (by simpa using c2), c3.1, by omega, c3.2.2, h.1, h.2.1, h.2.2.1, h.2.2.2⟩

set_option maxHeartbeats 16000000 in
theorem rgood_ev (k : Nat) (M : Mem) (r : Rec) (sv mv : AV) (h : IsRec M r sv mv) : callFn SP (k + 2) 57 [recV r sv mv] M = some (.bool (rgoodP r), [], M) := by
  cases hz : rszP r
  · rw [rgood_sz (k + 1) M r sv mv h hz]
    unfold rgoodP
    rw [hz]; rfl
  have hl := l12a k M r sv mv (AV.under 0 sv && AV.under 0 mv && (sv.noNil && mv.noNil)) h r.mems.length rfl r.mems.length 0 (r.mems.length + 1) 0 (by omega) (by omega) (by omega) (by omega)
  have hb := fun b => l12b (callFn SP (k + 1)) M r sv mv (AV.under 0 sv && AV.under 0 mv && (sv.noNil && mv.noNil)) h b r.seats.length rfl r.seats.length 0 (r.seats.length + 1) (by omega) (by omega)
  rw [List.drop_zero] at hl
  simp only [List.drop_zero] at hb
  have i1 := WS_ids h.s
  have i2 := WM_ids h.m
  have n1 := h.s.len
  have n2 := h.m.len
  have hsl := h.hs
  have hml := h.hm
  have hg : rgoodP r = match dgo r.seats r.mems 0 0 with | none => false | some b => inR r.mems.length r.seats && okB r b := by
    unfold rgoodP; rw [hz]; rfl
  obtain ⟨z1, z2, z3, z4, z5, z6, z7, z8, z9, z10, z11⟩ := rszP_true hz
  rw [hg]
  obtain ⟨count, epoch, data, slots, mark, built, growing, seats, mems⟩ := r
  simp only [okB] at *
  clear h hg hz
  rw [call_fn (f := 57) (by rfl) (by simp)]
  simp only [recV, rcells]
  generalize inR mems.length seats = IR at *
  generalize dgo seats mems 0 0 = DG at *
  have g1 : ((mems.length : Int) < 1) = False := by simp only [eq_iff_iff, iff_false]; omega
  have g12 : (12 < (mems.length : Int)) = False := by simp only [eq_iff_iff, iff_false]; omega
  have w2 : IntKind.wrap .i64 (data + 2) = data + 2 := IntWalk.i64_in _ (by split at z2 <;> omega)
  have w3 : IntKind.wrap .i64 (data + 3) = data + 3 := IntWalk.i64_in _ (by split at z2 <;> omega)
  have c1 : ¬ data < 2 := by omega
  have c5 : ¬ mark < 0 := by omega
  have c7 : ¬ built < 0 := by omega
  have c6 : ¬ slots < mark := by omega
  have c8 : ¬ slots < built := by omega
  cases growing
  · simp only [Bool.false_eq_true, if_false, and_true] at z2 z3 z7
    have c2 : ¬ 8 < data := by omega
    have c9 : ¬ 0 < mark := z7
    rcases z4 with rfl | rfl | rfl | rfl
    all_goals
      simp [n1, n2, z3, w2, g1, g12, c1, c2, c5, c6, c7, c8, c9]
      cases DG with
      | none =>
        simp only [r12a] at hl
        rw [ev_loop (mems.length + 1) (by simp [i1, i2, P0, rCell, rcells]) hl (by omega)]
        simp
      | some b =>
        simp only [r12a] at hl
        rw [ev_loop (mems.length + 1) (by simp [i1, i2, P0, rCell, rcells]) hl (by omega)]
        have hb := hb b
        cases IR
        · simp only [r12b, Bool.false_eq_true, if_false] at hb
          simp [rCell, rcells, P0]
          rw [ev_loop (seats.length + 1) (by simp [i1, i2, P0, rCell, rcells]) hb (by omega)]
          simp
        · simp only [r12b, if_true] at hb
          simp [rCell, rcells, P0]
          rw [ev_loop (seats.length + 1) (by simp [i1, i2, P0, rCell, rcells]) hb (by omega)]
          by_cases b1 : b = 1
          · simp [b1, rCell, rcells, P0]
          · by_cases b0 : b = 0
            · simp [b0, rCell, rcells, P0]
            · simp [b0, b1, rCell, rcells, P0]
  · simp only [if_true] at z2 z3
    have c2 : ¬ 7 < data := by omega
    by_cases c9 : 0 < mark
    all_goals
      rcases z4 with rfl | rfl | rfl | rfl
      all_goals
        simp [n1, n2, z3, w3, g1, g12, c1, c2, c5, c6, c7, c8, c9]
        cases DG with
        | none =>
          simp only [r12a] at hl
          rw [ev_loop (mems.length + 1) (by simp [i1, i2, P0, rCell, rcells]) hl (by omega)]
          simp
        | some b =>
          simp only [r12a] at hl
          rw [ev_loop (mems.length + 1) (by simp [i1, i2, P0, rCell, rcells]) hl (by omega)]
          have hb := hb b
          cases IR
          · simp only [r12b, Bool.false_eq_true, if_false] at hb
            simp [rCell, rcells, P0]
            rw [ev_loop (seats.length + 1) (by simp [i1, i2, P0, rCell, rcells]) hb (by omega)]
            simp
          · simp only [r12b, if_true] at hb
            simp [rCell, rcells, P0]
            rw [ev_loop (seats.length + 1) (by simp [i1, i2, P0, rCell, rcells]) hb (by omega)]
            by_cases b1 : b = 1
            · simp [b1, rCell, rcells, P0]
            · by_cases b0 : b = 0
              · simp [b0, rCell, rcells, P0]
              · simp [b0, b1, rCell, rcells, P0]

end Go.Proofs.YtaennaoaoahjmaaDoor
