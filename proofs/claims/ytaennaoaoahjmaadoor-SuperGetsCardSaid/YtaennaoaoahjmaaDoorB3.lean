/-
  The record's law: which disks are good, the call; which seats are.
-/
import Derived.Test.YtaennaoaoahjmaaDoorB2
set_option maxRecDepth 100000
set_option linter.unusedSimpArgs false
set_option linter.unusedVariables false
namespace Go.Proofs.YtaennaoaoahjmaaDoor
open Go.Det

def membersP (r : Rec) : Bool :=
  match cnt r.mems 0 with
  | none => false
  | some b => decide (b = 1) || (decide (b = 0) && decide (r.built = 0))

set_option maxHeartbeats 4000000 in
theorem members_ev (k : Nat) (M : Mem) (r : Rec) (sv mv : AV) (h : IsRec M r sv mv) : callFn SP (k + 1) 55 [recV r sv mv] M = some (.bool (membersP r), [], M) := by
  have hl := l24 (callFn SP k) M r sv mv (AV.under 0 sv && AV.under 0 mv && (sv.noNil && mv.noNil)) h r.mems.length rfl r.mems.length 0 (r.mems.length + 1) 0 (by omega) (by omega) (by omega) (by omega)
  rw [List.drop_zero] at hl
  have i1 := WS_ids h.s
  have i2 := WM_ids h.m
  have n2 := h.m.len
  have hml := h.hm
  obtain ⟨v3, hl⟩ := hl
  obtain ⟨count, epoch, data, slots, mark, built, growing, seats, mems⟩ := r
  simp only at hl n2 hml
  rw [call_fn (f := 55) (by rfl) (by simp)]
  simp only [recV, rcells, membersP]
  simp [n2]
  cases hc : cnt mems 0 with
  | none =>
    rw [hc] at hl
    simp only [r24] at hl
    rw [ev_loop (mems.length + 1) (by simp [i1, i2, P0, rCell, rcells]) hl (by omega)]
    simp
  | some b =>
    rw [hc] at hl
    simp only [r24] at hl
    rw [ev_loop (mems.length + 1) (by simp [i1, i2, P0, rCell, rcells]) hl (by omega)]
    by_cases b1 : b = 1
    · simp [b1, rCell, rcells, P0]
    · by_cases b0 : b = 0
      · simp [b0, rCell, rcells, P0]
      · simp [b0, b1, rCell, rcells, P0]

end Go.Proofs.YtaennaoaoahjmaaDoor
