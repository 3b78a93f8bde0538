/-
  The record's law: which records are good, as the document says: sizes that may not be.
-/
import Derived.Test.YtaennaoaoahjmaaDoorV2
set_option maxRecDepth 100000
set_option linter.unusedSimpArgs false
set_option linter.unusedVariables false
namespace Go.Proofs.YtaennaoaoahjmaaDoor
open Go.Det

theorem four_iff (x : Int) : four x = true ↔ x = 2 ∨ x = 4 ∨ x = 8 ∨ x = 16 := by simp [four]

set_option maxHeartbeats 16000000 in
theorem rgood_sz (k : Nat) (M : Mem) (r : Rec) (sv mv : AV) (h : IsRec M r sv mv) (hz : rszP r = false) : callFn SP (k + 1) 57 [recV r sv mv] M = some (.bool false, [], M) := by
  have n1 := h.s.len
  have n2 := h.m.len
  have hsl := h.hs
  have hml := h.hm
  obtain ⟨count, epoch, data, slots, mark, built, growing, seats, mems⟩ := r
  simp only at n1 n2 hml hsl
  unfold rszP at hz
  simp only at hz
  generalize hA : seats.length = A at *
  generalize hB : mems.length = B at *
  clear hA hB h
  rw [call_fn (f := 57) (by rfl) (by simp)]
  simp only [recV, rcells]
  have w2 : 2 ≤ data → data ≤ 8 → IntKind.wrap .i64 (data + 2) = data + 2 := fun a b => IntWalk.i64_in _ (by omega)
  have w3 : 2 ≤ data → data ≤ 8 → IntKind.wrap .i64 (data + 3) = data + 3 := fun a b => IntWalk.i64_in _ (by omega)
  cases growing
  · simp only [Bool.false_eq_true, if_false, and_true] at hz
    by_cases c1 : data < 2
    · simp [c1]
    by_cases c2 : 8 < data
    · simp [c1, c2]
    have w2 := w2 (by omega) (by omega)
    by_cases c3 : (A : Int) = data + 2
    · rw [if_neg (by omega)] at hz
      by_cases c4 : four slots = true
      · rw [if_neg (by rw [c4]; simp)] at hz
        rw [four_iff] at c4
        have g1 : ((B : Int) < 1) = (B < 1) := by simp only [eq_iff_iff]; omega
        have g12 : (12 < (B : Int)) = (12 < B) := by simp only [eq_iff_iff]; omega
        by_cases c5 : mark < 0
        · rcases c4 with rfl | rfl | rfl | rfl <;> simp [c1, c2, c3, w2, n1, n2, c5]
        by_cases c6 : slots < mark
        · rcases c4 with rfl | rfl | rfl | rfl <;> simp [c1, c2, c3, w2, n1, n2, c5, c6]
        by_cases c7 : built < 0
        · rcases c4 with rfl | rfl | rfl | rfl <;> simp [c1, c2, c3, w2, n1, n2, c5, c6, c7]
        by_cases c8 : slots < built
        · rcases c4 with rfl | rfl | rfl | rfl <;> simp [c1, c2, c3, w2, n1, n2, c5, c6, c7, c8]
        by_cases c9 : 0 < mark
        · rcases c4 with rfl | rfl | rfl | rfl <;> simp [c1, c2, c3, w2, n1, n2, c5, c6, c7, c8, c9]
        by_cases c10 : B < 1
        · rcases c4 with rfl | rfl | rfl | rfl <;> simp [c1, c2, c3, w2, n1, n2, c5, c6, c7, c8, c9, g1, g12, c10]
        by_cases c11 : 12 < B
        · rcases c4 with rfl | rfl | rfl | rfl <;> simp [c1, c2, c3, w2, n1, n2, c5, c6, c7, c8, c9, g1, g12, c10, c11]
        rw [if_neg (by omega)] at hz
        simp at hz
        omega
      · rw [four_iff] at c4
        simp only [not_or] at c4
        simp [c1, c2, c3, w2, n1, n2, c4]
    · simp [c1, c2, c3, w2, n1, n2]
  · simp only [if_true, and_false, or_false] at hz
    by_cases c1 : data < 2
    · simp [c1]
    by_cases c2 : 7 < data
    · simp [c1, c2]
    have w3 := w3 (by omega) (by omega)
    by_cases c3 : (A : Int) = data + 3
    · rw [if_neg (by omega)] at hz
      by_cases c4 : four slots = true
      · rw [if_neg (by rw [c4]; simp)] at hz
        rw [four_iff] at c4
        have g1 : ((B : Int) < 1) = (B < 1) := by simp only [eq_iff_iff]; omega
        have g12 : (12 < (B : Int)) = (12 < B) := by simp only [eq_iff_iff]; omega
        by_cases c5 : mark < 0
        · rcases c4 with rfl | rfl | rfl | rfl <;> simp [c1, c2, c3, w3, n1, n2, c5]
        by_cases c6 : slots < mark
        · rcases c4 with rfl | rfl | rfl | rfl <;> simp [c1, c2, c3, w3, n1, n2, c5, c6]
        by_cases c7 : built < 0
        · rcases c4 with rfl | rfl | rfl | rfl <;> simp [c1, c2, c3, w3, n1, n2, c5, c6, c7]
        by_cases c8 : slots < built
        · rcases c4 with rfl | rfl | rfl | rfl <;> simp [c1, c2, c3, w3, n1, n2, c5, c6, c7, c8]
        by_cases c9 : 0 < mark
        · by_cases c10 : B < 1
          · rcases c4 with rfl | rfl | rfl | rfl <;> simp [c1, c2, c3, w3, n1, n2, c5, c6, c7, c8, c9, g1, g12, c10]
          by_cases c11 : 12 < B
          · rcases c4 with rfl | rfl | rfl | rfl <;> simp [c1, c2, c3, w3, n1, n2, c5, c6, c7, c8, c9, g1, g12, c10, c11]
          rw [if_neg (by simp; omega)] at hz
          simp at hz
          omega
        by_cases c10 : B < 1
        · rcases c4 with rfl | rfl | rfl | rfl <;> simp [c1, c2, c3, w3, n1, n2, c5, c6, c7, c8, c9, g1, g12, c10]
        by_cases c11 : 12 < B
        · rcases c4 with rfl | rfl | rfl | rfl <;> simp [c1, c2, c3, w3, n1, n2, c5, c6, c7, c8, c9, g1, g12, c10, c11]
        rw [if_neg (by simp; omega)] at hz
        simp at hz
        omega
      · rw [four_iff] at c4
        simp only [not_or] at c4
        simp [c1, c2, c3, w3, n1, n2, c4]
    · simp [c1, c2, c3, w3, n1, n2]

end Go.Proofs.YtaennaoaoahjmaaDoor
