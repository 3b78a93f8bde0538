/-
  words.Little, words.Big as wholes.
-/
import Derived.Test.YtjaloajnlpepcaaV
namespace Go.Proofs.Ytjaloajnlpepcaa
open Go.Det
set_option maxRecDepth 100000
set_option maxHeartbeats 4000000
set_option linter.unusedSimpArgs false
set_option linter.unusedVariables false

theorem each_ev (k : Nat) (M : Mem) (big : Bool) (s : List UInt8) (N : Nat) (hs : s.length = 4 * N) (hN : N < 2 ^ 40) :
    callFn SP (k + 2) 25 [.str s, .func (wf big) [] []] M = some (.tuple [.slice (some ⟨M.length, 0, N, 0⟩) N 1, .int .i64 0], [.cells ((tab (wat big s) N).map u32) true true], M) := by
  rw [call_fn (by rfl) (by simp)]
  have e1 : ((s.length : Int) % 4) = 0 := by omega
  have e2 : ((s.length : Int) / 4) = (N : Int) := by omega
  have hf := fil_zero (wat big s) 0#32 N
  have ha := fil_all (wat big s) 0#32 N
  have hl := l25 k M big s N hs hN N 0 (N + 1) (Nat.zero_add _) (Nat.lt_succ_self _)
  rw [show (0 : BitVec 32) = 0#32 from rfl, ha, hf] at hl
  simp (disch := omega) [-List.map_set, if_pos, if_neg, e1, e2, IntWalk.i64_in]
  rw [ev_loop (N + 1) (by simp) hl (by omega)]
  simp (disch := omega) [-List.map_set, if_pos]

theorem each_bad (k : Nat) (M : Mem) (big : Bool) (s : List UInt8) (hs : s.length % 4 ≠ 0) :
    callFn SP (k + 1) 25 [.str s, .func (wf big) [] []] M = some (.tuple [.slice none 0 0, .int .i64 7], [], M) := by
  rw [call_fn (by rfl) (by simp)]
  have e1 : ((s.length : Int) % 4) ≠ 0 := by omega
  simp (disch := omega) [-List.map_set, if_pos, if_neg, e1]

theorem little_ev (k : Nat) (M : Mem) (s : List UInt8) (N : Nat) (hs : s.length = 4 * N) (hN : N < 2 ^ 40) :
    callFn SP (k + 3) 12 [.str s] M = some (.tuple [.slice (some ⟨M.length, 0, N, 0⟩) N 1, .int .i64 0], [.cells ((tab (wat false s) N).map u32) true true], M) := by
  rw [call_fn (by rfl) (by simp)]
  have h := fun M => each_ev k M false s N hs hN
  simp only [wf, if_false, Bool.false_eq_true] at h
  simp (disch := omega) [-List.map_set, if_pos, if_neg, h]

theorem big_ev (k : Nat) (M : Mem) (s : List UInt8) (N : Nat) (hs : s.length = 4 * N) (hN : N < 2 ^ 40) :
    callFn SP (k + 3) 14 [.str s] M = some (.tuple [.slice (some ⟨M.length, 0, N, 0⟩) N 1, .int .i64 0], [.cells ((tab (wat true s) N).map u32) true true], M) := by
  rw [call_fn (by rfl) (by simp)]
  have h := fun M => each_ev k M true s N hs hN
  simp only [wf, if_true] at h
  simp (disch := omega) [-List.map_set, if_pos, if_neg, h]

theorem little_bad (k : Nat) (M : Mem) (s : List UInt8) (hs : s.length % 4 ≠ 0) :
    callFn SP (k + 2) 12 [.str s] M = some (.tuple [.slice none 0 0, .int .i64 7], [], M) := by
  rw [call_fn (by rfl) (by simp)]
  have h := fun M => each_bad k M false s hs
  simp only [wf, if_false, Bool.false_eq_true] at h
  simp (disch := omega) [-List.map_set, if_pos, if_neg, h]

theorem big_bad (k : Nat) (M : Mem) (s : List UInt8) (hs : s.length % 4 ≠ 0) :
    callFn SP (k + 2) 14 [.str s] M = some (.tuple [.slice none 0 0, .int .i64 7], [], M) := by
  rw [call_fn (by rfl) (by simp)]
  have h := fun M => each_bad k M true s hs
  simp only [wf, if_true] at h
  simp (disch := omega) [-List.map_set, if_pos, if_neg, h]

end Go.Proofs.Ytjaloajnlpepcaa
