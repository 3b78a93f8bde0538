/-
  CHACHA: a quarter of a round of every words is the standard's.
-/
import Derived.Test.YtemjbimaghdokaaA
set_option maxRecDepth 100000
set_option maxHeartbeats 4000000
set_option linter.unusedSimpArgs false
set_option linter.unusedVariables false
namespace Go.Proofs.Ytemjbimaghdokaa
open Go.Det Go.Det.C

theorem law3 (k : Nat) (M : Mem) (a b c d : BitVec 32) : callFn SP (k + 7) 3 [.agg [u32 a, u32 b, u32 c, u32 d]] M = some (.bool true, [], M) := by
  have b1 := fun k M => qrt k M a b c d
  have b2 := fun k M => refquarter_ev (SP := SP) (n12 := 12) (n20 := 20) rfl rfl k M a b c d
  rw [call_fn (by rfl) (by simp)]
  simp (disch := omega) [b1, b2, wakes, if_pos]

theorem ev_ChachaQuarter (s : Scope) (args : List AV) (h : ArgsShp s [.arr 4 (.int .u32)] args) : ∃ k M', callFn SP k 3 args [s, mk []] = some (.bool true, [], M') := by
  obtain ⟨_, _, rfl, h1, rfl⟩ := h
  obtain ⟨l, hl, rfl⟩ := ArgShp_arr32 h1
  match l, hl with
  | [a, b, c, d], _ => exact ⟨7, _, law3 0 [s, mk []] a b c d⟩
end Go.Proofs.Ytemjbimaghdokaa
