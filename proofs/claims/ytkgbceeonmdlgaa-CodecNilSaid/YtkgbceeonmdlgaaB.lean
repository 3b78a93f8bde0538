/-
  CODEC: numbers and texts are written as the document says; of no reader nothing is read.
-/
import Derived.Test.YtkgbceeonmdlgaaA
import Derived.Test.YtkgbceeonmdlgaaDetU
set_option maxRecDepth 100000
set_option maxHeartbeats 4000000
set_option linter.unusedSimpArgs false
set_option linter.unusedVariables false
namespace Go.Proofs.Ytkgbceeonmdlgaa
open Go.Det Go.Det.K

theorem law5 (k : Nat) (M : Mem) (n : BitVec 64) (s : List UInt8) (hs : s.length < 2 ^ 48) : callFn SP (k + 7) 5 [u64 n, .str s] M = some (.bool true, [], M) := by
  rw [call_fn (by rfl) (by simp)]
  by_cases h : s.length < 2000
  · simp (disch := omega) [wakes, num, rfnum, text, rftext, if_pos]
  · simp (disch := first | omega | (simp; done) | (simp; omega)) [wakes, num, rfnum, text, rftext, if_pos]

theorem ev_CodecWrites (s : Scope) (args : List AV) (h : ArgsShp s [.int .u64, .str] args) : ∃ k M', callFn SP k 5 args [s, mk []] = some (.bool true, [], M') := by
  obtain ⟨_, _, rfl, h1, _, _, rfl, h2, rfl⟩ := h
  obtain ⟨n, rfl⟩ := ArgShp_u64 h1
  obtain ⟨x, rfl, hx⟩ := ArgShp_str h2
  exact ⟨7, _, law5 0 [s, mk []] n x (by unfold reachBytes at hx; omega)⟩

theorem law10 (k : Nat) (M : Mem) (b : Int) : callFn SP (k + 7) 10 [.int .i64 b] M = some (.bool true, [], M) := by
  have n26 := fun k M => num_nil (SP := SP) (n26 := 26) (n40 := 40) (n41 := 41) (n43 := 43) (n44 := 44) rfl rfl rfl rfl rfl k M
  have n25 := fun k M => text_nil (SP := SP) (n25 := 25) (n26 := 26) (n40 := 40) (n41 := 41) (n43 := 43) (n44 := 44) rfl rfl rfl rfl rfl rfl k M
  have n30 := fun k M b => below_nil (SP := SP) (n30 := 30) (n26 := 26) (n40 := 40) (n41 := 41) (n43 := 43) (n44 := 44) rfl rfl rfl rfl rfl rfl k M b
  have n34 := fun k M => K.left_nil (SP := SP) (n34 := 34) rfl k M
  have n27 := fun k M => done_nil (SP := SP) (n27 := 27) rfl k M
  rw [call_fn (by rfl) (by simp)]
  simp (disch := omega) [wakes, n26, n25, n30, n34, n27]

theorem ev_CodecNil (s : Scope) (args : List AV) (h : ArgsShp s [.int .i64] args) : ∃ k M', callFn SP k 10 args [s, mk []] = some (.bool true, [], M') := by
  obtain ⟨_, _, rfl, h1, rfl⟩ := h
  obtain ⟨n, rfl, _⟩ := ArgShp_i64 h1
  exact ⟨7, _, law10 0 [s, mk []] n⟩
end Go.Proofs.Ytkgbceeonmdlgaa
