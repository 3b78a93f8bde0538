/-
  POLY, part B: the first half of every key is the document's.
-/
import Derived.Test.YtpaagjjgmlmngaaA
import Derived.Test.YtpaagjjgmlmngaaLibPG
set_option maxRecDepth 100000
set_option maxHeartbeats 4000000
set_option linter.unusedSimpArgs false
set_option linter.unusedVariables false
namespace Go.Proofs.Ytpaagjjgmlmngaa
open Go.Det Go.Det.P Go.Det.PR

abbrev rclpC (k M r) := refclamp_ev (SP := SP) (n17 := 17) rfl k M r

theorem law4 (k : Nat) (M : Mem) (r s : List UInt8) (hr : r.length = 16) : callFn SP (k + 7) 4 [.agg (r.map byteAV), .str s] M = some (.bool true, [], M) := by
  have b1 : ∀ (x : List UInt8) (n : Nat), bytesOf ((x.map byteAV).take n) = some (x.take n) := fun x n => by rw [← List.map_take, bytesOf_map]
  have tk : r.take 16 = r := List.take_of_length_le (by omega)
  rw [call_fn (by rfl) (by simp)]
  simp (disch := omega) [hr, b1, tk, clpC, rclpC, wakes, if_pos]

theorem ev_PolyClamps (s : Scope) (args : List AV) (h : ArgsShp s [.arr 16 (.int .u8), .str] args) : ∃ k M', callFn SP k 4 args [s, mk []] = some (.bool true, [], M') := by
  obtain ⟨_, _, rfl, h1, _, _, rfl, h2, rfl⟩ := h
  obtain ⟨r, hr, rfl⟩ := ArgShp_arr8 h1
  obtain ⟨x, rfl, hx⟩ := ArgShp_str h2
  exact ⟨7, _, law4 0 [s, mk []] r x hr⟩
end Go.Proofs.Ytpaagjjgmlmngaa
