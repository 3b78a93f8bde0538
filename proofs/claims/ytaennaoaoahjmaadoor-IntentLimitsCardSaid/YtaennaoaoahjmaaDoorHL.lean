/-
  The log's law IntentLimits: its arguments.
-/
import Derived.Test.YtaennaoaoahjmaaDoorHK
set_option linter.unusedVariables false
namespace Go.Proofs.YtaennaoaoahjmaaDoor
open Go.Det Go.Det.S

theorem ev_IntentLimits (s : Scope) (args : List AV) (h : ArgsShp s [.int .i64, .int .i64, .int .i64] args) : ∃ k M', callFn SP k 5 args [s, gScope G2] = some (.bool true, [], M') := by
  obtain ⟨_, _, rfl, h1, _, _, rfl, h2, _, _, rfl, h3, rfl⟩ := h
  obtain ⟨a, rfl, _⟩ := ArgShp_int h1
  obtain ⟨b, rfl, _⟩ := ArgShp_int h2
  obtain ⟨c, rfl, _⟩ := ArgShp_int h3
  exact ⟨13, _, limits_core [s, gScope G2] (gl_sha2 s) a b c⟩

end Go.Proofs.YtaennaoaoahjmaaDoor
