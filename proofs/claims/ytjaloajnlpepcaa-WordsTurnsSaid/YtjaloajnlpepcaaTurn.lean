/-
  Words turned: the laws.
-/
import Derived.Test.YtjaloajnlpepcaaR
import Derived.Test.YtjaloajnlpepcaaDetU
namespace Go.Proofs.Ytjaloajnlpepcaa
open Go.Det
set_option maxRecDepth 100000
set_option maxHeartbeats 4000000
set_option linter.unusedSimpArgs false
set_option linter.unusedVariables false

/-- 'cofferdamlaw01.WordsTurn'. -/
theorem law6 (k : Nat) (M : Mem) (s : Scope) (x : BitVec 32) (n : Int) (hn : -9223372036854775808 ≤ n ∧ n ≤ 9223372036854775807) : callFn SP (k + 5) 6 [u32 x, .int .i64 n] (s :: M) = some (.bool true, [], s :: M) := by
  rw [call_fn (by rfl) (by simp)]
  simp (disch := omega) [if_pos, wakes_ev, left_ev, right_ev, fun k M x => refleft_ev k M x n hn, fun k M x => refright_ev k M x n hn, right_same]

theorem ev_WordsTurn (s : Scope) (args : List AV) (h : ArgsShp s [.int .u32, .int .i64] args) : ∃ k M', callFn SP k 6 args [s] = some (.bool true, [], M') := by
  obtain ⟨_, _, rfl, h1, _, _, rfl, h2, rfl⟩ := h
  obtain ⟨x, rfl⟩ := ArgShp_u32 h1
  obtain ⟨n, rfl, hn⟩ := ArgShp_i64 h2
  exact ⟨5, _, law6 0 [] s x n hn⟩

theorem tn_mod (n : Int) : (tn n : Int) = n % 32 := by unfold tn; omega

/-- 'cofferdamlaw01.WordsTurns'. -/
theorem law7 (k : Nat) (M : Mem) (s : Scope) (x : BitVec 32) (m n : Int) : callFn SP (k + 5) 7 [u32 x, .int .i64 m, .int .i64 n] (s :: M) = some (.bool true, [], s :: M) := by
  rw [call_fn (by rfl) (by simp)]
  have e1 : rot x (tn m + tn n) = rot x (tn (m % 32 + n % 32)) := rot_eq _ _ _ (by unfold tn; omega)
  have e2 : rot x (32 - tn n) = rot x (tn (32 - n % 32)) := rot_eq _ _ _ (by unfold tn; omega)
  simp (disch := omega) [if_pos, wakes_ev, left_ev, right_ev, and_31, IntWalk.i64_in, rot_rot, e1, e2]

theorem ev_WordsTurns (s : Scope) (args : List AV) (h : ArgsShp s [.int .u32, .int .i64, .int .i64] args) : ∃ k M', callFn SP k 7 args [s] = some (.bool true, [], M') := by
  obtain ⟨_, _, rfl, h1, _, _, rfl, h2, _, _, rfl, h3, rfl⟩ := h
  obtain ⟨x, rfl⟩ := ArgShp_u32 h1
  obtain ⟨m, rfl, hm⟩ := ArgShp_i64 h2
  obtain ⟨n, rfl, hn⟩ := ArgShp_i64 h3
  exact ⟨5, _, law7 0 [] s x m n⟩
end Go.Proofs.Ytjaloajnlpepcaa
