/-
  words.FromLittle, words.FromBig as wholes.
-/
import Derived.Test.YtjaloajnlpepcaaQ
namespace Go.Proofs.Ytjaloajnlpepcaa
open Go.Det
set_option maxRecDepth 100000
set_option maxHeartbeats 4000000
set_option linter.unusedSimpArgs false
set_option linter.unusedVariables false

theorem fromlittle_ev (k : Nat) (M : Mem) (v : AV) (l : List (BitVec 32)) (hv : WS M u32 v l) (hN : l.length < 2 ^ 40) : callFn SP (k + 1) 21 [v] M = some (.str (tx false l), [], M) := by
  rw [call_fn (by rfl) (by simp)]
  have hz : ∀ v, fgt a21_0 (rnd0 (some (e21_0 (.slice (some ⟨M.length, 4012, 0, 0⟩) 0 1) v (.int .i64 (0 : Nat)) (.int .i64 (0 : Nat)), mk [(4012, .cells [] true true)] :: M)) k21_0 (callFn SP k) s21_b0 1) =
      some (.exit 0, x21_0 (.slice (some ⟨M.length, 4012, 0, 0⟩) 0 1), mk [(4012, .cells [] true true)] :: M) := by
    intro v
    rw [rnd0_some]
    conv => lhs; arg 2; arg 1; rw [s21_b0]
    simp
  rcases hv with ⟨w, rfl, rfl⟩ | ⟨w, rfl, rfl⟩ | ⟨d, id, z, rw1, fl, r, rfl, h3, h4⟩
  · simp (disch := omega) [if_pos, IntWalk.i64_in]
    rw [ev_loop 1 (by simp) (hz (.slice none 0 w)) (by omega)]
    simp [tx]
  · simp (disch := omega) [if_pos, IntWalk.i64_in]
    rw [ev_loop 1 (by simp) (hz (.slice0 w)) (by omega)]
    simp [tx]
  · have hl := l21 (callFn SP k) M d id z rw1 fl r l l.length rfl hN h3 h4 l.length 0 (l.length + 1) (Nat.zero_add _) (Nat.lt_succ_self _)
    rw [List.take_zero, tx, List.map_nil] at hl
    have hn1 : d ≠ M.length := by omega
    have hn := tx_len false l
    simp (disch := omega) [if_pos, hn1, IntWalk.i64_in]
    rw [ev_loop (l.length + 1) (by simp [hn1]) hl (by omega)]
    simp (disch := omega) [hn, if_pos]

theorem frombig_ev (k : Nat) (M : Mem) (v : AV) (l : List (BitVec 32)) (hv : WS M u32 v l) (hN : l.length < 2 ^ 40) : callFn SP (k + 1) 23 [v] M = some (.str (tx true l), [], M) := by
  rw [call_fn (by rfl) (by simp)]
  have hz : ∀ v, fgt a23_0 (rnd0 (some (e23_0 (.slice (some ⟨M.length, 4012, 0, 0⟩) 0 1) v (.int .i64 (0 : Nat)) (.int .i64 (0 : Nat)), mk [(4012, .cells [] true true)] :: M)) k23_0 (callFn SP k) s23_b0 1) =
      some (.exit 0, x23_0 (.slice (some ⟨M.length, 4012, 0, 0⟩) 0 1), mk [(4012, .cells [] true true)] :: M) := by
    intro v
    rw [rnd0_some]
    conv => lhs; arg 2; arg 1; rw [s23_b0]
    simp
  rcases hv with ⟨w, rfl, rfl⟩ | ⟨w, rfl, rfl⟩ | ⟨d, id, z, rw1, fl, r, rfl, h3, h4⟩
  · simp (disch := omega) [if_pos, IntWalk.i64_in]
    rw [ev_loop 1 (by simp) (hz (.slice none 0 w)) (by omega)]
    simp [tx]
  · simp (disch := omega) [if_pos, IntWalk.i64_in]
    rw [ev_loop 1 (by simp) (hz (.slice0 w)) (by omega)]
    simp [tx]
  · have hl := l23 (callFn SP k) M d id z rw1 fl r l l.length rfl hN h3 h4 l.length 0 (l.length + 1) (Nat.zero_add _) (Nat.lt_succ_self _)
    rw [List.take_zero, tx, List.map_nil] at hl
    have hn1 : d ≠ M.length := by omega
    have hn := tx_len true l
    simp (disch := omega) [if_pos, hn1, IntWalk.i64_in]
    rw [ev_loop (l.length + 1) (by simp [hn1]) hl (by omega)]
    simp (disch := omega) [hn, if_pos]

end Go.Proofs.Ytjaloajnlpepcaa
