/-
  NONCE: every source tells the document's numbers.
-/
import Derived.Test.YtkgbceeonmdlgaaR
set_option maxRecDepth 100000
set_option maxHeartbeats 4000000
set_option linter.unusedSimpArgs false
set_option linter.unusedVariables false
namespace Go.Proofs.Ytkgbceeonmdlgaa
open Go.Det Go.Det.K

theorem l3 (k : Nat) (M : Mem) (e : BitVec 64) (N : Nat) (hN : N < 50) (f1 f2 : Bool) (j : Nat) : ∀ (i n : Nat) (x : BitVec 64), i + j = N → j < n →
    fgt a3_0 (rnd0 (some (e3_0 (.ptr (some ⟨M.length, 4008, 2, 0⟩)) (.ptr (some ⟨M.length, 28012, 2, 0⟩)) (.int .i64 N) (.int .i64 i), mk [(4008, .cells [u64 e, u64 x] true f1), (28012, .cells [u64 e, u64 x] true f2)] :: M)) k3_0 (callFn SP (k + 6)) s3_b0 n) =
      some (.exit 0, x3_0 .dead, mk [] :: M) := by
  induction j with
  | zero =>
    intro i n x h hn
    obtain rfl : i = N := by omega
    rw [rnd0_some]
    conv => lhs; arg 2; arg 1; rw [s3_b0]
    simp
  | succ j ih0 =>
    intro i n x h hn
    obtain ⟨n, rfl⟩ : ∃ m, n = m + 1 := ⟨n - 1, by omega⟩
    have hi : i < N := by omega
    rw [rnd0_some]
    conv => lhs; arg 2; arg 1; rw [s3_b0]
    by_cases hx : x ≤ 4294967295#64
    · have ih := ih0 (i + 1) n (x + 1#64) (by omega) (by omega)
      simpa (disch := first | omega | assumption | (simp; done) | (simp; omega)) [hi, next_top_ok, refnext_snd_ok, left_top', IntWalk.i64_in] using ih
    · have ih := ih0 (i + 1) n x (by omega) (by omega)
      simpa (disch := first | omega | assumption | (simp; done) | (simp; omega)) [hi, next_top_no, refnext_snd_no, left_top', IntWalk.i64_in] using ih

theorem law3 (k : Nat) (M : Mem) (e x : BitVec 64) (n : Int) : callFn SP (k + 7) 3 [u64 e, u64 x, .int .i64 n] M = some (.bool true, [], M) := by
  rw [call_fn (by rfl) (by simp)]
  by_cases h : mayE e ∧ x ≤ 4294967295#64
  · have hnw := fun k M => new_ok k M e x h
    simp only [sc] at hnw
    obtain ⟨N, hN1, hN2⟩ : ∃ N : Nat, (max 0 n).tmod 50 = N ∧ N < 50 := by
      refine ⟨(max 0 n).toNat % 50, ?_, Nat.mod_lt _ (by omega)⟩
      have h0 : max 0 n = ((max 0 n).toNat : Int) := by omega
      rw [Int.tmod_eq_emod_of_nonneg (by omega)]
      omega
    have hlp := l3 k M e N hN2 true true N 0 51 x (by omega) (by omega)
    simp (disch := omega) [hnw, wakes16, refmay_ev, h, hN1]
    rw [ev_loop 51 (by simp) hlp (by omega)]
    simp
  · have hnw := fun k M => new_no k M e x h
    simp (disch := omega) [hnw, wakes16, refmay_ev, h, next_nil, left_nil]

theorem ev_NoncePlays (s : Scope) (args : List AV) (h : ArgsShp s [.int .u64, .int .u64, .int .i64] args) : ∃ k M', callFn SP k 3 args [s, mk []] = some (.bool true, [], M') := by
  obtain ⟨_, _, rfl, h1, _, _, rfl, h2, _, _, rfl, h3, rfl⟩ := h
  obtain ⟨e, rfl⟩ := ArgShp_u64 h1
  obtain ⟨x, rfl⟩ := ArgShp_u64 h2
  obtain ⟨n, rfl, _⟩ := ArgShp_i64 h3
  exact ⟨7, _, law3 0 [s, mk []] e x n⟩
end Go.Proofs.Ytkgbceeonmdlgaa
