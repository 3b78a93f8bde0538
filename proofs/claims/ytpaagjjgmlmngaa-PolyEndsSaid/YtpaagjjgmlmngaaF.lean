/-
  POLY, part F: texts of full bytes.
-/
import Derived.Test.YtpaagjjgmlmngaaD
set_option maxRecDepth 100000
set_option maxHeartbeats 1000000
set_option linter.unusedSimpArgs false
set_option linter.unusedVariables false
namespace Go.Proofs.Ytpaagjjgmlmngaa
open Go.Det Go.Det.P Go.Det.PR

/-- The first i bytes are full. -/
def fb (N i : Nat) : List UInt8 := tab (fun p => if p < i then 255 else 0) N
theorem fb_len (N i : Nat) : (fb N i).length = N := by simp [fb]
theorem fb_zero (N : Nat) : fb N 0 = List.replicate N 0 := by
  refine List.ext_getElem (by simp [fb]) fun i h1 h2 => ?_
  simp [fb, tab]
theorem fb_set (N i : Nat) (h : i < N) : (fb N i).set i 255 = fb N (i + 1) := by
  refine nth_ext (by simp [fb]) fun k hk => ?_
  simp [fb] at hk
  rw [nth_set _ _ _ _ (by rw [fb_len]; omega), fb, nth_tab _ _ _ hk, fb, nth_tab _ _ _ hk]
  by_cases h1 : i = k
  · subst h1; simp
  · rw [if_neg h1]
    by_cases h2 : k < i
    · rw [if_pos h2, if_pos (by omega)]
    · rw [if_neg h2, if_neg (by omega)]

theorem l6 (C : Det.Calls) (M : Mem) (key : List UInt8) (m : UInt8) (N : Nat) (hN : N < 100) (hk : key.length = 32) (j : Nat) : ∀ (i fu : Nat), i + j = N → j < fu →
    fgt a6_0 (rnd0 (some (e6_0 (byteAV m) (.ptr (some ⟨M.length, 0, 32, 0⟩)) (.slice (some ⟨M.length, 4012, N, 0⟩) N 1) (.int .i64 N) (.int .i64 i), mk [(0, .cells (key.map byteAV) true true), (4012, .cells ((fb N i).map byteAV) true true)] :: M)) k6_0 C s6_b0 fu) =
      some (.exit 0, x6_0 (byteAV m) (.ptr (some ⟨M.length, 0, 32, 0⟩)) (.slice (some ⟨M.length, 4012, N, 0⟩) N 1), mk [(0, .cells (key.map byteAV) true true), (4012, .cells ((fb N N).map byteAV) true true)] :: M) := by
  induction j with
  | zero =>
    intro i fu h hf
    obtain rfl : i = N := by omega
    rw [rnd0_some]
    conv => lhs; arg 2; arg 1; rw [s6_b0]
    generalize fb i i = Z
    simp
  | succ j ih0 =>
    intro i fu h hf
    obtain ⟨fu, rfl⟩ : ∃ m, fu = m + 1 := ⟨fu - 1, by omega⟩
    have hi : i < N := by omega
    have ih := ih0 (i + 1) fu (by omega) (by omega)
    have hl := fb_len N i
    have hs : ((fb N i).map byteAV).set i (byteAV 255) = (fb N (i + 1)).map byteAV := by rw [← fb_set N i hi, List.map_set]
    generalize fb N (i + 1) = Z2 at *
    generalize fb N i = Z at *
    generalize fb N N = Z3 at *
    rw [rnd0_some]
    conv => lhs; arg 2; arg 1; rw [s6_b0]
    simpa (disch := omega) [-List.map_set, hi, hl, hs, if_pos, IntWalk.i64_in] using ih

theorem law6 (k : Nat) (M : Mem) (key : List UInt8) (n : Int) (m : UInt8) (hk : key.length = 32) : callFn SP (k + 7) 6 [.agg (key.map byteAV), .int .i64 n, byteAV m] M = some (.bool true, [], M) := by
  obtain ⟨N, hN1, hN2⟩ : ∃ N : Nat, (max 0 n).tmod 100 = N ∧ N < 100 := by
    refine ⟨(max 0 n).toNat % 100, ?_, Nat.mod_lt _ (by omega)⟩
    rw [Int.tmod_eq_emod_of_nonneg (by omega)]
    omega
  have q := l6 (callFn SP (k + 6)) M key m N hN2 hk N 0 (N + 1) (by omega) (by omega)
  rw [fb_zero, List.map_replicate] at q
  have hl := fb_len N N
  generalize fb N N = Z at *
  have b1 : ∀ (x : List UInt8) (n : Nat), bytesOf ((x.map byteAV).take n) = some (x.take n) := fun x n => by rw [← List.map_take, bytesOf_map]
  have tk : key.take 32 = key := List.take_of_length_le (by omega)
  have sp : ∀ (x : List UInt8), x.length = N → ∀ k M, callFn SP (k + 5) 19 [.str key, .str x] M = some (.tuple [.str (sumR key x).1, .int .i64 (sumR key x).2], [], M) := fun x h k M => sumC k M key x (by omega)
  have sr : ∀ (x : List UInt8), x.length = N → ∀ k M, callFn SP (k + 5) 20 [.str key, .str x] M = some (.tuple [.str (sumR key x).1, .int .i64 (sumR key x).2], [], M) := fun x h k M => rsumC k M key x (by omega)
  rw [call_fn (by rfl) (by simp)]
  by_cases h0 : N = 0
  · have hZ : Z = [] := List.eq_nil_of_length_eq_zero (by omega)
    subst h0
    subst hZ
    have p1 := sp [] rfl
    have p2 := sr [] rfl
    generalize sumR key [] = P at *
    simp (disch := omega) [hk, hN1, if_pos]
    rw [ev_loop 1 (by simp) q (by omega)]
    simp (disch := omega) [hk, b1, tk, p1, p2, wakes, if_pos]
  · have hs : (Z.map byteAV).set (N - 1) (byteAV m) = (Z.set (N - 1) m).map byteAV := by rw [List.map_set]
    have hl2 : (Z.set (N - 1) m).length = N := by rw [List.length_set, hl]
    have p1 := sp _ hl2
    have p2 := sr _ hl2
    generalize Z.set (N - 1) m = Y at *
    generalize sumR key Y = P at *
    have ty : Y.take N = Y := List.take_of_length_le (by omega)
    have hp : (0 : Int) < N := by omega
    have hp2 : 0 < N := by omega
    have t0 : ((N : Int) - 1).toNat = N - 1 := by omega
    have t1 : 0 ≤ (N : Int) - 1 ∧ (N : Int) - 1 < N := by omega
    simp (disch := omega) [hk, hN1, if_pos]
    rw [ev_loop (N + 1) (by simp) q (by omega)]
    simp (disch := omega) [-List.map_set, hk, hl, hl2, hp, hp2, t0, t1, hs, b1, tk, ty, p1, p2, wakes, if_pos, IntWalk.i64_in]

theorem ev_PolyEnds (s : Scope) (args : List AV) (h : ArgsShp s [.arr 32 (.int .u8), .int .i64, .int .u8] args) : ∃ k M', callFn SP k 6 args [s, mk []] = some (.bool true, [], M') := by
  obtain ⟨_, _, rfl, h1, _, _, rfl, h2, _, _, rfl, h3, rfl⟩ := h
  obtain ⟨key, hk, rfl⟩ := ArgShp_arr8 h1
  obtain ⟨n, rfl, _⟩ := ArgShp_i64 h2
  obtain ⟨m, rfl⟩ := ArgShp_u8 h3
  exact ⟨7, _, law6 0 [s, mk []] key n m hk⟩
end Go.Proofs.Ytpaagjjgmlmngaa
